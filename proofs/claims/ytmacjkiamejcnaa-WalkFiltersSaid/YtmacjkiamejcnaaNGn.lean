/-
  List[int] and List[string] of the walks of WalkFilters: contracts.
  WalkFilters: raw runs.
  WalkFilters: what it computes.
-/
import Derived.Test.YtmacjkiamejcnaaNm
set_option linter.unusedVariables false
set_option linter.unusedSimpArgs false
set_option maxRecDepth 100000
namespace Go.Proofs.Ytmacjkiamejcnaa
open Go.RowKit
theorem envY_nat {en : Env} (hE : en.nat) {n : Nat} {y : YFn} (hy : y.nat) : ({ en with Y := some (n, y) } : Env).nat := ⟨hE.e, hE.h, hE.i, hE.n, hE.c, fun k y' h => by injection h with h; injection h with _ h; rw [← h]; exact hy⟩
section
open Wf
theorem ok_lhK : AllH NGt Wt [(24, hKeep)] := allH_cons (hE0_ok Try.func24 rfl (by decide)) allH_nil
theorem ok_lhT : AllH NGt Wt [(27, hTurn)] := allH_cons (hE0_ok Try.func27 rfl (by decide)) allH_nil
theorem ok_iFilW : IOK NGt Wt 59 (Wf.iFil gFoA) := evalJ_ok allOK_nil ok_lhK ok_liFr Try.func59 rfl (by decide)
theorem ok_iValW : IOK NGt Wt 63 (Wf.iVal gFoA) := evalJ_ok allOK_nil allH_nil (allI_cons ok_iFilW allI_nil) Try.func63 rfl (by decide)
theorem ok_iMapW : IOK NGt Wt 62 (Wf.iMap gFoA) := evalJ_ok allOK_nil ok_lhT (allI_cons ok_iValW allI_nil) Try.func62 rfl (by decide)
theorem ok_iTakW : IOK NGt Wt 64 (Wf.iTak gFoA) := evalJ_ok allOK_nil allH_nil (allI_cons ok_iMapW allI_nil) Try.func64 rfl (by decide)
theorem yL_natW : (Wf.yL gFoA).nat := rangeY_nat (round_nat (env_okH wokt allOK_nil allH_nil (allI_cons ok_iTakW allI_nil)).nat)
theorem yT_natW (nn : Int) : (Wf.yT gFoA nn).nat := rangeY_nat (round_nat (envY_nat (env_okH wokt allOK_nil allH_nil (allI_cons ok_iMapW allI_nil)).nat yL_natW))
theorem yM_natW (nn : Int) : (Wf.yM gFoA nn).nat := rangeY_nat (round_nat (envY_nat (env_okH wokt allOK_nil ok_lhT (allI_cons ok_iValW allI_nil)).nat (yT_natW nn)))
theorem yV_natW (nn : Int) : (Wf.yV gFoA nn).nat := rangeY_nat (round_nat (envY_nat (env_okH wokt allOK_nil allH_nil (allI_cons ok_iFilW allI_nil)).nat (yM_natW nn)))
/-- the whole chain -/
theorem wf_list {R : Type} (kk : List (List PV) → PV → Option R) (nn m a u : Int) (hm : m ≠ 0) {x : PV} {l : List (Ky × PV)} (hx : RfOK x [] l) (hl : l.length ≤ 900) (ha : 0 ≤ a) (ha2 : a + l.length ≤ 1000) (hu : 0 ≤ u) (hu2 : u + l.length ≤ 1000) (hn : nn ≤ 1000) :
    prunH (Wf.enFL gFoA) h0 0 Wf.fnL (Wf.bsL nn a u m x) [.clo 64 [.ptr 0 0, .ptr 1 0], .int .i64 1000] kk =
      bif decide (nn ≤ 0) then kk (Wf.bsL nn a u m x) (.tuple [isl [], .bool true]) else kk (Wf.bsL nn (wfGo m l a u nn []).1 (wfGo m l a u nn []).2.1 m x) (.tuple [isl (wfGo m l a u nn []).2.2, .bool true]) := by
  refine (Wf.wf_raw0 gFoA kk nn a u m hx.isR).trans ((evalJ_eq yL_natW).trans ((Wf.wf_raw1 gFoA kk nn a u m hx.isR).trans ?_))
  by_cases h : nn ≤ 0
  · rw [cond_t (b := decide (nn ≤ 0)) (decide_eq_true h), cond_t (b := decide (nn ≤ 0)) (decide_eq_true h)]
    exact Wf.wf_end0 gFoA kk nn a u m hx.isR
  · rw [cond_f (b := decide (nn ≤ 0)) (decide_eq_false h), cond_f (b := decide (nn ≤ 0)) (decide_eq_false h)]
    refine (evalJ_eq (yT_natW nn)).trans ((Wf.wf_raw2 gFoA kk nn a u m hx.isR).trans ((evalJ_eq (yM_natW nn)).trans ((Wf.wf_raw3 gFoA kk nn a u m hx.isR).trans ((evalJ_eq (yV_natW nn)).trans ((Wf.wf_raw4 gFoA kk nn a u m hx.isR).trans ?_)))))
    rw [hx.walk]
    exact wf_walk kk nn m hm hx l a a u nn [] hx.vok (by simpa using hl) ha ha2 hu hu2 (by omega) hn
end
theorem ok_iFilK : IOK NGt Wt 59 (Wk.iFil gFoA) := evalJ_ok allOK_nil allH_nil ok_liFr Try.func59 rfl (by decide)
theorem ok_iKeyK : IOK NGt Wt 65 (Wk.iKey gFoA) := evalJ_ok allOK_nil allH_nil (allI_cons ok_iFilK allI_nil) Try.func65 rfl (by decide)
theorem yL_natK : (Wk.yL gFoA).nat := rangeY_nat (round_nat (env_okH wokt allOK_nil allH_nil (allI_cons ok_iKeyK allI_nil)).nat)
theorem yK_natK : (Wk.yK gFoA).nat := rangeY_nat (round_nat (envY_nat (env_okH wokt allOK_nil allH_nil (allI_cons ok_iFilK allI_nil)).nat yL_natK))
theorem wk_list {R : Type} (kk : List (List PV) → PV → Option R) {x : PV} {l : List (Ky × PV)} (hx : RfOK x [] l) (hl : l.length ≤ 900) :
    prunH (Wk.enFL gFoA) h0 0 Wk.fnL (Wk.bsL x) [.clo 65 [.ptr 0 0], .int .i64 1000] kk = kk (Wk.bsL x) (.tuple [ssl (l.map (·.1)), .bool true]) := by
  refine (Wk.wk_raw0 gFoA kk hx.isR).trans ((evalJ_eq yL_natK).trans ((Wk.wk_raw1 gFoA kk hx.isR).trans ((evalJ_eq yK_natK).trans ((Wk.wk_raw2 gFoA kk hx.isR).trans ?_))))
  rw [hx.walk]
  exact wk_walk2 kk hx l [] hx.vok (by simpa using hl)
def hLstI : HFn := ⟨fun bs xs k => match bs, xs with
  | [[.clo g1 [.ptr 2 0, .ptr 3 0]], [.int .i64 nn], [.clo g2 [.ptr 4 0]], [.clo g3 [.ptr 5 0]], [.clo g4 [.ptr 6 0, .ptr 7 0]], [.int .i64 u], [.clo g5 [.ptr 8 0, .ptr 9 0]], [.clo g6 [.ptr 10 0, .ptr 11 0]], [.ptr 12 0], [.str q], [.int .i64 a], [.int .i64 m], [x]], [.clo g7 [.ptr 0 0, .ptr 1 0], .int .i64 w] =>
    bif g1 == 62 && (g2 == 63 && (g3 == 27 && (g4 == 59 && (g5 == 60 && (g6 == 24 && (g7 == 64 && (q == [] && (w == 1000 && !(m == 0))))))))) then
      (gRf x []).bind fun l => bif decide (l.length ≤ 900) && (decide (0 ≤ a) && (decide (a + l.length ≤ 1000) && (decide (0 ≤ u) && (decide (u + l.length ≤ 1000) && decide (nn ≤ 1000))))) then
        bif decide (nn ≤ 0) then k (Wf.bsL nn a u m x) (.tuple [isl [], .bool true]) else k (Wf.bsL nn (wfGo m l a u nn []).1 (wfGo m l a u nn []).2.1 m x) (.tuple [isl (wfGo m l a u nn []).2.2, .bool true])
      else none
    else none
  | _, _ => none⟩
theorem ok_lstI : HOK NGt Wt 28 hLstI := by
  refine hok wokt allOK_nil allH_nil (allI_cons ok_iTakW allI_nil) (h := h0) Try.func28 rfl (by decide) ?_ ?_
  · intro R bs xs k
    simp only [hLstI]
    split
    · rw [bif_bind, obind_assoc]; congr 2; funext l; rw [bif_bind, bif_bind2]; rfl
    · rfl
  · intro bs xs r h
    simp only [hLstI] at h
    split at h
    · rename_i g1 nn g2 g3 g4 u g5 g6 q a m x g7 w
      replace h := bif_inv h
      obtain ⟨hg, h⟩ := h
      replace h := bind_some_inv h
      obtain ⟨l, hl, h⟩ := h
      replace h := bif_inv h
      obtain ⟨hb, h⟩ := h
      simp only [Bool.and_eq_true, beq_iff_eq, Bool.not_eq_true', beq_eq_false_iff_ne] at hg
      simp only [Bool.and_eq_true, decide_eq_true_eq] at hb
      obtain ⟨rfl, rfl, rfl, rfl, rfl, rfl, rfl, rfl, rfl, hm⟩ := hg
      have hx := gRf_ok hl
      exact ⟨0, (wf_list _ nn m a u hm hx hb.1 hb.2.1 hb.2.2.1 hb.2.2.2.1 hb.2.2.2.2.1 hb.2.2.2.2.2).trans h⟩
    · cases h
def hLstS : HFn := ⟨fun bs xs k => match bs, xs with
  | [[.clo g1 [.ptr 1 0, .ptr 2 0]], [.clo g2 [.ptr 3 0, .ptr 4 0]], [.nilFunc], [.ptr 5 0], [.str q], [x]], [.clo g3 [.ptr 0 0], .int .i64 w] =>
    bif g1 == 59 && (g2 == 60 && (g3 == 65 && (q == [] && w == 1000))) then
      (gRf x []).bind fun l => bif decide (l.length ≤ 900) then k (Wk.bsL x) (.tuple [ssl (l.map (·.1)), .bool true]) else none
    else none
  | _, _ => none⟩
theorem ok_lstS : HOK NGt Wt 31 hLstS := by
  refine hok wokt allOK_nil allH_nil (allI_cons ok_iKeyK allI_nil) (h := h0) Try.func31 rfl (by decide) ?_ ?_
  · intro R bs xs k
    simp only [hLstS]
    split
    · rw [bif_bind, obind_assoc]; congr 2; funext l; rw [bif_bind]; rfl
    · rfl
  · intro bs xs r h
    simp only [hLstS] at h
    split at h
    · rename_i g1 g2 q x g3 w
      replace h := bif_inv h
      obtain ⟨hg, h⟩ := h
      replace h := bind_some_inv h
      obtain ⟨l, hl, h⟩ := h
      replace h := bif_inv h
      obtain ⟨hb, h⟩ := h
      simp only [Bool.and_eq_true, beq_iff_eq] at hg
      simp only [decide_eq_true_eq] at hb
      obtain ⟨rfl, rfl, rfl, rfl, rfl⟩ := hg
      exact ⟨0, (wk_list _ (gRf_ok hl) hb).trans h⟩
    · cases h
end Go.Proofs.Ytmacjkiamejcnaa
set_option linter.unusedVariables false
set_option linter.unusedSimpArgs false
set_option maxRecDepth 100000
namespace Go.Proofs.Ytmacjkiamejcnaa
open Go.RowKit
/-! ## Ints -/
def intsAt {S : Type} (n : Nat) (c : List PV) (i : Int) (k : Int → Option S) : Option S := bif decide (0 ≤ i) && decide (i < (n : Int)) then ((c.drop (i.toNat * 1)).take 1).head?.bind fun v => (v.asInt .i64).bind k else none
def frIn (na : Option Bool) (la : Nat) (ca : List PV) (nb : Option Bool) (lb : Nat) (cb : List PV) (L i : Int) : St := frame 26 [(0, (.sl na 1 la ca, 0)), (1, (.sl nb 1 lb cb, 0)), (12, (.int .i64 L, 0)), (13, (.int .i64 i, 0))] []
noncomputable def inLoop (fu n : Nat) (st : St) : Option PV := loopF (en []) hTx fu false Try.f30 [1, 1, 0, 1, 0] 0 n st
theorem in_raw (fu : Nat) (na : Option Bool) (la : Nat) (ca : List PV) (nb : Option Bool) (lb : Nat) (cb : List PV) :
    prun (en []) hTx fu false Try.f30 [.sl na 1 la ca, .sl nb 1 lb cb] = bif (la : Int) != (lb : Int) then some (.bool false) else inLoop fu fu (frIn na la ca nb lb cb (la : Int) 0) := prunN_eq.trans (by kernel_rfl)
theorem in_step (fu : Nat) (na : Option Bool) (la : Nat) (ca : List PV) (nb : Option Bool) (lb : Nat) (cb : List PV) (L i : Int) (K : St → Option PV) :
    stepF (en []) hTx fu false Try.f30 [1, 1, 0, 1, 0] (frIn na la ca nb lb cb L i) (fun st => pnorm (hTx.loop.lookup 0) st K) =
      bif decide (i < L) then intsAt la ca i fun s => intsAt lb cb i fun s' => bif s != s' then some (.bool false) else K (frIn na la ca nb lb cb L (IntKind.i64.wrap (i + 1)))
      else some (.bool true) := by kernel_rfl
def inDec : List PV → Option (List Int)
  | [] => some []
  | .int .i64 v :: c => (inDec c).bind fun l => some (v :: l)
  | _ => none
def p_ints : PFn := ⟨fun xs k => match xs with | [.sl na 1 la ca, .sl nb 1 lb cb] => (inDec ca).bind fun a => (inDec cb).bind fun b => bif decide (a.length = la) && (decide (b.length = lb) && (decide (a = b) && decide (la ≤ 100000))) then k (.bool true) else none | _ => none, false⟩
/-! ## the law -/
noncomputable def iMap0 : IFn := evalI [] [] [] h0 0 Try.f62
noncomputable def lWf : List (FuncId × PFn) := [(10, p_first9), (30, p_ints)]
noncomputable def lhWf : List (FuncId × HFn) := [(11, hPairs), (23, hFrom 60), (22, hE0 Try.f22), (26, hE0 Try.f26), (25, hE0 Try.f25), (29, hE0 Try.f29), (32, hE0 Try.f32), (34, hE0 Try.f34),
  (28, hLstI), (31, hLstS), (33, evalH [] [] [(62, iMap0)] h0 9 Try.f33)]
noncomputable def enWf : Env := enTx lWf lhWf
noncomputable def fWf : Func := Try.f5
noncomputable def wfC : Code := fWf.body.getD .skip
def hWf : Hints := ⟨[(0, ⟨[(7, false), (8, false), (10, false), (11, false), (15, false), (16, false), (17, false), (18, false)], [10, 11, 29]⟩)], [(2, ⟨[(8, false), (21, false), (105, false), (106, false), (107, false)], []⟩), (0, ⟨[(7, false), (8, false), (9, false), (10, false), (11, false), (14, false), (15, false), (16, false), (17, true), (18, false), (54, false), (55, false), (56, false)], [9, 10, 11, 29]⟩)]⟩
def frWfH (s1 : PV) (mo st : Int) (x l : PV) : St := ⟨(List.range 138).map fun i => (([(0, (s1, 0)), (1, (.int .u8 mo, 0)), (2, (.int .u8 st, 0)), (6, (.bool false, 0)), (25, (.bool true, 0)), (26, (.bool false, 0)), (28, (s1, 0)), (29, (.tupp [.ptr 29 0, l], 0)), (27, (.tupp [.ptr 29 0, l], 0)), (30, (.ptr 29 0, 0)), (31, (l, 0)), (7, (.ptr 29 0, 0)), (8, (l, 0))] : List (Nat × TV)).lookup i).getD (.tuple [], 0), (List.range 138).map fun i => ([(29, [(x, 0)])] : List (Nat × List TV)).lookup i, .nil⟩
theorem wf_head (fu : Nat) (nm : List Nat → Nat → St → Option PV) (KM : St → Option PV) (na : Option Bool) (la : Nat) (ca : List PV) (mo st : Int) :
    pcodeU enWf hWf fu (pfin enWf false fWf) nm KM [1, 1, 1] wfC [] 0 (st0 fWf.ntmps [.sl na 1 la ca, .int .u8 mo, .int .u8 st]) (pfin enWf false fWf) [] =
      (gStrs la ca).bind fun ks => rootK (prGo ks 0 .nilptr []).1 fun x => KM (frWfH (.sl na 1 la ca) mo st x (pSl (prGo ks 0 .nilptr []).2)) := by kernel_rfl
noncomputable def wfRest (fu : Nat) : St → Option PV := restAt enWf hWf fu (pfin enWf false fWf) (fun p cur st => loopF enWf hWf fu false fWf p cur fu st) [1, 1, 1] wfC [] 0 (pfin enWf false fWf) []
def wfP0 : List Nat := [1, 1, 1, 1, 1, 1, 1, 1, 1, 1, 1, 0, 1, 0]
def wfP2 : List Nat := [1, 1, 1, 1, 1, 1, 1, 1, 1, 1, 1, 1, 1, 1, 0, 1, 0]
noncomputable def wfLoop0 (fu n : Nat) (st : St) : Option PV := loopF enWf hWf fu false fWf wfP0 0 n st
noncomputable def wfLoop2 (fu n : Nat) (st : St) : Option PV := loopF enWf hWf fu false fWf wfP2 2 n st
def frWf0 (x l : PV) (m a u nn : Int) (got : PV) (wo : Option Bool) (wn : Nat) (wc : List PV) (must : Int) (nl : Option Bool) (n : Nat) (c : List PV) (L i : Int) : St := frameX 138 142 [(7, (.ptr 29 0, 0)), (8, (l, 0)), (9, (.ptr 9 0, 0)), (10, (.ptr 10 0, 0)), (11, (.ptr 11 0, 0)), (14, (.int .i64 nn, 0)), (15, (got, 0)), (16, (.bool true, 0)), (17, (.sl wo 1 wn wc, 157)), (18, (.int .i64 must, 0)), (54, (.sl nl 2 n c, 0)), (55, (.int .i64 L, 0)), (56, (.int .i64 i, 0))] [(9, [(.int .i64 m, 0)]), (10, [(.int .i64 a, 0)]), (11, [(.int .i64 u, 0)]), (29, [(x, 0)])]
def onWf {S : Type} (bs : List (List PV)) (v : PV) (k : Int → Int → Option Bool → Nat → List PV → Option S) : Option S :=
  match bs with
  | [_, _, _, _, _, [.int .i64 u], _, _, _, _, [.int .i64 a], _, _] => match v with
    | .tuple [.sl g 1 n c, .bool true] => k a u g n c
    | _ => none
  | _ => none
def mOf (mo : Int) : Int := IntKind.i64.wrap (1 + IntKind.i64.wrap (mo.tmod 4))
def nOf (st : Int) : Int := IntKind.i64.wrap (st.tmod 20)
theorem wf_rest (fu : Nat) {x : PV} (hx : IsR x) (s1 : PV) (mo st : Int) (lf : Option Bool) (ln : Nat) (lc : List PV) :
    wfRest fu (frWfH s1 mo st x (.sl lf 2 ln lc)) = hLstI.F (Wf.bsL (nOf st) 0 0 (mOf mo) x) [.clo 64 [.ptr 0 0, .ptr 1 0], .int .i64 1000] fun bs v => onWf bs v fun a u g n c =>
      wfLoop0 fu fu (frWf0 x (.sl lf 2 ln lc) (mOf mo) a u (nOf st) (.sl g 1 n c) (some true) 0 [] 0 lf ln lc (ln : Int) 0) := by
  rcases hx with rfl | ⟨cx, rfl⟩ <;> kernel_rfl
def frWf1 (x l : PV) (a u : Int) (got : PV) (wo : Option Bool) (wn : Nat) (wc : List PV) (must : Int) : St := frameX 138 142 [(7, (.ptr 29 0, 0)), (8, (l, 0)), (10, (.ptr 10 0, 0)), (11, (.ptr 11 0, 0)), (15, (got, 0)), (16, (.bool true, 0)), (17, (.sl wo 1 wn wc, 0)), (18, (.int .i64 must, 0))] [(10, [(.int .i64 a, 0)]), (11, [(.int .i64 u, 0)]), (29, [(x, 0)])]
def frWf2 (ks : PV) (lf : Option Bool) (ln : Nat) (lc : List PV) (nl : Option Bool) (n : Nat) (c : List PV) (L i : Int) : St := frameX 138 144 [(8, (.sl lf 2 ln lc, 0)), (21, (ks, 0)), (105, (.sl nl 2 n c, 0)), (106, (.int .i64 L, 0)), (107, (.int .i64 i, 0))] []
noncomputable def wfTail0 (fu : Nat) (st : St) : Option PV := pcodeN enWf hWf fu (pfin enWf false fWf) (fun p cur st => loopF enWf hWf fu false fWf p cur fu st) (subC [1, 1, 1, 1, 1, 1, 1, 1, 1, 1, 1, 1] wfC) [1, 1, 1, 1, 1, 1, 1, 1, 1, 1, 1, 1] 0 st (pfin enWf false fWf) []
theorem wf_step0 (fu : Nat) {x : PV} (hx : IsR x) (lf : Option Bool) (ln : Nat) (lc : List PV) (m a u nn : Int) (go : Option Bool) (gn : Nat) (gc : List PV) (wo : Option Bool) (wn : Nat) (wc : List PV) (must : Int) (nl : Option Bool) (n : Nat) (c : List PV) (L i : Int) (K : St → Option PV) :
    stepF enWf hWf fu false fWf wfP0 (frWf0 x (.sl lf 2 ln lc) m a u nn (.sl go 1 gn gc) wo wn wc must nl n c L i) (fun st => pnorm (hWf.loop.lookup 0) st K) =
      bif decide (i < L) then pairAt n c i fun s v => bif (wn : Int) == nn then wfTail0 fu (frWf1 x (.sl lf 2 ln lc) a u (.sl go 1 gn gc) wo wn wc must) else bif m == 0 then none else
        bif v.tmod m == 0 then Wf.apI wn 1 (K (frWf0 x (.sl lf 2 ln lc) m a u nn (.sl go 1 gn gc) (wo.map (· && (1 == 0))) (wn + 1) (wc ++ [.int .i64 (IntKind.i64.wrap (2 * v))]) (IntKind.i64.wrap (must + 1)) nl n c L (IntKind.i64.wrap (i + 1))))
        else K (frWf0 x (.sl lf 2 ln lc) m a u nn (.sl go 1 gn gc) wo wn wc (IntKind.i64.wrap (must + 1)) nl n c L (IntKind.i64.wrap (i + 1)))
      else wfTail0 fu (frWf1 x (.sl lf 2 ln lc) a u (.sl go 1 gn gc) wo wn wc must) := by
  have g : ∀ KN nm, stepG enWf hWf fu (pfin enWf false fWf) fWf wfP0 nm 0 [(0, KN)] (frWf0 x (.sl lf 2 ln lc) m a u nn (.sl go 1 gn gc) wo wn wc must nl n c L i) (fun st => pnorm (hWf.loop.lookup 0) st K) =
      bif decide (i < L) then pairAt n c i fun s v => bif (wn : Int) == nn then KN (frWf1 x (.sl lf 2 ln lc) a u (.sl go 1 gn gc) wo wn wc must) else bif m == 0 then none else
        bif v.tmod m == 0 then Wf.apI wn 1 (K (frWf0 x (.sl lf 2 ln lc) m a u nn (.sl go 1 gn gc) (wo.map (· && (1 == 0))) (wn + 1) (wc ++ [.int .i64 (IntKind.i64.wrap (2 * v))]) (IntKind.i64.wrap (must + 1)) nl n c L (IntKind.i64.wrap (i + 1))))
        else K (frWf0 x (.sl lf 2 ln lc) m a u nn (.sl go 1 gn gc) wo wn wc (IntKind.i64.wrap (must + 1)) nl n c L (IntKind.i64.wrap (i + 1)))
      else KN (frWf1 x (.sl lf 2 ln lc) a u (.sl go 1 gn gc) wo wn wc must) := by
    intro KN nm
    rcases hx with rfl | ⟨cx, rfl⟩ <;> kernel_rfl
  exact (stepF_eq (by decide)).trans (g (wfTail0 fu) (nmF enWf hWf fu fWf fun st => pnorm (hWf.loop.lookup 0) st K))
def onS1 {S : Type} (v : PV) (k : PV → Option S) : Option S := match v with | .tuple [.sl g 1 n c, .bool true] => k (.sl g 1 n c) | _ => none
theorem wf_tail0 (fu : Nat) {x : PV} (hx : IsR x) (lf : Option Bool) (ln : Nat) (lc : List PV) (a u : Int) (go : Option Bool) (gn : Nat) (gc : List PV) (wo : Option Bool) (wn : Nat) (wc : List PV) (must : Int) :
    wfTail0 fu (frWf1 x (.sl lf 2 ln lc) a u (.sl go 1 gn gc) wo wn wc must) = p_ints.F [.sl go 1 gn gc, .sl wo 1 wn wc] fun w => onB w fun b =>
      bif !(bif !b then true else !(a == must)) then bif !(u == (wn : Int)) then some (.bool false) else
        hLstS.F (Wk.bsL x) [.clo 65 [.ptr 0 0], .int .i64 1000] fun _ v => onS1 v fun ks => wfLoop2 fu fu (frWf2 ks lf ln lc lf ln lc (ln : Int) 0)
      else some (.bool false) := by
  rcases hx with rfl | ⟨cx, rfl⟩ <;> kernel_rfl
def wfEnd (kn ln : Nat) : Option PV := bif (kn : Int) == (ln : Int) then some (.bool true) else some (.bool false)
theorem wf_step2 (fu : Nat) (kf : Option Bool) (kn : Nat) (kc : List PV) (lf : Option Bool) (ln : Nat) (lc : List PV) (nl : Option Bool) (n : Nat) (c : List PV) (L i : Int) (K : St → Option PV) :
    stepF enWf hWf fu false fWf wfP2 (frWf2 (.sl kf 1 kn kc) lf ln lc nl n c L i) (fun st => pnorm (hWf.loop.lookup 2) st K) =
      bif decide (i < L) then pairAt n c i fun s v => bif !decide ((kn : Int) ≤ i) then strsAt kn kc i fun s' => bif s' != s then some (.bool false) else K (frWf2 (.sl kf 1 kn kc) lf ln lc nl n c L (IntKind.i64.wrap (i + 1))) else some (.bool false)
      else wfEnd kn ln := (stepF_eq (by decide)).trans (by kernel_rfl)
end Go.Proofs.Ytmacjkiamejcnaa
set_option linter.unusedVariables false
set_option linter.unusedSimpArgs false
set_option maxRecDepth 100000
namespace Go.Proofs.Ytmacjkiamejcnaa
open Go.RowKit
theorem inDec_inv : ∀ {c : List PV} {l : List Int}, inDec c = some l → c = l.map (PV.int .i64)
  | [], l, h => by
    simp [inDec] at h
    subst h
    rfl
  | x :: c, l, h => by
    unfold inDec at h
    split at h
    · rename_i e; cases e
    · rename_i v c' e
      injection e with e1 e2
      subst e1 e2
      obtain ⟨l', h1, h2⟩ := bind_some_inv h
      injection h2 with h2
      subst h2
      rw [List.map_cons, ← inDec_inv h1]
    · cases h
theorem inDec_map : ∀ (l : List Int), inDec (l.map (PV.int .i64)) = some l
  | [] => rfl
  | v :: l => by rw [List.map_cons]; simp only [inDec]; rw [inDec_map l]; rfl
theorem intsAt_eq {S : Type} {l : List Int} {i : Nat} {u : Int} (h : l[i]? = some u) (k : Int → Option S) : intsAt l.length (l.map (PV.int .i64)) (i : Int) k = k u := by
  have hi := (List.getElem?_eq_some_iff.1 h).1
  unfold intsAt
  rw [cond_t (by rw [decide_eq_true (by omega), decide_eq_true (by omega)]; rfl), Int.toNat_natCast, Nat.mul_one, List.head?_take, if_neg (by decide), List.head?_drop, List.getElem?_map, h]
  rfl
theorem in_loop {a : List Int} (hl : a.length ≤ 100000) (fu : Nat) (na nb : Option Bool) : ∀ (m i n : Nat), i + m = a.length → m < n → inLoop fu n (frIn na a.length (a.map (PV.int .i64)) nb a.length (a.map (PV.int .i64)) (a.length : Int) (i : Int)) = some (.bool true)
  | m, i, 0, hi, hn => by omega
  | 0, i, n + 1, hi, hn => by
    unfold inLoop
    rw [loopF_succ, in_step, cond_f (decide_eq_false (by omega))]
  | m + 1, i, n + 1, hi, hn => by
    have hp : a[i]? = some a[i] := List.getElem?_eq_getElem (by omega)
    have ih := in_loop hl fu na nb m (i + 1) n (by omega) (by omega)
    unfold inLoop at ih ⊢
    rw [loopF_succ, in_step, cond_t (decide_eq_true (by omega)), intsAt_eq hp, intsAt_eq hp, cond_f (by simp), wrapI_of (by omega) (by omega)]
    exact ih
theorem ok_ints : FOK NGt Wt 30 p_ints := by
  refine fok wokt allOK_nil (h := hTx) Try.func30 rfl (by decide) ?_ ?_
  · intro R xs k
    simp only [p_ints]
    split
    · rw [obind_assoc]; congr 1; funext a; rw [obind_assoc]; congr 1; funext b; rw [bif_bind]; rfl
    · rfl
  · intro xs r h
    simp only [p_ints] at h
    split at h
    · rename_i na la ca nb lb cb
      replace h := bind_some_inv h
      obtain ⟨a, ha, h⟩ := h
      replace h := bind_some_inv h
      obtain ⟨b, hb, h⟩ := h
      replace h := bif_inv h
      obtain ⟨hg, h⟩ := h
      simp only [Bool.and_eq_true, decide_eq_true_eq] at hg
      obtain ⟨g1, g2, g3, g4⟩ := hg
      have e1 := inDec_inv ha
      have e2 := inDec_inv hb
      rw [← g3] at e2 g2
      rw [e1, e2, ← g1, ← g2]
      refine ⟨a.length + 1, (in_raw ..).trans ?_⟩
      rw [cond_f (by simp)]
      exact (in_loop (by omega) (a.length + 1) na nb a.length 0 (a.length + 1) (by omega) (by omega)).trans h
    · cases h
theorem ints_law {R : Type} {a : List Int} (ha : a.length ≤ 100000) (K : PV → Option R) : p_ints.F [isl a, isl a] K = K (.bool true) := by
  simp only [p_ints, isl]
  rw [inDec_map, Option.bind_some, Option.bind_some, cond_t]
  simp [ha]
theorem ok_iMap0 : IOK NGt Wt 62 iMap0 := evalI_ok allOK_nil allH_nil allI_nil Try.func62 rfl (by decide)
theorem ok_enWf : EnvOK enWf NGt Wt := env_okR (env_okA wokt (allOK_cons ok_first9 (allOK_cons ok_ints allOK_nil))
  (allH_cons ok_pairs (allH_cons ok_from (allH_cons (hE0_ok Try.func22 rfl (by decide)) (allH_cons (hE0_ok Try.func26 rfl (by decide)) (allH_cons (hE0_ok Try.func25 rfl (by decide)) (allH_cons (hE0_ok Try.func29 rfl (by decide)) (allH_cons (hE0_ok Try.func32 rfl (by decide)) (allH_cons (hE0_ok Try.func34 rfl (by decide))
    (allH_cons ok_lstI (allH_cons ok_lstS (allH_cons (evalH_ok wokt allOK_nil allH_nil (allI_cons ok_iMap0 allI_nil) Try.func33 rfl (by decide)) allH_nil))))))))))) allI_nil allN_nil allC_nil) _
theorem wfGo_u (m : Int) : ∀ (L : List (Ky × PV)) (b u k : Int) (out : List Int), u = (out.length : Int) → (wfGo m L b u k out).2.1 = ((wfGo m L b u k out).2.2.length : Int)
  | [], b, u, k, out, h => h
  | p :: L, b, u, k, out, h => by
    simp only [wfGo]
    have h2 : u + 1 = ((out ++ [IntKind.i64.wrap (2 * valP p.2)]).length : Int) := by simp; omega
    cases (valP p.2).tmod m == 0 with
    | true =>
      rw [cond_true]
      cases k - 1 == 0 with
      | true => exact h2
      | false => rw [cond_false]; exact wfGo_u m L _ _ _ _ h2
    | false => rw [cond_false]; exact wfGo_u m L _ _ _ _ h
theorem wfGo_len (m : Int) : ∀ (L : List (Ky × PV)) (b u k : Int) (out : List Int), (wfGo m L b u k out).2.2.length ≤ out.length + L.length
  | [], b, u, k, out => by simp [wfGo]
  | p :: L, b, u, k, out => by
    simp only [wfGo]
    have h1 := wfGo_len m L (b + 1) (u + 1) (k - 1) (out ++ [IntKind.i64.wrap (2 * valP p.2)])
    have h2 := wfGo_len m L (b + 1) u k out
    rw [List.length_append] at h1
    have e : ([IntKind.i64.wrap (2 * valP p.2)] : List Int).length = 1 := rfl
    rw [List.length_cons]
    cases (valP p.2).tmod m == 0 with
    | true =>
      rw [cond_true]
      cases k - 1 == 0 with
      | true => rw [cond_true]; simp
      | false => rw [cond_false]; omega
    | false => rw [cond_false]; omega
section
variable {x : PV} {l : List (Ky × PV)} (hx : RootIs x l) (hl : l.length ≤ 60) (m : Int) (hm : m ≠ 0) (a u nn : Int) (g : List Int)
include hx hl hm
theorem wf_loop0 (fu : Nat) : ∀ (j i n : Nat) (w : List Int), i + j = l.length → j < n → w.length ≤ i → (w.length : Int) < nn → ∀ u0 : Int,
    wfLoop0 fu n (frWf0 x (pSl l) m a u nn (isl g) (some w.isEmpty) w.length (w.map (PV.int .i64)) (i : Int) (some l.isEmpty) l.length (pcs l) (l.length : Int) (i : Int)) =
      wfTail0 fu (frWf1 x (pSl l) a u (isl g) (some (wfGo m (l.drop i) (i : Int) u0 (nn - w.length) w).2.2.isEmpty) (wfGo m (l.drop i) (i : Int) u0 (nn - w.length) w).2.2.length ((wfGo m (l.drop i) (i : Int) u0 (nn - w.length) w).2.2.map (PV.int .i64)) (wfGo m (l.drop i) (i : Int) u0 (nn - w.length) w).1)
  | j, i, 0, w, hi, hn, hw, hwn, u0 => by omega
  | 0, i, n + 1, w, hi, hn, hw, hwn, u0 => by
    unfold wfLoop0
    rw [loopF_succ]
    unfold pSl isl
    rw [wf_step0 fu hx.isR, cond_f (decide_eq_false (by omega)), List.drop_eq_nil_of_le (by omega)]
    rfl
  | j + 1, i, n + 1, w, hi, hn, hw, hwn, u0 => by
    have hp : l[i]? = some l[i] := List.getElem?_eq_getElem (by omega)
    have hv := hx.vok _ (List.getElem_mem (show i < l.length by omega))
    have ih := fun w h1 h2 => wf_loop0 fu j (i + 1) n w (by omega) (by omega) h1 h2
    rw [drop_cons_some hp]
    unfold wfLoop0 at ih ⊢
    rw [loopF_succ]
    unfold pSl isl at ih ⊢
    rw [wf_step0 fu hx.isR, cond_t (decide_eq_true (by omega)), pairAt_eq hp hv, cond_f (b := (w.length : Int) == nn) (beq_eq_false_iff_ne.2 (by omega)), cond_f (b := m == 0) (beq_eq_false_iff_ne.2 hm), wrapI_of (x := (i : Int) + 1) (by omega) (by omega)]
    simp only [wfGo]
    cases hq : (valP l[i].2).tmod m == 0 with
    | false =>
      rw [cond_false, cond_false]
      exact ih w (by omega) hwn u0
    | true =>
      rw [cond_true, cond_true, apI_t (by omega), flag_int (p := IntKind.i64.wrap (2 * valP l[i].2)), int_one, show w.length + 1 = (w ++ [IntKind.i64.wrap (2 * valP l[i].2)]).length by simp]
      have hwl : (w ++ [IntKind.i64.wrap (2 * valP l[i].2)]).length = w.length + 1 := by simp
      generalize w ++ [IntKind.i64.wrap (2 * valP l[i].2)] = w' at hwl
      by_cases hk : nn - (w.length : Int) - 1 = 0
      · rw [cond_t (b := nn - (w.length : Int) - 1 == 0) (by simpa using hk)]
        cases j with
        | zero =>
          obtain ⟨n, rfl⟩ : ∃ n', n = n' + 1 := ⟨n - 1, by omega⟩
          · rw [loopF_succ, show ((i : Int) + 1) = ((i + 1 : Nat) : Int) from rfl, wf_step0 fu hx.isR, cond_f (decide_eq_false (by omega))]
        | succ j =>
          obtain ⟨n, rfl⟩ : ∃ n', n = n' + 1 := ⟨n - 1, by omega⟩
          · have hp2 : l[i + 1]? = some l[i + 1] := List.getElem?_eq_getElem (by omega)
            have hv2 := hx.vok _ (List.getElem_mem (show i + 1 < l.length by omega))
            rw [loopF_succ, show ((i : Int) + 1) = ((i + 1 : Nat) : Int) from rfl, wf_step0 fu hx.isR, cond_t (decide_eq_true (by omega)), pairAt_eq hp2 hv2, cond_t (b := (w'.length : Int) == nn) (by rw [beq_iff_eq]; omega)]
      · rw [cond_f (b := nn - (w.length : Int) - 1 == 0) (beq_eq_false_iff_ne.2 hk), show nn - (w.length : Int) - 1 = nn - (w'.length : Int) by omega]
        exact ih w' (by omega) (by omega) (u0 + 1)
end
theorem wf_loop2 {l : List (Ky × PV)} (hv : ∀ p ∈ l, vok p.2 = true) (hl : l.length ≤ 60) (fu : Nat) : ∀ (j i n : Nat), i + j = l.length → j < n →
    wfLoop2 fu n (frWf2 (ssl (l.map (·.1))) (some l.isEmpty) l.length (pcs l) (some l.isEmpty) l.length (pcs l) (l.length : Int) (i : Int)) = some (.bool true)
  | j, i, 0, hi, hn => by omega
  | 0, i, n + 1, hi, hn => by
    unfold wfLoop2
    rw [loopF_succ]
    unfold ssl
    rw [wf_step2 fu, cond_f (decide_eq_false (by omega))]
    unfold wfEnd
    rw [cond_t (by simp)]
  | j + 1, i, n + 1, hi, hn => by
    have hp : l[i]? = some l[i] := List.getElem?_eq_getElem (by omega)
    have hvp := hv _ (List.getElem_mem (show i < l.length by omega))
    have hk : (l.map (·.1))[i]? = some l[i].1 := by rw [List.getElem?_map, hp]; rfl
    have ih := wf_loop2 hv hl fu j (i + 1) n (by omega) (by omega)
    unfold wfLoop2 at ih ⊢
    rw [loopF_succ]
    unfold ssl at ih ⊢
    rw [wf_step2 fu, cond_t (decide_eq_true (by omega)), pairAt_eq hp hvp, cond_t (b := !decide _) (by rw [decide_eq_false (by simp; omega)]; rfl), strsM_eq hk, cond_f (by simp), wrapI_of (by omega) (by omega)]
    exact ih
theorem wf_true (ks : List Ky) (na : Option Bool) (mo st : Int) (h1 : 0 ≤ mo ∧ mo ≤ 255) (h2 : 0 ≤ st ∧ st ≤ 255) : prun enWf hWf 1000 false fWf [.sl na 1 ks.length (ks.map PV.str), .int .u8 mo, .int .u8 st] = some (.bool true) := by
  refine (prun_U (c := wfC) rfl [1, 1, 1]).trans ?_
  refine (wf_head 1000 _ _ na _ _ mo st).trans ?_
  obtain ⟨hx, hl⟩ := prGo_root ks 0 .nilptr [] (by omega) (.inl ⟨rfl, rfl⟩) (by simp)
  rw [gStrs_map, Option.bind_some, rootK_eq hx.isR]
  generalize (prGo ks 0 .nilptr []).1 = x at hx ⊢
  generalize (prGo ks 0 .nilptr []).2 = l at hx hl ⊢
  refine (wf_rest 1000 hx.isR _ mo st _ _ _).trans ?_
  have hm : 1 ≤ mOf mo ∧ mOf mo ≤ 4 := by
    unfold mOf
    have q1 : 0 ≤ mo.tmod 4 := Int.tmod_nonneg 4 h1.1
    have q2 : mo.tmod 4 < 4 := Int.tmod_lt_of_pos mo (by omega)
    rw [wrapI_of (x := mo.tmod 4) (by omega) (by omega), wrapI_of (by omega) (by omega)]
    omega
  have hn : 0 ≤ nOf st ∧ nOf st ≤ 20 := by
    unfold nOf
    have q1 : 0 ≤ st.tmod 20 := Int.tmod_nonneg 20 h2.1
    have q2 : st.tmod 20 < 20 := Int.tmod_lt_of_pos st (by omega)
    rw [wrapI_of (x := st.tmod 20) (by omega) (by omega)]
    omega
  generalize mOf mo = m at hm ⊢
  generalize nOf st = nn at hn ⊢
  have fin : ∀ (a u : Int) (w : List Int) (must : Int), a = must → u = (w.length : Int) → w.length ≤ 100000 → wfTail0 1000 (frWf1 x (pSl l) a u (isl w) (some w.isEmpty) w.length (w.map (PV.int .i64)) must) = some (.bool true) := fun a u w must e1 e2 hw => by
    have t1 := fun {R : Type} (K : PV → Option R) => ints_law (R := R) hw K
    unfold isl at t1 ⊢
    unfold pSl
    rw [wf_tail0 1000 hx.isR, t1]
    simp only [onB]
    rw [e1, e2, show ((must == must) = true) by simp, cond_t (b := !(bif !true then true else !true)) rfl, cond_f (by simp)]
    have e3 : ∀ {R : Type} (K : List (List PV) → PV → Option R), hLstS.F (Wk.bsL x) [.clo 65 [.ptr 0 0], .int .i64 1000] K = K (Wk.bsL x) (.tuple [ssl (l.map (·.1)), .bool true]) := fun K => by
      simp only [hLstS, Wk.bsL]
      rw [cond_t (by rfl), gRf_of hx (by omega), from_nil, Option.bind_some, cond_t (decide_eq_true (by omega))]
    rw [e3]
    simp only [onS1, ssl]
    have := wf_loop2 hx.vok hl 1000 l.length 0 1000 (by omega) (by omega)
    unfold ssl at this
    exact this
  have e0 : ∀ {R : Type} (K : List (List PV) → PV → Option R), hLstI.F (Wf.bsL nn 0 0 m x) [.clo 64 [.ptr 0 0, .ptr 1 0], .int .i64 1000] K = bif decide (nn ≤ 0) then K (Wf.bsL nn 0 0 m x) (.tuple [isl [], .bool true]) else K (Wf.bsL nn (wfGo m l 0 0 nn []).1 (wfGo m l 0 0 nn []).2.1 m x) (.tuple [isl (wfGo m l 0 0 nn []).2.2, .bool true]) := fun K => by
    show (bif _ then (gRf x []).bind _ else none) = _
    rw [cond_t (by simp; omega), gRf_of hx (by omega), from_nil, Option.bind_some, cond_t (by simp; omega)]
  rw [e0]
  by_cases h : nn ≤ 0
  · rw [cond_t (b := decide (nn ≤ 0)) (decide_eq_true h)]
    have e : ∀ n, wfLoop0 1000 (n + 1) (frWf0 x (pSl l) m 0 0 nn (isl []) (some true) 0 [] 0 (some l.isEmpty) l.length (pcs l) (l.length : Int) 0) = wfTail0 1000 (frWf1 x (pSl l) 0 0 (isl []) (some true) 0 [] 0) := fun n => by
      unfold wfLoop0
      rw [loopF_succ]
      unfold pSl isl
      rw [wf_step0 1000 hx.isR]
      rcases hq : l with _ | ⟨p, r⟩
      · rw [cond_f (by rfl)]
      · rw [← hq]
        have hp : l[0]? = some p := by rw [hq]; rfl
        rw [cond_t (decide_eq_true (by rw [hq]; simp)), show (0 : Int) = ((0 : Nat) : Int) from rfl, pairAt_eq hp (hx.vok p (by rw [hq]; exact List.mem_cons_self)), cond_t (b := ((0 : Nat) : Int) == nn) (by rw [beq_iff_eq]; omega)]
    exact (e 999).trans (fin 0 0 [] 0 rfl rfl (by simp))
  · rw [cond_f (b := decide (nn ≤ 0)) (decide_eq_false h)]
    have := wf_loop0 hx hl m (by omega) (wfGo m l 0 0 nn []).1 (wfGo m l 0 0 nn []).2.1 nn (wfGo m l 0 0 nn []).2.2 1000 l.length 0 1000 [] (by omega) (by omega) (by simp) (by simp; omega) 0
    rw [List.drop_zero, show nn - (([] : List Int).length : Int) = nn by simp] at this
    refine Eq.trans this ?_
    have hw := wfGo_len m l 0 0 nn []
    exact fin _ _ _ _ rfl (wfGo_u m l 0 0 nn [] rfl) (by simp at hw; omega)
end Go.Proofs.Ytmacjkiamejcnaa
