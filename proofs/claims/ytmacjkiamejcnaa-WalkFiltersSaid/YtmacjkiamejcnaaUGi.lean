/-
  The document's answer for trees (lists of pairs): raw runs.
  The document's answer for trees: contracts.
  The document's answer for trees: Put, Levels, Same; all contracts.
-/
import Derived.Test.YtmacjkiamejcnaaPGw
import Derived.Test.YtmacjkiamejcnaaTp
import Derived.Test.YtmacjkiamejcnaaUGa
set_option linter.unusedVariables false
set_option linter.unusedSimpArgs false
set_option maxRecDepth 100000
namespace Go.Proofs.Ytmacjkiamejcnaa
open Go.RowKit
def pairAt {S : Type} (n : Nat) (c : List PV) (i : Int) (k : Ky → Int → Option S) : Option S :=
  bif decide (0 ≤ i) && decide (i < (n : Int)) then ((c.drop (i.toNat * 2)).take 2).head?.bind fun x => x.asStr.bind fun s => ((c.drop (i.toNat * 2)).take 2).tail.head?.bind fun y => (y.asInt .i64).bind fun v => k s v else none
noncomputable def apR {S : Type} (n m : Nat) (k : Option S) : Option S := bif decide (n + m ≤ 9223372036854775807) && decide ((n + m) * bytesOf Try.prog 55 ≤ roomB) then k else none
/-! ## Same -/
def hSa : Hints := ⟨[], [(0, ⟨[(0, false), (1, false), (12, false), (13, false)], []⟩)]⟩
def frSa (na : Option Bool) (la : Nat) (ca : List PV) (nb : Option Bool) (lb : Nat) (cb : List PV) (L i : Int) : St := frame 26 [(0, (.sl na 2 la ca, 0)), (1, (.sl nb 2 lb cb, 0)), (12, (.int .i64 L, 0)), (13, (.int .i64 i, 0))] []
noncomputable def saLoop (fu n : Nat) (st : St) : Option PV := loopF (en []) hSa fu false Try.f12 [1, 1, 0, 1, 0] 0 n st
theorem sa_raw (fu : Nat) (na : Option Bool) (la : Nat) (ca : List PV) (nb : Option Bool) (lb : Nat) (cb : List PV) :
    prun (en []) hSa fu false Try.f12 [.sl na 2 la ca, .sl nb 2 lb cb] = bif (la : Int) != (lb : Int) then some (.bool false) else saLoop fu fu (frSa na la ca nb lb cb (la : Int) 0) := prunN_eq.trans (by kernel_rfl)
theorem sa_step (fu : Nat) (na : Option Bool) (la : Nat) (ca : List PV) (nb : Option Bool) (lb : Nat) (cb : List PV) (L i : Int) (K : St → Option PV) :
    stepF (en []) hSa fu false Try.f12 [1, 1, 0, 1, 0] (frSa na la ca nb lb cb L i) (fun st => pnorm (hSa.loop.lookup 0) st K) =
      bif decide (i < L) then pairAt la ca i fun s v => pairAt lb cb i fun s' v' => bif !(bif s == s' then (bif v == v' then true else false) else false) then some (.bool false) else K (frSa na la ca nb lb cb L (IntKind.i64.wrap (i + 1)))
      else some (.bool true) := by kernel_rfl
/-! ## Get -/
def hRg : Hints := ⟨[], [(0, ⟨[(1, false), (8, false), (9, false), (10, false)], []⟩)]⟩
def frRg (k : Ky) (nl : Option Bool) (n : Nat) (c : List PV) (L i : Int) : St := frame 21 [(1, (.str k, 0)), (8, (.sl nl 2 n c, 0)), (9, (.int .i64 L, 0)), (10, (.int .i64 i, 0))] []
noncomputable def rgLoop (fu n : Nat) (st : St) : Option PV := loopF (en []) hRg fu false Try.f46 [1, 0, 1, 0] 0 n st
theorem rg_raw (fu : Nat) (nl : Option Bool) (n : Nat) (c : List PV) (k : Ky) : prun (en []) hRg fu false Try.f46 [.sl nl 2 n c, .str k] = rgLoop fu fu (frRg k nl n c (n : Int) 0) := prunN_eq.trans (by kernel_rfl)
theorem rg_step (fu : Nat) (k : Ky) (nl : Option Bool) (n : Nat) (c : List PV) (L i : Int) (K : St → Option PV) :
    stepF (en []) hRg fu false Try.f46 [1, 0, 1, 0] (frRg k nl n c L i) (fun st => pnorm (hRg.loop.lookup 0) st K) =
      bif decide (i < L) then pairAt n c i fun s v => bif s == k then some (.tuple [.int .i64 v, .bool true]) else K (frRg k nl n c L (IntKind.i64.wrap (i + 1))) else some (.tuple [.int .i64 0, .bool false]) := by kernel_rfl
/-! ## From, Back -/
def hRf : Hints := ⟨[], [(0, ⟨[(1, false), (5, true), (8, false), (9, false), (10, false)], []⟩)]⟩
def frRf (k : Ky) (no : Option Bool) (lo : Nat) (co : List PV) (nl : Option Bool) (n : Nat) (c : List PV) (L i : Int) : St := frame 24 [(1, (.str k, 0)), (5, (.sl no 2 lo co, 31)), (8, (.sl nl 2 n c, 0)), (9, (.int .i64 L, 0)), (10, (.int .i64 i, 0))] []
noncomputable def rfLoop (fu n : Nat) (st : St) : Option PV := loopF (en []) hRf fu false Try.f48 [1, 1, 0, 1, 0] 0 n st
theorem rf_raw (fu : Nat) (nl : Option Bool) (n : Nat) (c : List PV) (k : Ky) : prun (en []) hRf fu false Try.f48 [.sl nl 2 n c, .str k] = rfLoop fu fu (frRf k (some true) 0 [] nl n c (n : Int) 0) := prunN_eq.trans (by kernel_rfl)
theorem rf_step (fu : Nat) (k : Ky) (no : Option Bool) (lo : Nat) (co : List PV) (nl : Option Bool) (n : Nat) (c : List PV) (L i : Int) (K : St → Option PV) :
    stepF (en []) hRf fu false Try.f48 [1, 1, 0, 1, 0] (frRf k no lo co nl n c L i) (fun st => pnorm (hRf.loop.lookup 0) st K) =
      bif decide (i < L) then pairAt n c i fun s v => bif !Op.bytesLess s k then apR lo 1 (K (frRf k (no.map (· && (1 == 0))) (lo + 1) (co ++ [.str s, .int .i64 v]) nl n c L (IntKind.i64.wrap (i + 1)))) else K (frRf k no lo co nl n c L (IntKind.i64.wrap (i + 1)))
      else some (.sl no 2 lo co) := by kernel_rfl
def hRb : Hints := ⟨[], [(0, ⟨[(1, false), (5, false), (8, false), (9, false), (10, false)], []⟩)]⟩
def frRb (k : Ky) (no : Option Bool) (lo : Nat) (co : List PV) (nl : Option Bool) (n : Nat) (c : List PV) (L i : Int) : St := frame 24 [(1, (.str k, 0)), (5, (.sl no 2 lo co, 0)), (8, (.sl nl 2 n c, 0)), (9, (.int .i64 L, 0)), (10, (.int .i64 i, 0))] []
noncomputable def rbLoop (fu n : Nat) (st : St) : Option PV := loopF (en []) hRb fu false Try.f50 [1, 1, 0, 1, 0] 0 n st
theorem rb_raw (fu : Nat) (nl : Option Bool) (n : Nat) (c : List PV) (k : Ky) : prun (en []) hRb fu false Try.f50 [.sl nl 2 n c, .str k] = rbLoop fu fu (frRb k (some true) 0 [] nl n c (n : Int) 0) := prunN_eq.trans (by kernel_rfl)
theorem rb_step (fu : Nat) (k : Ky) (no : Option Bool) (lo : Nat) (co : List PV) (nl : Option Bool) (n : Nat) (c : List PV) (L i : Int) (K : St → Option PV) :
    stepF (en []) hRb fu false Try.f50 [1, 1, 0, 1, 0] (frRb k no lo co nl n c L i) (fun st => pnorm (hRb.loop.lookup 0) st K) =
      bif decide (i < L) then pairAt n c i fun s v => bif Op.bytesLess s k || s == k then apR 1 lo (K (frRb k (some false) (1 + lo) ([.str s, .int .i64 v] ++ co) nl n c L (IntKind.i64.wrap (i + 1)))) else K (frRb k no lo co nl n c L (IntKind.i64.wrap (i + 1)))
      else some (.sl no 2 lo co) := by kernel_rfl
/-! ## Delete -/
def hRd : Hints := ⟨[], [(0, ⟨[(0, false), (1, false), (6, true), (9, false), (10, false), (11, false)], []⟩)]⟩
def frRd (na : Option Bool) (la : Nat) (ca : List PV) (k : Ky) (no : Option Bool) (lo : Nat) (co : List PV) (nl : Option Bool) (n : Nat) (c : List PV) (L i : Int) : St := frame 30 [(0, (.sl na 2 la ca, 0)), (1, (.str k, 0)), (6, (.sl no 2 lo co, 38)), (9, (.sl nl 2 n c, 0)), (10, (.int .i64 L, 0)), (11, (.int .i64 i, 0))] []
noncomputable def rdLoop (fu n : Nat) (st : St) : Option PV := loopF (en []) hRd fu false Try.f43 [1, 1, 0, 1, 0] 0 n st
theorem rd_raw (fu : Nat) (nl : Option Bool) (n : Nat) (c : List PV) (k : Ky) : prun (en []) hRd fu false Try.f43 [.sl nl 2 n c, .str k] = rdLoop fu fu (frRd nl n c k (some true) 0 [] nl n c (n : Int) 0) := prunN_eq.trans (by kernel_rfl)
theorem rd_step (fu : Nat) (na : Option Bool) (la : Nat) (ca : List PV) (k : Ky) (no : Option Bool) (lo : Nat) (co : List PV) (nl : Option Bool) (n : Nat) (c : List PV) (L i : Int) (K : St → Option PV) :
    stepF (en []) hRd fu false Try.f43 [1, 1, 0, 1, 0] (frRd na la ca k no lo co nl n c L i) (fun st => pnorm (hRd.loop.lookup 0) st K) =
      bif decide (i < L) then pairAt n c i fun s v => bif s != k then apR lo 1 (K (frRd na la ca k (no.map (· && (1 == 0))) (lo + 1) (co ++ [.str s, .int .i64 v]) nl n c L (IntKind.i64.wrap (i + 1)))) else K (frRd na la ca k no lo co nl n c L (IntKind.i64.wrap (i + 1)))
      else some (.tuple [.sl no 2 lo co, .bool (decide ((lo : Int) < (la : Int)))]) := by kernel_rfl
/-! ## Put -/
def hRp : Hints := ⟨[], [(0, ⟨[(1, false), (2, false), (8, true), (9, false), (10, false), (13, false), (14, false), (15, false)], []⟩)]⟩
def frRp (k : Ky) (v : Int) (no : Option Bool) (lo : Nat) (co : List PV) (b f : Bool) (nl : Option Bool) (n : Nat) (c : List PV) (L i : Int) : St := frame 54 [(1, (.str k, 0)), (2, (.int .i64 v, 0)), (8, (.sl no 2 lo co, 64)), (9, (.bool b, 0)), (10, (.bool f, 0)), (13, (.sl nl 2 n c, 0)), (14, (.int .i64 L, 0)), (15, (.int .i64 i, 0))] []
noncomputable def rpLoop (fu n : Nat) (st : St) : Option PV := loopF (en []) hRp fu false Try.f42 [1, 1, 1, 0, 1, 0] 0 n st
theorem rp_raw (fu : Nat) (nl : Option Bool) (n : Nat) (c : List PV) (k : Ky) (v : Int) : prun (en []) hRp fu false Try.f42 [.sl nl 2 n c, .str k, .int .i64 v] = rpLoop fu fu (frRp k v (some true) 0 [] false true nl n c (n : Int) 0) := prunN_eq.trans (by kernel_rfl)
theorem rp_step (fu : Nat) (k : Ky) (v : Int) (no : Option Bool) (lo : Nat) (co : List PV) (b f : Bool) (nl : Option Bool) (n : Nat) (c : List PV) (L i : Int) (K : St → Option PV) :
    stepF (en []) hRp fu false Try.f42 [1, 1, 1, 0, 1, 0] (frRp k v no lo co b f nl n c L i) (fun st => pnorm (hRp.loop.lookup 0) st K) =
      bif decide (i < L) then pairAt n c i fun s w =>
        bif s == k then apR lo 1 (K (frRp k v (no.map (· && (1 == 0))) (lo + 1) (co ++ [.str s, .int .i64 v]) true false nl n c L (IntKind.i64.wrap (i + 1))))
        else bif (bif !b then Op.bytesLess k s else false) then apR lo 1 (apR (lo + 1) 1 (K (frRp k v ((no.map (· && (1 == 0))).map (· && (1 == 0))) (lo + 1 + 1) ((co ++ [.str k, .int .i64 v]) ++ [.str s, .int .i64 w]) true f nl n c L (IntKind.i64.wrap (i + 1)))))
          else apR lo 1 (K (frRp k v (no.map (· && (1 == 0))) (lo + 1) (co ++ [.str s, .int .i64 w]) b f nl n c L (IntKind.i64.wrap (i + 1))))
      else bif !b then apR lo 1 (some (.tuple [.sl (no.map (· && (1 == 0))) 2 (lo + 1) (co ++ [.str k, .int .i64 v]), .bool f])) else some (.tuple [.sl no 2 lo co, .bool f]) := by kernel_rfl
/-! ## Levels -/
def hRl : Hints := ⟨[], [(0, ⟨[(0, false), (3, false), (4, false)], []⟩)]⟩
def frRl (n k p : Int) : St := frame 15 [(0, (.int .i64 n, 0)), (3, (.int .i64 k, 0)), (4, (.int .i64 p, 0))] []
noncomputable def rlLoop (fu n : Nat) (st : St) : Option PV := loopF (en []) hRl fu false Try.f51 [1, 1, 1, 0, 1, 0] 0 n st
theorem rl_raw (fu : Nat) (n : Int) : prun (en []) hRl fu false Try.f51 [.int .i64 n] = bif n == 0 then some (.int .i64 0) else rlLoop fu fu (frRl n 1 1) := prunN_eq.trans (by kernel_rfl)
theorem rl_step (fu : Nat) (n k p : Int) (K : St → Option PV) :
    stepF (en []) hRl fu false Try.f51 [1, 1, 1, 0, 1, 0] (frRl n k p) (fun st => pnorm (hRl.loop.lookup 0) st K) =
      bif decide (p < n) then K (frRl n (IntKind.i64.wrap (k + 1)) (IntKind.i64.wrap (p * 4))) else some (.int .i64 k) := by kernel_rfl
end Go.Proofs.Ytmacjkiamejcnaa
set_option linter.unusedVariables false
set_option linter.unusedSimpArgs false
set_option maxRecDepth 100000
namespace Go.Proofs.Ytmacjkiamejcnaa
open Go.RowKit
def pcs (l : List (Ky × PV)) : List PV := l.flatMap fun p => [.str p.1, p.2]
def pdec : List PV → Option (List (Ky × PV))
  | [] => some []
  | .str k :: v :: r => bif vok v then (pdec r).map ((k, v) :: ·) else none
  | _ => none
theorem pdec_inv : ∀ {c : List PV} {l : List (Ky × PV)}, pdec c = some l → c = pcs l ∧ ∀ p ∈ l, vok p.2 = true
  | [], l, h => by simp only [pdec] at h; injection h with h; subst h; exact ⟨rfl, fun p hp => by cases hp⟩
  | .str k :: v :: r, l, h => by
    simp only [pdec] at h
    obtain ⟨hv, h⟩ := bif_inv h
    rw [Option.map_eq_some_iff] at h
    obtain ⟨m, hm, rfl⟩ := h
    obtain ⟨e, h2⟩ := pdec_inv hm
    refine ⟨by rw [e]; rfl, ?_⟩
    intro p hp
    rcases List.mem_cons.1 hp with rfl | hp
    · exact hv
    · exact h2 p hp
  | [.str k], l, h => by simp [pdec] at h
  | .undef :: _, l, h => by simp [pdec] at h
  | .bool _ :: _, l, h => by simp [pdec] at h
  | .int _ _ :: _, l, h => by simp [pdec] at h
  | .sl _ _ _ _ :: _, l, h => by simp [pdec] at h
  | .agg _ :: _, l, h => by simp [pdec] at h
  | .tuple _ :: _, l, h => by simp [pdec] at h
  | .nilptr :: _, l, h => by simp [pdec] at h
  | .nptr :: _, l, h => by simp [pdec] at h
  | .nilIface :: _, l, h => by simp [pdec] at h
  | .iface _ _ :: _, l, h => by simp [pdec] at h
  | .nilFunc :: _, l, h => by simp [pdec] at h
  | .ptr _ _ :: _, l, h => by simp [pdec] at h
  | .eptr _ :: _, l, h => by simp [pdec] at h
  | .clo _ _ :: _, l, h => by simp [pdec] at h
  | .agp _ :: _, l, h => by simp [pdec] at h
  | .tupp _ :: _, l, h => by simp [pdec] at h
  | .yld :: _, l, h => by simp [pdec] at h
  | .optr _ _ _ :: _, l, h => by simp [pdec] at h
  | .bsl _ _ _ _ :: _, l, h => by simp [pdec] at h
theorem pdec_pcs : ∀ {l : List (Ky × PV)}, (∀ p ∈ l, vok p.2 = true) → pdec (pcs l) = some l
  | [], _ => rfl
  | p :: l, h => by
    show pdec (.str p.1 :: p.2 :: pcs l) = _
    simp only [pdec]
    rw [h p List.mem_cons_self, cond_true, pdec_pcs fun q hq => h q (List.mem_cons_of_mem _ hq)]
    rfl
theorem pcs_drop : ∀ (l : List (Ky × PV)) (i : Nat), (pcs l).drop (i * 2) = pcs (l.drop i)
  | l, 0 => by rw [Nat.zero_mul, List.drop_zero, List.drop_zero]
  | [], i + 1 => by simp [pcs]
  | p :: l, i + 1 => by
    show (PV.str p.1 :: p.2 :: pcs l).drop ((i + 1) * 2) = _
    rw [Nat.succ_mul, List.drop_succ_cons, List.drop_succ_cons, pcs_drop l i]
    rfl
theorem pcs_append (a b : List (Ky × PV)) : pcs (a ++ b) = pcs a ++ pcs b := by unfold pcs; rw [List.flatMap_append]
theorem pairAt_eq {S : Type} {l : List (Ky × PV)} {i : Nat} {p : Ky × PV} (h : l[i]? = some p) (hv : vok p.2 = true) (k : Ky → Int → Option S) : pairAt l.length (pcs l) (i : Int) k = k p.1 (valP p.2) := by
  obtain ⟨hi, e⟩ := List.getElem?_eq_some_iff.1 h
  have he := valP_eq hv
  have hd : ((pcs l).drop (i * 2)).take 2 = [.str p.1, p.2] := by
    rw [pcs_drop, List.drop_eq_getElem_cons hi, e]
    rfl
  unfold pairAt
  rw [cond_t (by rw [decide_eq_true (by omega), decide_eq_true (by omega)]; rfl), Int.toNat_natCast, hd]
  rw [← he]
  rfl
theorem ap_room : bytesOf Try.prog 55 = 24 := by kernel_rfl
theorem apR_t {S : Type} {n m : Nat} (h : n + m ≤ 1000000) (k : Option S) : apR n m k = k := by
  unfold apR
  rw [ap_room, cond_t (by rw [decide_eq_true (by omega), decide_eq_true (by unfold roomB; omega)]; rfl)]
/-- a list of pairs as the evaluator's slice (nil just if it is empty) -/
def pSl (l : List (Ky × PV)) : PV := .sl (some l.isEmpty) 2 l.length (pcs l)
theorem flag_app {l : List (Ky × PV)} {p : Ky × PV} : (some l.isEmpty).map (· && ((1 : Nat) == 0)) = some (l ++ [p]).isEmpty := by simp
theorem pcs_one (k : Ky) (v : PV) : [PV.str k, v] = pcs [(k, v)] := rfl
theorem drop_cons_some {α : Type} {l : List α} {i : Nat} {x : α} (h : l[i]? = some x) : l.drop i = x :: l.drop (i + 1) := by
  obtain ⟨hi, e⟩ := List.getElem?_eq_some_iff.1 h
  rw [List.drop_eq_getElem_cons hi, e]
section
variable {l : List (Ky × PV)} (hv : ∀ p ∈ l, vok p.2 = true) (hl : l.length ≤ 100000)
include hv hl
theorem rg_loop (fu : Nat) (nl : Option Bool) (k : Ky) : ∀ (m i n : Nat), i + m = l.length → m < n → rgLoop fu n (frRg k nl l.length (pcs l) (l.length : Int) (i : Int)) = some (.tuple [.int .i64 (valP ((getK k (l.drop i)).getD (.int .i64 0))), .bool (hasK k (l.drop i))])
  | m, i, 0, hi, hn => by omega
  | 0, i, n + 1, hi, hn => by
    unfold rgLoop
    rw [loopF_succ, rg_step, cond_f (decide_eq_false (by omega)), List.drop_eq_nil_of_le (by omega)]
    rfl
  | m + 1, i, n + 1, hi, hn => by
    have hp : l[i]? = some l[i] := List.getElem?_eq_getElem (by omega)
    have hvp := hv _ (List.getElem_mem (show i < l.length by omega))
    have ih := rg_loop fu nl k m (i + 1) n (by omega) (by omega)
    unfold rgLoop at ih ⊢
    rw [loopF_succ, rg_step, cond_t (decide_eq_true (by omega)), pairAt_eq hp hvp, drop_cons_some hp]
    unfold getK hasK at ih ⊢
    rw [List.find?_cons, List.any_cons]
    cases l[i].1 == k with
    | true =>
      simp only [cond_true, Option.map_some, Option.getD_some, Bool.true_or]
    | false =>
      rw [cond_false, wrapI_of (by omega) (by omega)]
      exact ih
theorem rf_loop (fu : Nat) (nl : Option Bool) (k : Ky) : ∀ (m i n : Nat) (out : List (Ky × PV)), i + m = l.length → m < n → out.length ≤ i → rfLoop fu n (frRf k (some out.isEmpty) out.length (pcs out) nl l.length (pcs l) (l.length : Int) (i : Int)) = some (pSl (out ++ fromK k (l.drop i)))
  | m, i, 0, out, hi, hn, ho => by omega
  | 0, i, n + 1, out, hi, hn, ho => by
    unfold rfLoop
    rw [loopF_succ, rf_step, cond_f (decide_eq_false (by omega)), List.drop_eq_nil_of_le (by omega)]
    simp [fromK, pSl]
  | m + 1, i, n + 1, out, hi, hn, ho => by
    have hp : l[i]? = some l[i] := List.getElem?_eq_getElem (by omega)
    have hvp := hv _ (List.getElem_mem (show i < l.length by omega))
    rw [drop_cons_some hp]
    unfold rfLoop
    rw [loopF_succ, rf_step, cond_t (decide_eq_true (by omega)), pairAt_eq hp hvp]
    unfold fromK
    rw [List.filter_cons]
    cases hb : !Op.bytesLess l[i].1 k with
    | true =>
      have ih := rf_loop fu nl k m (i + 1) n (out ++ [l[i]]) (by omega) (by omega) (by simp; omega)
      unfold rfLoop fromK at ih
      rw [cond_true, apR_t (by omega), wrapI_of (by omega) (by omega), valP_eq hvp, if_pos rfl, flag_app (p := l[i]), pcs_one, ← pcs_append, show out.length + 1 = (out ++ [l[i]]).length by simp]
      rw [List.append_assoc, List.singleton_append] at ih
      exact ih
    | false =>
      have ih := rf_loop fu nl k m (i + 1) n out (by omega) (by omega) (by omega)
      unfold rfLoop fromK at ih
      rw [cond_false, wrapI_of (by omega) (by omega), if_neg (by simp)]
      exact ih
theorem rb_loop (fu : Nat) (nl : Option Bool) (k : Ky) : ∀ (m i n : Nat) (out : List (Ky × PV)), i + m = l.length → m < n → out.length ≤ i → rbLoop fu n (frRb k (some out.isEmpty) out.length (pcs out) nl l.length (pcs l) (l.length : Int) (i : Int)) = some (pSl (backK k (l.drop i) ++ out))
  | m, i, 0, out, hi, hn, ho => by omega
  | 0, i, n + 1, out, hi, hn, ho => by
    unfold rbLoop
    rw [loopF_succ, rb_step, cond_f (decide_eq_false (by omega)), List.drop_eq_nil_of_le (by omega)]
    simp [backK, pSl]
  | m + 1, i, n + 1, out, hi, hn, ho => by
    have hp : l[i]? = some l[i] := List.getElem?_eq_getElem (by omega)
    have hvp := hv _ (List.getElem_mem (show i < l.length by omega))
    rw [drop_cons_some hp]
    unfold rbLoop
    rw [loopF_succ, rb_step, cond_t (decide_eq_true (by omega)), pairAt_eq hp hvp]
    unfold backK
    rw [List.filter_cons]
    have hle : (Op.bytesLess l[i].1 k || l[i].1 == k) = !Op.bytesLess k l[i].1 := by
      rcases h1 : Op.bytesLess l[i].1 k with _ | _
      · rcases h2 : Op.bytesLess k l[i].1 with _ | _
        · rw [kl_tri h1 h2]; simp
        · have : (l[i].1 == k) = false := by simpa using (kl_ne h2).symm
          rw [this]; rfl
      · rw [kl_asym h1]; rfl
    rw [hle]
    cases hb : !Op.bytesLess k l[i].1 with
    | true =>
      have ih := rb_loop fu nl k m (i + 1) n (l[i] :: out) (by omega) (by omega) (by simp; omega)
      unfold rbLoop backK at ih
      rw [cond_true, apR_t (by omega), wrapI_of (by omega) (by omega), valP_eq hvp, if_pos rfl, show 1 + out.length = (l[i] :: out).length by simp; omega, List.reverse_cons, List.append_assoc, List.singleton_append]
      exact ih
    | false =>
      have ih := rb_loop fu nl k m (i + 1) n out (by omega) (by omega) (by omega)
      unfold rbLoop backK at ih
      rw [cond_false, wrapI_of (by omega) (by omega), if_neg (by simp)]
      exact ih
theorem rd_loop (fu : Nat) (nl na : Option Bool) (k : Ky) : ∀ (m i n : Nat) (out : List (Ky × PV)), i + m = l.length → m < n → out.length ≤ i → rdLoop fu n (frRd na l.length (pcs l) k (some out.isEmpty) out.length (pcs out) nl l.length (pcs l) (l.length : Int) (i : Int)) = some (.tuple [pSl (out ++ delK k (l.drop i)), .bool (decide ((out ++ delK k (l.drop i)).length < l.length))])
  | m, i, 0, out, hi, hn, ho => by omega
  | 0, i, n + 1, out, hi, hn, ho => by
    unfold rdLoop
    rw [loopF_succ, rd_step, cond_f (decide_eq_false (by omega)), List.drop_eq_nil_of_le (by omega)]
    simp [delK, pSl]
  | m + 1, i, n + 1, out, hi, hn, ho => by
    have hp : l[i]? = some l[i] := List.getElem?_eq_getElem (by omega)
    have hvp := hv _ (List.getElem_mem (show i < l.length by omega))
    rw [drop_cons_some hp]
    unfold rdLoop
    rw [loopF_succ, rd_step, cond_t (decide_eq_true (by omega)), pairAt_eq hp hvp]
    unfold delK
    rw [List.filter_cons]
    cases hb : l[i].1 != k with
    | true =>
      have ih := rd_loop fu nl na k m (i + 1) n (out ++ [l[i]]) (by omega) (by omega) (by simp; omega)
      unfold rdLoop delK at ih
      rw [cond_true, apR_t (by omega), wrapI_of (by omega) (by omega), valP_eq hvp, if_pos rfl, flag_app (p := l[i]), pcs_one, ← pcs_append, show out.length + 1 = (out ++ [l[i]]).length by simp]
      rw [List.append_assoc, List.singleton_append] at ih
      exact ih
    | false =>
      have ih := rd_loop fu nl na k m (i + 1) n out (by omega) (by omega) (by omega)
      unfold rdLoop delK at ih
      rw [cond_false, wrapI_of (by omega) (by omega), if_neg (by simp)]
      exact ih
end
end Go.Proofs.Ytmacjkiamejcnaa
set_option linter.unusedVariables false
set_option linter.unusedSimpArgs false
set_option maxRecDepth 100000
namespace Go.Proofs.Ytmacjkiamejcnaa
open Go.RowKit
section
variable {l : List (Ky × PV)} (hv : ∀ p ∈ l, vok p.2 = true) (hl : l.length ≤ 100000)
include hv hl
theorem rp_loop1 (fu : Nat) (nl : Option Bool) (k : Ky) (v : Int) (f : Bool) : ∀ (m i n : Nat) (out : List (Ky × PV)), i + m = l.length → m < n → out.length ≤ i + 1 → High k (l.drop i) → rpLoop fu n (frRp k v (some out.isEmpty) out.length (pcs out) true f nl l.length (pcs l) (l.length : Int) (i : Int)) = some (.tuple [pSl (out ++ l.drop i), .bool f])
  | m, i, 0, out, hi, hn, ho, hh => by omega
  | 0, i, n + 1, out, hi, hn, ho, hh => by
    unfold rpLoop
    rw [loopF_succ, rp_step, cond_f (decide_eq_false (by omega)), List.drop_eq_nil_of_le (by omega), List.append_nil]
    rfl
  | m + 1, i, n + 1, out, hi, hn, ho, hh => by
    have hp : l[i]? = some l[i] := List.getElem?_eq_getElem (by omega)
    have hvp := hv _ (List.getElem_mem (show i < l.length by omega))
    rw [drop_cons_some hp] at hh ⊢
    have hk := hh _ List.mem_cons_self
    have hne : (l[i].1 == k) = false := by simpa using (kl_ne hk).symm
    have ih := rp_loop1 fu nl k v f m (i + 1) n (out ++ [l[i]]) (by omega) (by omega) (by simp; omega) (fun q hq => hh q (List.mem_cons_of_mem _ hq))
    unfold rpLoop at ih ⊢
    rw [loopF_succ, rp_step, cond_t (decide_eq_true (by omega)), pairAt_eq hp hvp, hne, cond_false]
    rw [cond_f (b := bif !true then Op.bytesLess k l[i].1 else false) rfl, apR_t (by omega), wrapI_of (by omega) (by omega), valP_eq hvp, flag_app (p := l[i]), pcs_one, ← pcs_append, show out.length + 1 = (out ++ [l[i]]).length by simp]
    rw [List.append_assoc, List.singleton_append] at ih
    exact ih
theorem rp_loop0 (fu : Nat) (nl : Option Bool) (k : Ky) (v : Int) : ∀ (m i n : Nat) (out : List (Ky × PV)), i + m = l.length → m < n → out.length ≤ i → Srt (l.drop i) → rpLoop fu n (frRp k v (some out.isEmpty) out.length (pcs out) false true nl l.length (pcs l) (l.length : Int) (i : Int)) = some (.tuple [pSl (out ++ insK k (.int .i64 v) (l.drop i)), .bool (!hasK k (l.drop i))])
  | m, i, 0, out, hi, hn, ho, hh => by omega
  | 0, i, n + 1, out, hi, hn, ho, hh => by
    unfold rpLoop
    rw [loopF_succ, rp_step, cond_f (decide_eq_false (by omega)), List.drop_eq_nil_of_le (by omega), cond_t (b := !false) rfl, apR_t (by omega), flag_app (p := (k, PV.int .i64 v)), pcs_one, ← pcs_append, show out.length + 1 = (out ++ [(k, PV.int .i64 v)]).length by simp]
    rfl
  | m + 1, i, n + 1, out, hi, hn, ho, hh => by
    have hp : l[i]? = some l[i] := List.getElem?_eq_getElem (by omega)
    have hvp := hv _ (List.getElem_mem (show i < l.length by omega))
    rw [drop_cons_some hp] at hh ⊢
    have hsr := List.pairwise_cons.1 hh
    unfold rpLoop
    rw [loopF_succ, rp_step, cond_t (decide_eq_true (by omega)), pairAt_eq hp hvp]
    rcases he : (l[i].1 == k) with _ | _
    · rw [cond_false]
      rcases hlt : Op.bytesLess k l[i].1 with _ | _
      · -- the key comes later
        have ih := rp_loop0 fu nl k v m (i + 1) n (out ++ [l[i]]) (by omega) (by omega) (by simp; omega) hsr.2
        unfold rpLoop at ih
        rw [cond_f (b := bif !false then false else false) rfl, apR_t (by omega), wrapI_of (by omega) (by omega), valP_eq hvp, flag_app (p := l[i]), pcs_one, ← pcs_append, show out.length + 1 = (out ++ [l[i]]).length by simp]
        rw [List.append_assoc, List.singleton_append] at ih
        have e1 : insK k (PV.int .i64 v) (l[i] :: l.drop (i + 1)) = l[i] :: insK k (PV.int .i64 v) (l.drop (i + 1)) := by simp only [insK, he, hlt, Bool.false_eq_true, if_false]
        have e2 : hasK k (l[i] :: l.drop (i + 1)) = hasK k (l.drop (i + 1)) := by simp only [hasK, List.any_cons, he, Bool.false_or]
        rw [e1, e2]
        exact ih
      · have hH : High k (l.drop (i + 1)) := fun q hq => kl_trans hlt (hsr.1 q hq)
        have ih := rp_loop1 (hv := hv) (hl := hl) fu nl k v true m (i + 1) n (out ++ [(k, PV.int .i64 v)] ++ [l[i]]) (by omega) (by omega) (by simp; omega) hH
        unfold rpLoop at ih
        rw [cond_t (b := bif !false then true else false) rfl, apR_t (by omega), apR_t (by omega), wrapI_of (by omega) (by omega), valP_eq hvp, flag_app (p := (k, PV.int .i64 v)), flag_app (p := l[i]), pcs_one, pcs_one, ← pcs_append, ← pcs_append, show out.length + 1 + 1 = (out ++ [(k, PV.int .i64 v)] ++ [l[i]]).length by simp]
        have e1 : insK k (PV.int .i64 v) (l[i] :: l.drop (i + 1)) = (k, PV.int .i64 v) :: l[i] :: l.drop (i + 1) := by simp only [insK, he, hlt, Bool.false_eq_true, if_false, if_true]
        have e2 : hasK k (l[i] :: l.drop (i + 1)) = false := by
          have := high_has hH
          unfold hasK at this ⊢
          rw [List.any_cons, he, this]
          rfl
        have e3 : out ++ (k, PV.int .i64 v) :: l[i] :: l.drop (i + 1) = out ++ [(k, PV.int .i64 v)] ++ [l[i]] ++ l.drop (i + 1) := by simp
        rw [e1, e2, e3]
        exact ih
    · rw [cond_true]
      have hk : l[i].1 = k := by simpa using he
      have hH : High k (l.drop (i + 1)) := fun q hq => by rw [← hk]; exact hsr.1 q hq
      have ih := rp_loop1 (hv := hv) (hl := hl) fu nl k v false m (i + 1) n (out ++ [(k, PV.int .i64 v)]) (by omega) (by omega) (by simp; omega) hH
      unfold rpLoop at ih
      rw [apR_t (by omega), wrapI_of (by omega) (by omega), hk, flag_app (p := (k, PV.int .i64 v)), pcs_one, ← pcs_append, show out.length + 1 = (out ++ [(k, PV.int .i64 v)]).length by simp]
      have e1 : insK k (PV.int .i64 v) (l[i] :: l.drop (i + 1)) = (k, PV.int .i64 v) :: l.drop (i + 1) := by simp only [insK, he, if_true]
      have e2 : hasK k (l[i] :: l.drop (i + 1)) = true := by simp only [hasK, List.any_cons, he, Bool.true_or]
      rw [e1, e2]
      rw [List.append_assoc] at ih
      exact ih
end
/-! ## Same -/
def sameK : List (Ky × PV) → List (Ky × PV) → Bool
  | [], [] => true
  | p :: r, q :: s => bif (bif p.1 == q.1 then (bif valP p.2 == valP q.2 then true else false) else false) then sameK r s else false
  | _, _ => false
theorem sameK_self : ∀ l, sameK l l = true
  | [] => rfl
  | p :: r => by simp [sameK, sameK_self r]
theorem sa_loop {a b : List (Ky × PV)} (ha : ∀ p ∈ a, vok p.2 = true) (hb : ∀ p ∈ b, vok p.2 = true) (hl : a.length ≤ 100000) (hab : a.length = b.length) (fu : Nat) (na nb : Option Bool) : ∀ (m i n : Nat), i + m = a.length → m < n → saLoop fu n (frSa na a.length (pcs a) nb b.length (pcs b) (a.length : Int) (i : Int)) = some (.bool (sameK (a.drop i) (b.drop i)))
  | m, i, 0, hi, hn => by omega
  | 0, i, n + 1, hi, hn => by
    unfold saLoop
    rw [loopF_succ, sa_step, cond_f (decide_eq_false (by omega)), List.drop_eq_nil_of_le (by omega), List.drop_eq_nil_of_le (by omega)]
    rfl
  | m + 1, i, n + 1, hi, hn => by
    have hp : a[i]? = some a[i] := List.getElem?_eq_getElem (by omega)
    have hq : b[i]? = some b[i] := List.getElem?_eq_getElem (by omega)
    have ih := sa_loop ha hb hl hab fu na nb m (i + 1) n (by omega) (by omega)
    unfold saLoop at ih ⊢
    rw [loopF_succ, sa_step, cond_t (decide_eq_true (by omega)), pairAt_eq hp (ha _ (List.getElem_mem (by omega))), pairAt_eq hq (hb _ (List.getElem_mem (by omega))), drop_cons_some hp, drop_cons_some hq]
    simp only [sameK]
    cases (bif a[i].1 == b[i].1 then (bif valP a[i].2 == valP b[i].2 then true else false) else false) with
    | true =>
      rw [cond_f (b := !true) rfl, wrapI_of (by omega) (by omega)]
      exact ih
    | false => rfl
/-! ## Levels -/
def lvF : Nat → Nat → Nat → Nat → Nat
  | 0, k, _, _ => k
  | f + 1, k, p, n => if p < n then lvF f (k + 1) (p * 4) n else k
def refLev (n : Nat) : Nat := if n = 0 then 0 else lvF 40 1 1 n
theorem lvF_ge : ∀ (f k p n : Nat), k ≤ lvF f k p n
  | 0, k, p, n => Nat.le_refl _
  | f + 1, k, p, n => by
    unfold lvF
    split
    · exact Nat.le_trans (Nat.le_succ k) (lvF_ge f (k + 1) (p * 4) n)
    · exact Nat.le_refl _
theorem lvF_low : ∀ (m f k p n : Nat), p * 4 ^ m < n → m < f → k + m + 1 ≤ lvF f k p n
  | m, 0, k, p, n, h, hf => by omega
  | 0, f + 1, k, p, n, h, hf => by
    unfold lvF
    rw [if_pos (by simpa using h)]
    exact lvF_ge f (k + 1) (p * 4) n
  | m + 1, f + 1, k, p, n, h, hf => by
    have h1 : p * 4 * 4 ^ m < n := by rw [Nat.mul_assoc, ← Nat.pow_succ']; exact h
    have h2 : p < n := Nat.lt_of_le_of_lt (Nat.le_mul_of_pos_right p (Nat.pow_pos (by omega))) h
    unfold lvF
    rw [if_pos h2]
    have := lvF_low m f (k + 1) (p * 4) n h1 (by omega)
    omega
theorem refLev_ge {d n : Nat} (h : 4 ^ d < n) (hd : d < 40) : d + 2 ≤ refLev n := by
  unfold refLev
  rw [if_neg (Nat.ne_of_gt (Nat.lt_of_le_of_lt (Nat.zero_le _) h))]
  have := lvF_low d 40 1 1 n (by rw [Nat.one_mul]; exact h) hd
  omega
theorem rl_loop (fu : Nat) : ∀ (f k p n m : Nat), n ≤ p * 4 ^ f → f < m → k + f ≤ 1000 → n ≤ 100000 → rlLoop fu m (frRl (n : Int) (k : Int) (p : Int)) = some (.int .i64 (lvF f k p n : Int))
  | f, k, p, n, 0, h1, h2, h3, h4 => by omega
  | 0, k, p, n, m + 1, h1, h2, h3, h4 => by
    rw [Nat.pow_zero, Nat.mul_one] at h1
    unfold rlLoop
    rw [loopF_succ, rl_step, cond_f (decide_eq_false (by omega))]
    rfl
  | f + 1, k, p, n, m + 1, h1, h2, h3, h4 => by
    unfold rlLoop lvF
    rw [loopF_succ, rl_step]
    by_cases hlt : p < n
    · have ih := rl_loop fu f (k + 1) (p * 4) n m (by rw [Nat.mul_assoc, ← Nat.pow_succ']; exact h1) (by omega) (by omega) h4
      unfold rlLoop at ih
      rw [cond_t (decide_eq_true (by omega)), if_pos hlt, wrapI_of (by omega) (by omega), wrapI_of (by omega) (by omega), show (k : Int) + 1 = ((k + 1 : Nat) : Int) by omega, show (p : Int) * 4 = ((p * 4 : Nat) : Int) by omega]
      exact ih
    · rw [cond_f (decide_eq_false (by omega)), if_neg hlt]
/-! ## contracts -/
def gP (n : Nat) (c : List PV) : Option (List (Ky × PV)) := (pdec c).bind fun l => bif decide (l.length = n) && decide (n ≤ 100000) then some l else none
theorem gP_inv {n : Nat} {c : List PV} {l : List (Ky × PV)} (h : gP n c = some l) : c = pcs l ∧ l.length = n ∧ l.length ≤ 100000 ∧ ∀ p ∈ l, vok p.2 = true := by
  unfold gP at h
  obtain ⟨m, hm, h⟩ := bind_some_inv h
  obtain ⟨hb, h⟩ := bif_inv h
  injection h with h
  subst h
  simp only [Bool.and_eq_true, decide_eq_true_eq] at hb
  obtain ⟨e, hv⟩ := pdec_inv hm
  exact ⟨e, hb.1, by omega, hv⟩
theorem gP_of {l : List (Ky × PV)} (hl : l.length ≤ 100000) (hv : ∀ p ∈ l, vok p.2 = true) : gP l.length (pcs l) = some l := by
  unfold gP
  rw [pdec_pcs hv, Option.bind_some, decide_eq_true rfl, decide_eq_true hl]
  rfl
def p_same : PFn := ⟨fun xs k => match xs with | [.sl na 2 la ca, .sl nb 2 lb cb] => (gP la ca).bind fun a => (gP lb cb).bind fun b => k (.bool (sameK a b)) | _ => none, false⟩
def p_rget : PFn := ⟨fun xs k => match xs with | [.sl nl 2 n c, .str s] => (gP n c).bind fun l => k (.tuple [.int .i64 (valP ((getK s l).getD (.int .i64 0))), .bool (hasK s l)]) | _ => none, false⟩
def p_rfrom : PFn := ⟨fun xs k => match xs with | [.sl nl 2 n c, .str s] => (gP n c).bind fun l => k (.sl (some (fromK s l).isEmpty) 2 (fromK s l).length (pcs (fromK s l))) | _ => none, false⟩
def p_rback : PFn := ⟨fun xs k => match xs with | [.sl nl 2 n c, .str s] => (gP n c).bind fun l => k (.sl (some (backK s l).isEmpty) 2 (backK s l).length (pcs (backK s l))) | _ => none, false⟩
def p_rdel : PFn := ⟨fun xs k => match xs with | [.sl nl 2 n c, .str s] => (gP n c).bind fun l => k (.tuple [.sl (some (delK s l).isEmpty) 2 (delK s l).length (pcs (delK s l)), .bool (decide ((delK s l).length < l.length))]) | _ => none, false⟩
def p_rput : PFn := ⟨fun xs k => match xs with | [.sl nl 2 n c, .str s, .int .i64 v] => (gP n c).bind fun l => bif srtB l then k (.tuple [.sl (some (insK s (.int .i64 v) l).isEmpty) 2 (insK s (.int .i64 v) l).length (pcs (insK s (.int .i64 v) l)), .bool (!hasK s l)]) else none | _ => none, false⟩
def p_rlev : PFn := ⟨fun xs k => match xs with | [.int .i64 n] => bif decide (0 ≤ n) && decide (n ≤ 100000) then k (.int .i64 (refLev n.toNat : Int)) else none | _ => none, false⟩
theorem ok_same : FOK NGt Wt 12 p_same := by
  refine fok wokt allOK_nil (h := hSa) Try.func12 rfl (by decide) ?_ ?_
  · intro R xs k
    simp only [p_same]
    split
    · rw [obind_assoc]; congr 1; funext a; rw [obind_assoc]; rfl
    · rfl
  · intro xs r h
    simp only [p_same] at h
    split at h
    · rename_i na la ca nb lb cb
      replace h := bind_some_inv h
      obtain ⟨a, ha, h⟩ := h
      replace h := bind_some_inv h
      obtain ⟨b, hb, h⟩ := h
      obtain ⟨rfl, rfl, a3, a4⟩ := gP_inv ha
      obtain ⟨rfl, rfl, b3, b4⟩ := gP_inv hb
      refine ⟨a.length + 1, (sa_raw ..).trans ?_⟩
      by_cases he : a.length = b.length
      · rw [cond_f (by rw [he]; simp)]
        have := sa_loop a4 b4 a3 he (a.length + 1) na nb a.length 0 (a.length + 1) (by omega) (by omega)
        exact this.trans h
      · rw [cond_t (by simp; omega), ← h]
        have : ∀ (a b : List (Ky × PV)), a.length ≠ b.length → sameK a b = false := by
          intro a
          induction a with
          | nil => intro b hb; cases b with
            | nil => exact absurd rfl hb
            | cons _ _ => rfl
          | cons p r ih => intro b hb; cases b with
            | nil => rfl
            | cons q s =>
              simp only [sameK]
              rw [ih s (by simpa using hb)]
              simp
        rw [this a b he]
    · cases h
theorem ok_rget : FOK NGt Wt 46 p_rget := by
  refine fok wokt allOK_nil (h := hRg) Try.func46 rfl (by decide) ?_ ?_
  · intro R xs k
    simp only [p_rget]
    split
    · rw [obind_assoc]; rfl
    · rfl
  · intro xs r h
    simp only [p_rget] at h
    split at h
    · rename_i nl n c s
      replace h := bind_some_inv h
      obtain ⟨l, hl, h⟩ := h
      obtain ⟨rfl, rfl, a3, a4⟩ := gP_inv hl
      exact ⟨l.length + 1, ((rg_raw ..).trans (rg_loop a4 a3 (l.length + 1) nl s l.length 0 (l.length + 1) (by omega) (by omega))).trans h⟩
    · cases h
theorem ok_rfrom : FOK NGt Wt 48 p_rfrom := by
  refine fok wokt allOK_nil (h := hRf) Try.func48 rfl (by decide) ?_ ?_
  · intro R xs k
    simp only [p_rfrom]
    split
    · rw [obind_assoc]; rfl
    · rfl
  · intro xs r h
    simp only [p_rfrom] at h
    split at h
    · rename_i nl n c s
      replace h := bind_some_inv h
      obtain ⟨l, hl, h⟩ := h
      obtain ⟨rfl, rfl, a3, a4⟩ := gP_inv hl
      exact ⟨l.length + 1, ((rf_raw ..).trans (rf_loop a4 a3 (l.length + 1) nl s l.length 0 (l.length + 1) [] (by omega) (by omega) (by simp))).trans h⟩
    · cases h
theorem ok_rback : FOK NGt Wt 50 p_rback := by
  refine fok wokt allOK_nil (h := hRb) Try.func50 rfl (by decide) ?_ ?_
  · intro R xs k
    simp only [p_rback]
    split
    · rw [obind_assoc]; rfl
    · rfl
  · intro xs r h
    simp only [p_rback] at h
    split at h
    · rename_i nl n c s
      replace h := bind_some_inv h
      obtain ⟨l, hl, h⟩ := h
      obtain ⟨rfl, rfl, a3, a4⟩ := gP_inv hl
      have := rb_loop a4 a3 (l.length + 1) nl s l.length 0 (l.length + 1) [] (by omega) (by omega) (by simp)
      rw [List.append_nil] at this
      exact ⟨l.length + 1, ((rb_raw ..).trans this).trans h⟩
    · cases h
theorem ok_rdel : FOK NGt Wt 43 p_rdel := by
  refine fok wokt allOK_nil (h := hRd) Try.func43 rfl (by decide) ?_ ?_
  · intro R xs k
    simp only [p_rdel]
    split
    · rw [obind_assoc]; rfl
    · rfl
  · intro xs r h
    simp only [p_rdel] at h
    split at h
    · rename_i nl n c s
      replace h := bind_some_inv h
      obtain ⟨l, hl, h⟩ := h
      obtain ⟨rfl, rfl, a3, a4⟩ := gP_inv hl
      exact ⟨l.length + 1, ((rd_raw ..).trans (rd_loop a4 a3 (l.length + 1) nl nl s l.length 0 (l.length + 1) [] (by omega) (by omega) (by simp))).trans h⟩
    · cases h
theorem ok_rput : FOK NGt Wt 42 p_rput := by
  refine fok wokt allOK_nil (h := hRp) Try.func42 rfl (by decide) ?_ ?_
  · intro R xs k
    simp only [p_rput]
    split
    · rw [obind_assoc]; congr 1; funext l; cases srtB l <;> rfl
    · rfl
  · intro xs r h
    simp only [p_rput] at h
    split at h
    · rename_i nl n c s v
      replace h := bind_some_inv h
      obtain ⟨l, hl, h⟩ := h
      replace h := bif_inv h
      obtain ⟨hs, h⟩ := h
      obtain ⟨rfl, rfl, a3, a4⟩ := gP_inv hl
      exact ⟨l.length + 1, ((rp_raw ..).trans (rp_loop0 a4 a3 (l.length + 1) nl s v l.length 0 (l.length + 1) [] (by omega) (by omega) (by simp) ((srtB_iff l).1 hs))).trans h⟩
    · cases h
theorem ok_rlev : FOK NGt Wt 51 p_rlev := by
  refine fok wokt allOK_nil (h := hRl) Try.func51 rfl (by decide) ?_ ?_
  · intro R xs k
    simp only [p_rlev]
    split
    · exact cond_nat
    · rfl
  · intro xs r h
    simp only [p_rlev] at h
    split at h
    · rename_i n
      replace h := bif_inv h
      obtain ⟨hb, h⟩ := h
      simp only [Bool.and_eq_true, decide_eq_true_eq] at hb
      have hn : ((n.toNat : Nat) : Int) = n := by omega
      refine ⟨100, (rl_raw ..).trans (Eq.trans ?_ h)⟩
      unfold refLev
      by_cases hz : n = 0
      · subst hz; rfl
      · rw [cond_f (by simpa using hz), if_neg (by omega)]
        have := rl_loop 100 40 1 1 n.toNat 100 (by omega) (by omega) (by omega) (by omega)
        rw [hn] at this
        exact this
    · cases h
end Go.Proofs.Ytmacjkiamejcnaa
