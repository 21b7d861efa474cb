/-
  The document's answer for trees (lists of pairs): raw runs.
-/
import Derived.Test.YtmacjkiamejcnaaPGw
import Derived.Test.YtmacjkiamejcnaaTp
set_option linter.unusedVariables false
set_option linter.unusedSimpArgs false
set_option maxRecDepth 100000
namespace Go.Proofs.Ytmacjkiamejcnaa
open Go.RowKit
def pairAt {S : Type} (n : Nat) (c : List PV) (i : Int) (k : Ky → Int → Option S) : Option S :=
  bif decide (0 ≤ i) && decide (i < (n : Int)) then ((c.drop (i.toNat * 2)).take 2).head?.bind fun x => x.asStr.bind fun s => ((c.drop (i.toNat * 2)).take 2).tail.head?.bind fun y => (y.asInt .i64).bind fun v => k s v else none
noncomputable def apR {S : Type} (n m : Nat) (k : Option S) : Option S := bif decide (n + m ≤ 9223372036854775807) && decide ((n + m) * bytesOf Try.prog 55 ≤ roomB) then k else none
/-! ## Same -/
def hSa : Hints := ⟨[], [(0, ⟨[(0, false), (1, false), (12, false), (13, false)], []⟩)]⟩
def frSa (na : Option Bool) (la : Nat) (ca : List PV) (nb : Option Bool) (lb : Nat) (cb : List PV) (L i : Int) : St := frame 26 [(0, (.sl na 2 la ca, 0)), (1, (.sl nb 2 lb cb, 0)), (12, (.int .i64 L, 0)), (13, (.int .i64 i, 0))] []
noncomputable def saLoop (fu n : Nat) (st : St) : Option PV := loopF (en []) hSa fu false Try.f12 [1, 1, 0, 1, 0] 0 n st
theorem sa_raw (fu : Nat) (na : Option Bool) (la : Nat) (ca : List PV) (nb : Option Bool) (lb : Nat) (cb : List PV) :
    prun (en []) hSa fu false Try.f12 [.sl na 2 la ca, .sl nb 2 lb cb] = bif (la : Int) != (lb : Int) then some (.bool false) else saLoop fu fu (frSa na la ca nb lb cb (la : Int) 0) := prunN_eq.trans (by kernel_rfl)
theorem sa_step (fu : Nat) (na : Option Bool) (la : Nat) (ca : List PV) (nb : Option Bool) (lb : Nat) (cb : List PV) (L i : Int) (K : St → Option PV) :
    stepF (en []) hSa fu false Try.f12 [1, 1, 0, 1, 0] (frSa na la ca nb lb cb L i) (fun st => pnorm (hSa.loop.lookup 0) st K) =
      bif decide (i < L) then pairAt la ca i fun s v => pairAt lb cb i fun s' v' => bif !(bif s == s' then (bif v == v' then true else false) else false) then some (.bool false) else K (frSa na la ca nb lb cb L (IntKind.i64.wrap (i + 1)))
      else some (.bool true) := by kernel_rfl
/-! ## Get -/
def hRg : Hints := ⟨[], [(0, ⟨[(1, false), (8, false), (9, false), (10, false)], []⟩)]⟩
def frRg (k : Ky) (nl : Option Bool) (n : Nat) (c : List PV) (L i : Int) : St := frame 21 [(1, (.str k, 0)), (8, (.sl nl 2 n c, 0)), (9, (.int .i64 L, 0)), (10, (.int .i64 i, 0))] []
noncomputable def rgLoop (fu n : Nat) (st : St) : Option PV := loopF (en []) hRg fu false Try.f46 [1, 0, 1, 0] 0 n st
theorem rg_raw (fu : Nat) (nl : Option Bool) (n : Nat) (c : List PV) (k : Ky) : prun (en []) hRg fu false Try.f46 [.sl nl 2 n c, .str k] = rgLoop fu fu (frRg k nl n c (n : Int) 0) := prunN_eq.trans (by kernel_rfl)
theorem rg_step (fu : Nat) (k : Ky) (nl : Option Bool) (n : Nat) (c : List PV) (L i : Int) (K : St → Option PV) :
    stepF (en []) hRg fu false Try.f46 [1, 0, 1, 0] (frRg k nl n c L i) (fun st => pnorm (hRg.loop.lookup 0) st K) =
      bif decide (i < L) then pairAt n c i fun s v => bif s == k then some (.tuple [.int .i64 v, .bool true]) else K (frRg k nl n c L (IntKind.i64.wrap (i + 1))) else some (.tuple [.int .i64 0, .bool false]) := by kernel_rfl
/-! ## From, Back -/
def hRf : Hints := ⟨[], [(0, ⟨[(1, false), (5, true), (8, false), (9, false), (10, false)], []⟩)]⟩
def frRf (k : Ky) (no : Option Bool) (lo : Nat) (co : List PV) (nl : Option Bool) (n : Nat) (c : List PV) (L i : Int) : St := frame 24 [(1, (.str k, 0)), (5, (.sl no 2 lo co, 31)), (8, (.sl nl 2 n c, 0)), (9, (.int .i64 L, 0)), (10, (.int .i64 i, 0))] []
noncomputable def rfLoop (fu n : Nat) (st : St) : Option PV := loopF (en []) hRf fu false Try.f48 [1, 1, 0, 1, 0] 0 n st
theorem rf_raw (fu : Nat) (nl : Option Bool) (n : Nat) (c : List PV) (k : Ky) : prun (en []) hRf fu false Try.f48 [.sl nl 2 n c, .str k] = rfLoop fu fu (frRf k (some true) 0 [] nl n c (n : Int) 0) := prunN_eq.trans (by kernel_rfl)
theorem rf_step (fu : Nat) (k : Ky) (no : Option Bool) (lo : Nat) (co : List PV) (nl : Option Bool) (n : Nat) (c : List PV) (L i : Int) (K : St → Option PV) :
    stepF (en []) hRf fu false Try.f48 [1, 1, 0, 1, 0] (frRf k no lo co nl n c L i) (fun st => pnorm (hRf.loop.lookup 0) st K) =
      bif decide (i < L) then pairAt n c i fun s v => bif !Op.bytesLess s k then apR lo 1 (K (frRf k (no.map (· && (1 == 0))) (lo + 1) (co ++ [.str s, .int .i64 v]) nl n c L (IntKind.i64.wrap (i + 1)))) else K (frRf k no lo co nl n c L (IntKind.i64.wrap (i + 1)))
      else some (.sl no 2 lo co) := by kernel_rfl
def hRb : Hints := ⟨[], [(0, ⟨[(1, false), (5, false), (8, false), (9, false), (10, false)], []⟩)]⟩
def frRb (k : Ky) (no : Option Bool) (lo : Nat) (co : List PV) (nl : Option Bool) (n : Nat) (c : List PV) (L i : Int) : St := frame 24 [(1, (.str k, 0)), (5, (.sl no 2 lo co, 0)), (8, (.sl nl 2 n c, 0)), (9, (.int .i64 L, 0)), (10, (.int .i64 i, 0))] []
noncomputable def rbLoop (fu n : Nat) (st : St) : Option PV := loopF (en []) hRb fu false Try.f50 [1, 1, 0, 1, 0] 0 n st
theorem rb_raw (fu : Nat) (nl : Option Bool) (n : Nat) (c : List PV) (k : Ky) : prun (en []) hRb fu false Try.f50 [.sl nl 2 n c, .str k] = rbLoop fu fu (frRb k (some true) 0 [] nl n c (n : Int) 0) := prunN_eq.trans (by kernel_rfl)
theorem rb_step (fu : Nat) (k : Ky) (no : Option Bool) (lo : Nat) (co : List PV) (nl : Option Bool) (n : Nat) (c : List PV) (L i : Int) (K : St → Option PV) :
    stepF (en []) hRb fu false Try.f50 [1, 1, 0, 1, 0] (frRb k no lo co nl n c L i) (fun st => pnorm (hRb.loop.lookup 0) st K) =
      bif decide (i < L) then pairAt n c i fun s v => bif Op.bytesLess s k || s == k then apR 1 lo (K (frRb k (some false) (1 + lo) ([.str s, .int .i64 v] ++ co) nl n c L (IntKind.i64.wrap (i + 1)))) else K (frRb k no lo co nl n c L (IntKind.i64.wrap (i + 1)))
      else some (.sl no 2 lo co) := by kernel_rfl
/-! ## Delete -/
def hRd : Hints := ⟨[], [(0, ⟨[(0, false), (1, false), (6, true), (9, false), (10, false), (11, false)], []⟩)]⟩
def frRd (na : Option Bool) (la : Nat) (ca : List PV) (k : Ky) (no : Option Bool) (lo : Nat) (co : List PV) (nl : Option Bool) (n : Nat) (c : List PV) (L i : Int) : St := frame 30 [(0, (.sl na 2 la ca, 0)), (1, (.str k, 0)), (6, (.sl no 2 lo co, 38)), (9, (.sl nl 2 n c, 0)), (10, (.int .i64 L, 0)), (11, (.int .i64 i, 0))] []
noncomputable def rdLoop (fu n : Nat) (st : St) : Option PV := loopF (en []) hRd fu false Try.f43 [1, 1, 0, 1, 0] 0 n st
theorem rd_raw (fu : Nat) (nl : Option Bool) (n : Nat) (c : List PV) (k : Ky) : prun (en []) hRd fu false Try.f43 [.sl nl 2 n c, .str k] = rdLoop fu fu (frRd nl n c k (some true) 0 [] nl n c (n : Int) 0) := prunN_eq.trans (by kernel_rfl)
theorem rd_step (fu : Nat) (na : Option Bool) (la : Nat) (ca : List PV) (k : Ky) (no : Option Bool) (lo : Nat) (co : List PV) (nl : Option Bool) (n : Nat) (c : List PV) (L i : Int) (K : St → Option PV) :
    stepF (en []) hRd fu false Try.f43 [1, 1, 0, 1, 0] (frRd na la ca k no lo co nl n c L i) (fun st => pnorm (hRd.loop.lookup 0) st K) =
      bif decide (i < L) then pairAt n c i fun s v => bif s != k then apR lo 1 (K (frRd na la ca k (no.map (· && (1 == 0))) (lo + 1) (co ++ [.str s, .int .i64 v]) nl n c L (IntKind.i64.wrap (i + 1)))) else K (frRd na la ca k no lo co nl n c L (IntKind.i64.wrap (i + 1)))
      else some (.tuple [.sl no 2 lo co, .bool (decide ((lo : Int) < (la : Int)))]) := by kernel_rfl
/-! ## Put -/
def hRp : Hints := ⟨[], [(0, ⟨[(1, false), (2, false), (8, true), (9, false), (10, false), (13, false), (14, false), (15, false)], []⟩)]⟩
def frRp (k : Ky) (v : Int) (no : Option Bool) (lo : Nat) (co : List PV) (b f : Bool) (nl : Option Bool) (n : Nat) (c : List PV) (L i : Int) : St := frame 54 [(1, (.str k, 0)), (2, (.int .i64 v, 0)), (8, (.sl no 2 lo co, 64)), (9, (.bool b, 0)), (10, (.bool f, 0)), (13, (.sl nl 2 n c, 0)), (14, (.int .i64 L, 0)), (15, (.int .i64 i, 0))] []
noncomputable def rpLoop (fu n : Nat) (st : St) : Option PV := loopF (en []) hRp fu false Try.f42 [1, 1, 1, 0, 1, 0] 0 n st
theorem rp_raw (fu : Nat) (nl : Option Bool) (n : Nat) (c : List PV) (k : Ky) (v : Int) : prun (en []) hRp fu false Try.f42 [.sl nl 2 n c, .str k, .int .i64 v] = rpLoop fu fu (frRp k v (some true) 0 [] false true nl n c (n : Int) 0) := prunN_eq.trans (by kernel_rfl)
theorem rp_step (fu : Nat) (k : Ky) (v : Int) (no : Option Bool) (lo : Nat) (co : List PV) (b f : Bool) (nl : Option Bool) (n : Nat) (c : List PV) (L i : Int) (K : St → Option PV) :
    stepF (en []) hRp fu false Try.f42 [1, 1, 1, 0, 1, 0] (frRp k v no lo co b f nl n c L i) (fun st => pnorm (hRp.loop.lookup 0) st K) =
      bif decide (i < L) then pairAt n c i fun s w =>
        bif s == k then apR lo 1 (K (frRp k v (no.map (· && (1 == 0))) (lo + 1) (co ++ [.str s, .int .i64 v]) true false nl n c L (IntKind.i64.wrap (i + 1))))
        else bif (bif !b then Op.bytesLess k s else false) then apR lo 1 (apR (lo + 1) 1 (K (frRp k v ((no.map (· && (1 == 0))).map (· && (1 == 0))) (lo + 1 + 1) ((co ++ [.str k, .int .i64 v]) ++ [.str s, .int .i64 w]) true f nl n c L (IntKind.i64.wrap (i + 1)))))
          else apR lo 1 (K (frRp k v (no.map (· && (1 == 0))) (lo + 1) (co ++ [.str s, .int .i64 w]) b f nl n c L (IntKind.i64.wrap (i + 1))))
      else bif !b then apR lo 1 (some (.tuple [.sl (no.map (· && (1 == 0))) 2 (lo + 1) (co ++ [.str k, .int .i64 v]), .bool f])) else some (.tuple [.sl no 2 lo co, .bool f]) := by kernel_rfl
/-! ## Levels -/
def hRl : Hints := ⟨[], [(0, ⟨[(0, false), (3, false), (4, false)], []⟩)]⟩
def frRl (n k p : Int) : St := frame 15 [(0, (.int .i64 n, 0)), (3, (.int .i64 k, 0)), (4, (.int .i64 p, 0))] []
noncomputable def rlLoop (fu n : Nat) (st : St) : Option PV := loopF (en []) hRl fu false Try.f51 [1, 1, 1, 0, 1, 0] 0 n st
theorem rl_raw (fu : Nat) (n : Int) : prun (en []) hRl fu false Try.f51 [.int .i64 n] = bif n == 0 then some (.int .i64 0) else rlLoop fu fu (frRl n 1 1) := prunN_eq.trans (by kernel_rfl)
theorem rl_step (fu : Nat) (n k p : Int) (K : St → Option PV) :
    stepF (en []) hRl fu false Try.f51 [1, 1, 1, 0, 1, 0] (frRl n k p) (fun st => pnorm (hRl.loop.lookup 0) st K) =
      bif decide (p < n) then K (frRl n (IntKind.i64.wrap (k + 1)) (IntKind.i64.wrap (p * 4))) else some (.int .i64 k) := by kernel_rfl
end Go.Proofs.Ytmacjkiamejcnaa
