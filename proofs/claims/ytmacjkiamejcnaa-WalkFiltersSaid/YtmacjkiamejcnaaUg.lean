/-
  At, Rank of a tree: raw runs.
-/
import Derived.Test.YtmacjkiamejcnaaUf
set_option linter.unusedVariables false
set_option linter.unusedSimpArgs false
set_option maxRecDepth 100000
namespace Go.Proofs.Ytmacjkiamejcnaa
open Go.RowKit
section
variable {R : Type} (gl : List PV → Option Bool) (gp : List PV → Ky → Option (Int × Bool)) (gk : List PV → Ky → Option Int) (fu : Nat) (kk : List (List PV) → PV → Option R)
/-! ## Rank -/
def numAt {S : Type} (es : List PV) (k : Int → Option S) : Option S := (es.drop 3).head?.bind fun x => (x.asInt .i64).bind k
def hRk : Hints := ⟨[], [(2, ⟨[(1, false), (5, false), (6, false), (7, false), (36, false), (37, false), (38, false)], [2097152]⟩), (0, ⟨[(1, false), (5, false), (6, false)], [2097152]⟩)]⟩
noncomputable def enRk : Env := enTx (lFo gl gp gk) []
def frRk0 (s : Ky) (n : Int) (x root : PV) : St := frB 65 [(1, .str s), (5, .int .i64 n), (6, x)] [some [(root, 0)]] .nil
def frRk2 (s : Ky) (n : Int) (x : PV) (i : Int) (nk : Option Bool) (m : Nat) (c : List PV) (L j : Int) (root : PV) : St := frB 65 [(1, .str s), (5, .int .i64 n), (6, x), (7, .int .i64 i), (36, .sl nk 1 m c), (37, .int .i64 L), (38, .int .i64 j)] [some [(root, 0)]] .nil
noncomputable def rkKr (st : St) : Option R := pfinH (enRk gl gp gk) 1 Try.f47 st fun bs _ v => kk bs v
noncomputable def rkLoop0 (n : Nat) (st : St) : Option R := loopK (enRk gl gp gk) hRk fu (rkKr gl gp gk kk) Try.f47 (fun _ => none) [1, 1, 1, 0, 0] 0 n st
noncomputable def rkLoop2 (KL : St → Option R) (n : Nat) (st : St) : Option R := loopK (enRk gl gp gk) hRk fu (rkKr gl gp gk kk) Try.f47 KL [1, 1, 1, 0, 0, 0, 1, 0, 1, 0, 1, 0] 2 n st
theorem rank_raw1 (cs : List PV) (s : Ky) :
    prunH (enRk gl gp gk) hRk fu Try.f47 [[.eptr cs]] [.ptr 0 0, .str s] kk = rkLoop0 gl gp gk fu kk fu (frRk0 s 0 (.eptr cs) (.eptr cs)) := prunHN_eq.trans (by kernel_rfl)
theorem rank_raw0 (s : Ky) : prunH (enRk gl gp gk) hRk fu Try.f47 [[.nilptr]] [.ptr 0 0, .str s] kk = kk [[.nilptr]] (.int .i64 0) := by kernel_rfl
theorem rank_rawN (s : Ky) : prunH (enRk gl gp gk) hRk fu Try.f47 [] [.nilptr, .str s] kk = kk [] (.int .i64 0) := by kernel_rfl
theorem rank_step0 (s : Ky) (n : Int) (cs root : List PV) (K : St → Option R) :
    stepK (enRk gl gp gk) hRk fu (rkKr gl gp gk kk) Try.f47 [1, 1, 1, 0, 0] (fun _ => none) (frRk0 s n (.eptr cs) (.eptr root)) (fun st => pnorm (hRk.loop.lookup 0) st K) =
      (gl cs).bind fun b => bif !b then (gk cs s).bind fun i => slAt cs 2 fun nk m c => bif decide (0 ≤ i) && decide (i ≤ (m : Int)) then rkLoop2 gl gp gk fu kk (fun st => pnorm (hRk.loop.lookup 0) st K) fu (frRk2 s n (.eptr cs) i nk (i.toNat - 0) ((c.take (i.toNat * 1)).drop (0 * 1)) ((i.toNat - 0 : Nat) : Int) 0 (.eptr root)) else none
        else (gp cs s).bind fun r => kk [[.eptr root]] (.int .i64 (IntKind.i64.wrap (n + r.1))) := (stepK_eq (by decide)).trans (by kernel_rfl)
theorem rank_step2 (s : Ky) (n : Int) (cs : List PV) (i : Int) (nk : Option Bool) (m : Nat) (c : List PV) (L j : Int) (root : List PV) (K0 K : St → Option R) :
    stepK (enRk gl gp gk) hRk fu (rkKr gl gp gk kk) Try.f47 [1, 1, 1, 0, 0, 0, 1, 0, 1, 0, 1, 0] (fun st => pnorm (hRk.loop.lookup 0) st K0) (frRk2 s n (.eptr cs) i nk m c L j (.eptr root)) (fun st => pnorm (hRk.loop.lookup 2) st K) =
      bif decide (j < L) then kidAt m c j fun es => numAt es fun q => K (frRk2 s (IntKind.i64.wrap (n + q)) (.eptr cs) i nk m c L (IntKind.i64.wrap (j + 1)) (.eptr root))
      else slAt cs 2 fun _ m c => kidAt m c i fun es => K0 (frRk0 s n (.eptr es) (.eptr root)) := by kernel_rfl
/-! ## At -/
def hAt : Hints := ⟨[], [(2, ⟨[(1, false), (8, false), (9, false)], [2097152]⟩), (0, ⟨[(1, false), (8, false)], [2097152]⟩)]⟩
noncomputable def enAt : Env := enTx (lLe gl) [(39, hLen)]
def frAt0 (i : Int) (x root : PV) : St := frB 73 [(1, .int .i64 i), (8, x)] [some [(root, 0)]] .nil
def frAt2 (i : Int) (x : PV) (k : Int) (root : PV) : St := frB 73 [(1, .int .i64 i), (8, x), (9, .int .i64 k)] [some [(root, 0)]] .nil
noncomputable def atKr (st : St) : Option R := pfinH (enAt gl) 1 Try.f52 st fun bs _ v => kk bs v
noncomputable def atLoop0 (n : Nat) (st : St) : Option R := loopK (enAt gl) hAt fu (atKr gl kk) Try.f52 (fun _ => none) [1, 1, 1, 0, 0] 0 n st
noncomputable def atLoop2 (KL : St → Option R) (n : Nat) (st : St) : Option R := loopK (enAt gl) hAt fu (atKr gl kk) Try.f52 KL [1, 1, 1, 0, 0, 0, 1, 0, 1, 0, 0] 2 n st
def atNone (root : PV) : Option R := kk [[root]] (.tuple [.str [], .int .i64 0, .bool false])
theorem at_raw1 (cs : List PV) (i : Int) :
    prunH (enAt gl) hAt fu Try.f52 [[.eptr cs]] [.ptr 0 0, .int .i64 i] kk =
      bif !decide (i < 0) then numAt cs fun n => bif !decide (i < 0) then bif decide (n ≤ i) then atNone kk (.eptr cs) else atLoop0 gl fu kk fu (frAt0 i (.eptr cs) (.eptr cs)) else none else atNone kk (.eptr cs) := prunHN_eq.trans (by kernel_rfl)
theorem at_raw0 (i : Int) :
    prunH (enAt gl) hAt fu Try.f52 [[.nilptr]] [.ptr 0 0, .int .i64 i] kk =
      bif !decide (i < 0) then bif !decide (i < 0) then bif decide (0 ≤ i) then atNone kk .nilptr else atLoop0 gl fu kk fu (frAt0 i .nilptr .nilptr) else none else atNone kk .nilptr := prunHN_eq.trans (by kernel_rfl)
theorem at_rawN (i : Int) :
    prunH (enAt gl) hAt fu Try.f52 [] [.nilptr, .int .i64 i] kk =
      bif !decide (i < 0) then bif !decide (i < 0) then bif decide (0 ≤ i) then kk [] (.tuple [.str [], .int .i64 0, .bool false]) else none else none else kk [] (.tuple [.str [], .int .i64 0, .bool false]) := prunHN_eq.trans (by kernel_rfl)
theorem at_step0 (i : Int) (cs root : List PV) (K : St → Option R) :
    stepK (enAt gl) hAt fu (atKr gl kk) Try.f52 [1, 1, 1, 0, 0] (fun _ => none) (frAt0 i (.eptr cs) (.eptr root)) (fun st => pnorm (hAt.loop.lookup 0) st K) =
      (gl cs).bind fun b => bif !b then atLoop2 gl fu kk (fun st => pnorm (hAt.loop.lookup 0) st K) fu (frAt2 i (.eptr cs) 0 (.eptr root))
        else slAt cs 0 fun _ n c => strsAt n c i fun k => slAt cs 1 fun _ m e => valsAt m e i fun v => kk [[.eptr root]] (.tuple [.str k, .int .i64 v, .bool true]) := (stepK_eq (by decide)).trans (by kernel_rfl)
theorem at_step2 (i : Int) (cs : List PV) (k : Int) (root : List PV) (K0 K : St → Option R) :
    stepK (enAt gl) hAt fu (atKr gl kk) Try.f52 [1, 1, 1, 0, 0, 0, 1, 0, 1, 0, 0] (fun st => pnorm (hAt.loop.lookup 0) st K0) (frAt2 i (.eptr cs) k (.eptr root)) (fun st => pnorm (hAt.loop.lookup 2) st K) =
      slAt cs 2 fun _ m c => kidAt m c k fun es => numAt es fun q => bif decide (q ≤ i) then slAt cs 2 fun _ m c => kidAt m c k fun es => numAt es fun q => K (frAt2 (IntKind.i64.wrap (i - q)) (.eptr cs) (IntKind.i64.wrap (k + 1)) (.eptr root))
        else slAt cs 2 fun _ m c => kidAt m c k fun es => K0 (frAt0 i (.eptr es) (.eptr root)) := by kernel_rfl
end
end Go.Proofs.Ytmacjkiamejcnaa
