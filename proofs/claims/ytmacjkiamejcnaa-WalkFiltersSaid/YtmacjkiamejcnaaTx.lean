/-
  The tree's methods: raw runs (no walks).
-/
import Derived.Test.YtmacjkiamejcnaaTw
set_option linter.unusedVariables false
set_option linter.unusedSimpArgs false
set_option maxRecDepth 100000
namespace Go.Proofs.Ytmacjkiamejcnaa
open Go.RowKit
def tLeaf (g : List PV → Option Bool) : PFn := ⟨fun xs k => match xs with | [.eptr cs] => (g cs).bind fun b => k (.bool b) | _ => none, false⟩
noncomputable def enTx (l : List (FuncId × PFn)) (lh : List (FuncId × HFn)) : Env := enR (enA l lh [] [] []) [93]
def h0 : Hints := ⟨[], []⟩
/-- the frame of a call that has been lent boxes -/
def frB (n : Nat) (l : List (Nat × PV)) (bx : List (Option (List TV))) (o : Out) : St := ⟨(List.range n).map fun t => ((l.lookup t).getD .undef, 0), List.replicate n none ++ bx, o⟩
section
variable {R : Type}
theorem new_raw (kk : List (List PV) → PV → Option R) : prunH (enTx [] []) h0 0 Try.f36 [] [] kk = kk [[.nilptr]] (.ptr 0 0) := by kernel_rfl
noncomputable def lTp (gu : List PV → Ky → PV → Option (Nat × List PV × Bool)) : List (FuncId × PFn) := [(68, tPut gu), (69, p_ab), (67, p_lf)]
theorem tput_raw1 (gu : List PV → Ky → PV → Option (Nat × List PV × Bool)) (cs : List PV) (s : Ky) (v : Int) (kk : List (List PV) → PV → Option R) :
    prunH (enTx (lTp gu) []) h0 0 Try.f37 [[.eptr cs]] [.ptr 0 0, .str s, .int .i64 v] kk =
      (gu cs s (.int .i64 v)).bind fun r => kidAt r.1 r.2.1 0 fun es => bif decide (1 < (r.1 : Int)) then p_ab.F [.sl (some false) 1 r.1 r.2.1] fun y => kk [[y]] (.bool r.2.2) else kk [[.eptr es]] (.bool r.2.2) := by kernel_rfl
theorem tput_raw0 (gu : List PV → Ky → PV → Option (Nat × List PV × Bool)) (s : Ky) (v : Int) (kk : List (List PV) → PV → Option R) :
    prunH (enTx (lTp gu) []) h0 0 Try.f37 [[.nilptr]] [.ptr 0 0, .str s, .int .i64 v] kk =
      p_lf.F [.sl (some false) 1 1 [.str s], .sl (some false) 1 1 [.int .i64 v]] fun y => kk [[y]] (.bool true) := by kernel_rfl
theorem tput_rawN (gu : List PV → Ky → PV → Option (Nat × List PV × Bool)) (s : Ky) (v : Int) (kk : List (List PV) → PV → Option R) :
    prunH (enTx (lTp gu) []) h0 0 Try.f37 [] [.nilptr, .str s, .int .i64 v] kk = kk [] (.bool false) := by kernel_rfl
theorem len_raw1 (cs : List PV) (kk : List (List PV) → PV → Option R) :
    prunH (enTx [] []) h0 0 Try.f39 [[.eptr cs]] [.ptr 0 0] kk = (cs.drop 3).head?.bind fun x => (x.asInt .i64).bind fun n => kk [[.eptr cs]] (.int .i64 n) := by kernel_rfl
theorem len_raw0 (kk : List (List PV) → PV → Option R) : prunH (enTx [] []) h0 0 Try.f39 [[.nilptr]] [.ptr 0 0] kk = kk [[.nilptr]] (.int .i64 0) := by kernel_rfl
theorem len_rawN (kk : List (List PV) → PV → Option R) : prunH (enTx [] []) h0 0 Try.f39 [] [.nilptr] kk = kk [] (.int .i64 0) := by kernel_rfl
theorem copy_raw1 (cs : List PV) (kk : List (List PV) → PV → Option R) :
    prunH (enTx [] []) h0 0 Try.f44 [[.eptr cs]] [.ptr 0 0] kk = kk [[.eptr cs], [.eptr cs]] (.ptr 1 0) := by kernel_rfl
theorem copy_raw0 (kk : List (List PV) → PV → Option R) : prunH (enTx [] []) h0 0 Try.f44 [[.nilptr]] [.ptr 0 0] kk = kk [[.nilptr], [.nilptr]] (.ptr 1 0) := by kernel_rfl
theorem copy_rawN (kk : List (List PV) → PV → Option R) : prunH (enTx [] []) h0 0 Try.f44 [] [.nilptr] kk = kk [] .nilptr := by kernel_rfl
theorem from_raw1 (cs : List PV) (s : Ky) (kk : List (List PV) → PV → Option R) :
    prunH (enTx [] []) h0 0 Try.f23 [[.eptr cs]] [.ptr 0 0, .str s] kk = kk [[.eptr cs], [.ptr 0 0], [.str s]] (.clo 60 [.ptr 1 0, .ptr 2 0]) := by kernel_rfl
theorem from_raw0 (s : Ky) (kk : List (List PV) → PV → Option R) :
    prunH (enTx [] []) h0 0 Try.f23 [[.nilptr]] [.ptr 0 0, .str s] kk = kk [[.nilptr], [.ptr 0 0], [.str s]] (.clo 60 [.ptr 1 0, .ptr 2 0]) := by kernel_rfl
theorem from_rawN (s : Ky) (kk : List (List PV) → PV → Option R) :
    prunH (enTx [] []) h0 0 Try.f23 [] [.nilptr, .str s] kk = kk [[.nilptr], [.str s]] (.clo 60 [.ptr 0 0, .ptr 1 0]) := by kernel_rfl
theorem back_raw1 (cs : List PV) (s : Ky) (kk : List (List PV) → PV → Option R) :
    prunH (enTx [] []) h0 0 Try.f49 [[.eptr cs]] [.ptr 0 0, .str s] kk = kk [[.eptr cs], [.ptr 0 0], [.str s]] (.clo 75 [.ptr 1 0, .ptr 2 0]) := by kernel_rfl
theorem back_raw0 (s : Ky) (kk : List (List PV) → PV → Option R) :
    prunH (enTx [] []) h0 0 Try.f49 [[.nilptr]] [.ptr 0 0, .str s] kk = kk [[.nilptr], [.ptr 0 0], [.str s]] (.clo 75 [.ptr 1 0, .ptr 2 0]) := by kernel_rfl
theorem back_rawN (s : Ky) (kk : List (List PV) → PV → Option R) :
    prunH (enTx [] []) h0 0 Try.f49 [] [.nilptr, .str s] kk = kk [[.nilptr], [.str s]] (.clo 75 [.ptr 0 0, .ptr 1 0]) := by kernel_rfl
/-! ## find -/
noncomputable def lFi (gl : List PV → Option Bool) (gk : List PV → Ky → Option Int) : List (FuncId × PFn) := [(71, tLeaf gl), (74, tKid gk)]
def hFi : Hints := ⟨[], [(0, ⟨[(1, false), (5, false)], [2097152]⟩)]⟩
def frFi (s : Ky) (x root : PV) : St := frB 29 [(1, .str s), (5, x)] [some [(root, 0)]] .nil
noncomputable def fiKr (gl : List PV → Option Bool) (gk : List PV → Ky → Option Int) (kk : List (List PV) → PV → Option R) (st : St) : Option R := pfinH (enTx (lFi gl gk) []) 1 Try.f72 st fun bs _ v => kk bs v
noncomputable def fiLoop (gl : List PV → Option Bool) (gk : List PV → Ky → Option Int) (fu : Nat) (kk : List (List PV) → PV → Option R) (n : Nat) (st : St) : Option R :=
  loopK (enTx (lFi gl gk) []) hFi fu (fiKr gl gk kk) Try.f72 (fun _ => none) [1, 1, 1, 0, 0] 0 n st
theorem find_raw1 (gl : List PV → Option Bool) (gk : List PV → Ky → Option Int) (fu : Nat) (cs : List PV) (s : Ky) (kk : List (List PV) → PV → Option R) :
    prunH (enTx (lFi gl gk) []) hFi fu Try.f72 [[.eptr cs]] [.ptr 0 0, .str s] kk = fiLoop gl gk fu kk fu (frFi s (.eptr cs) (.eptr cs)) := prunHN_eq.trans (by kernel_rfl)
theorem find_raw0 (gl : List PV → Option Bool) (gk : List PV → Ky → Option Int) (fu : Nat) (s : Ky) (kk : List (List PV) → PV → Option R) :
    prunH (enTx (lFi gl gk) []) hFi (fu + 1) Try.f72 [[.nilptr]] [.ptr 0 0, .str s] kk = kk [[.nilptr]] .nilptr := by kernel_rfl
theorem find_rawN (gl : List PV → Option Bool) (gk : List PV → Ky → Option Int) (fu : Nat) (s : Ky) (kk : List (List PV) → PV → Option R) :
    prunH (enTx (lFi gl gk) []) hFi fu Try.f72 [] [.nilptr, .str s] kk = kk [] .nilptr := by kernel_rfl
def kidsOf {S : Type} (cs : List PV) (k : Nat → List PV → Option S) : Option S := (cs.drop 2).head?.bind fun x => (x.asSl 1).bind fun p => k p.2.1 p.2.2
theorem find_step (gl : List PV → Option Bool) (gk : List PV → Ky → Option Int) (fu : Nat) (cs : List PV) (s : Ky) (root : List PV) (kk : List (List PV) → PV → Option R) (K : St → Option R) :
    stepK (enTx (lFi gl gk) []) hFi fu (fiKr gl gk kk) Try.f72 [1, 1, 1, 0, 0] (fun _ => none) (frFi s (.eptr cs) (.eptr root)) (fun st => pnorm (hFi.loop.lookup 0) st K) =
      (gl cs).bind fun b => bif !b then kidsOf cs fun n c => (gk cs s).bind fun i => kidAt n c i fun es => K (frFi s (.eptr es) (.eptr root)) else kk [[.eptr root]] (.eptr cs) := by kernel_rfl
/-! ## Get -/
def hFind (gf : List PV → Ky → Option (List PV)) : HFn := ⟨fun bs xs k => match bs, xs with
  | [[.eptr cs]], [.ptr 0 0, .str s] => (gf cs s).bind fun es => k [[.eptr cs]] (.eptr es)
  | [[.nilptr]], [.ptr 0 0, .str s] => k [[.nilptr]] .nilptr
  | [], [.nilptr, .str s] => k [] .nilptr
  | _, _ => none⟩
noncomputable def lGe (gp : List PV → Ky → Option (Int × Bool)) : List (FuncId × PFn) := [(73, tPlace gp)]
noncomputable def lGeH (gf : List PV → Ky → Option (List PV)) : List (FuncId × HFn) := [(72, hFind gf)]
theorem get_raw1 (gp : List PV → Ky → Option (Int × Bool)) (gf : List PV → Ky → Option (List PV)) (cs : List PV) (s : Ky) (kk : List (List PV) → PV → Option R) :
    prunH (enTx (lGe gp) (lGeH gf)) h0 0 Try.f45 [[.eptr cs]] [.ptr 0 0, .str s] kk =
      (gf cs s).bind fun es => (gp es s).bind fun r => bif r.2 then (es.drop 1).head?.bind fun x => (x.asSl 1).bind fun p => bif decide (0 ≤ r.1) && decide (r.1 < (p.2.1 : Int)) then ((p.2.2.drop (r.1.toNat * 1)).take 1).head?.bind fun y => (y.asInt .i64).bind fun v => kk [[.eptr cs]] (.tuple [.int .i64 v, .bool true]) else none
        else kk [[.eptr cs]] (.tuple [.int .i64 0, .bool false]) := by kernel_rfl
theorem get_raw0 (gp : List PV → Ky → Option (Int × Bool)) (gf : List PV → Ky → Option (List PV)) (s : Ky) (kk : List (List PV) → PV → Option R) :
    prunH (enTx (lGe gp) (lGeH gf)) h0 0 Try.f45 [[.nilptr]] [.ptr 0 0, .str s] kk = kk [[.nilptr]] (.tuple [.int .i64 0, .bool false]) := by kernel_rfl
theorem get_rawN (gp : List PV → Ky → Option (Int × Bool)) (gf : List PV → Ky → Option (List PV)) (s : Ky) (kk : List (List PV) → PV → Option R) :
    prunH (enTx (lGe gp) (lGeH gf)) h0 0 Try.f45 [] [.nilptr, .str s] kk = kk [] (.tuple [.int .i64 0, .bool false]) := by kernel_rfl
/-! ## Delete -/
def hGet (gg : List PV → Ky → Option (Int × Bool)) : HFn := ⟨fun bs xs k => match bs, xs with
  | [[.eptr cs]], [.ptr 0 0, .str s] => (gg cs s).bind fun r => k [[.eptr cs]] (.tuple [.int .i64 r.1, .bool r.2])
  | [[.nilptr]], [.ptr 0 0, .str s] => k [[.nilptr]] (.tuple [.int .i64 0, .bool false])
  | [], [.nilptr, .str s] => k [] (.tuple [.int .i64 0, .bool false])
  | _, _ => none⟩
noncomputable def lDe (gr : List PV → Ky → Option (Bool × List PV)) : List (FuncId × PFn) := [(70, tRem gr)]
noncomputable def lDeH (gg : List PV → Ky → Option (Int × Bool)) : List (FuncId × HFn) := [(45, hGet gg)]
def hDe : Hints := ⟨[], [(0, ⟨[(0, false)], [2097152]⟩)]⟩
def frDe (root : PV) : St := frB 52 [(0, .ptr 52 0)] [some [(root, 0)]] .nil
noncomputable def deKr (gr : List PV → Ky → Option (Bool × List PV)) (gg : List PV → Ky → Option (Int × Bool)) (kk : List (List PV) → PV → Option R) (st : St) : Option R := pfinH (enTx (lDe gr) (lDeH gg)) 1 Try.f40 st fun bs _ v => kk bs v
noncomputable def deLoop (gr : List PV → Ky → Option (Bool × List PV)) (gg : List PV → Ky → Option (Int × Bool)) (fu : Nat) (kk : List (List PV) → PV → Option R) (n : Nat) (st : St) : Option R :=
  loopK (enTx (lDe gr) (lDeH gg)) hDe fu (deKr gr gg kk) Try.f40 (fun _ => none) [1, 1, 1, 0, 0] 0 n st
theorem del_raw1 (gr : List PV → Ky → Option (Bool × List PV)) (gg : List PV → Ky → Option (Int × Bool)) (fu : Nat) (cs : List PV) (s : Ky) (kk : List (List PV) → PV → Option R) :
    prunH (enTx (lDe gr) (lDeH gg)) hDe fu Try.f40 [[.eptr cs]] [.ptr 0 0, .str s] kk =
      (gg cs s).bind fun r => bif !r.2 then kk [[.eptr cs]] (.bool false) else (gr cs s).bind fun q => bif q.1 then deLoop gr gg fu kk fu (frDe .nilptr) else deLoop gr gg fu kk fu (frDe (.eptr q.2)) := prunHN_eq.trans (by kernel_rfl)
theorem del_raw0 (gr : List PV → Ky → Option (Bool × List PV)) (gg : List PV → Ky → Option (Int × Bool)) (fu : Nat) (s : Ky) (kk : List (List PV) → PV → Option R) :
    prunH (enTx (lDe gr) (lDeH gg)) hDe fu Try.f40 [[.nilptr]] [.ptr 0 0, .str s] kk = kk [[.nilptr]] (.bool false) := by kernel_rfl
theorem del_rawN (gr : List PV → Ky → Option (Bool × List PV)) (gg : List PV → Ky → Option (Int × Bool)) (fu : Nat) (s : Ky) (kk : List (List PV) → PV → Option R) :
    prunH (enTx (lDe gr) (lDeH gg)) hDe fu Try.f40 [] [.nilptr, .str s] kk = kk [] (.bool false) := by kernel_rfl
theorem del_step1 (gr : List PV → Ky → Option (Bool × List PV)) (gg : List PV → Ky → Option (Int × Bool)) (fu : Nat) (es : List PV) (kk : List (List PV) → PV → Option R) (K : St → Option R) :
    stepK (enTx (lDe gr) (lDeH gg)) hDe fu (deKr gr gg kk) Try.f40 [1, 1, 1, 0, 0] (fun _ => none) (frDe (.eptr es)) (fun st => pnorm (hDe.loop.lookup 0) st K) =
      kidsOf es fun n c => bif (n : Int) == 1 then kidsOf es fun n c => kidAt n c 0 fun fs => K (frDe (.eptr fs)) else kk [[.eptr es]] (.bool true) := by kernel_rfl
theorem del_step0 (gr : List PV → Ky → Option (Bool × List PV)) (gg : List PV → Ky → Option (Int × Bool)) (fu : Nat) (kk : List (List PV) → PV → Option R) (K : St → Option R) :
    stepK (enTx (lDe gr) (lDeH gg)) hDe fu (deKr gr gg kk) Try.f40 [1, 1, 1, 0, 0] (fun _ => none) (frDe .nilptr) (fun st => pnorm (hDe.loop.lookup 0) st K) = kk [[.nilptr]] (.bool true) := by kernel_rfl
/-! ## Levels -/
noncomputable def lLe (gl : List PV → Option Bool) : List (FuncId × PFn) := [(71, tLeaf gl)]
def hLe : Hints := ⟨[], [(0, ⟨[(3, false), (4, false)], [2097152]⟩)]⟩
def frLe (n : Int) (x root : PV) : St := frB 30 [(3, .int .i64 n), (4, x)] [some [(root, 0)]] .nil
noncomputable def leKr (gl : List PV → Option Bool) (kk : List (List PV) → PV → Option R) (st : St) : Option R := pfinH (enTx (lLe gl) []) 1 Try.f41 st fun bs _ v => kk bs v
noncomputable def leLoop (gl : List PV → Option Bool) (fu : Nat) (kk : List (List PV) → PV → Option R) (n : Nat) (st : St) : Option R :=
  loopK (enTx (lLe gl) []) hLe fu (leKr gl kk) Try.f41 (fun _ => none) [1, 1, 1, 0, 1, 0] 0 n st
theorem lev_raw1 (gl : List PV → Option Bool) (fu : Nat) (cs : List PV) (kk : List (List PV) → PV → Option R) :
    prunH (enTx (lLe gl) []) hLe fu Try.f41 [[.eptr cs]] [.ptr 0 0] kk = leLoop gl fu kk fu (frLe 1 (.eptr cs) (.eptr cs)) := prunHN_eq.trans (by kernel_rfl)
theorem lev_raw0 (gl : List PV → Option Bool) (fu : Nat) (kk : List (List PV) → PV → Option R) :
    prunH (enTx (lLe gl) []) hLe fu Try.f41 [[.nilptr]] [.ptr 0 0] kk = kk [[.nilptr]] (.int .i64 0) := by kernel_rfl
theorem lev_rawN (gl : List PV → Option Bool) (fu : Nat) (kk : List (List PV) → PV → Option R) :
    prunH (enTx (lLe gl) []) hLe fu Try.f41 [] [.nilptr] kk = kk [] (.int .i64 0) := by kernel_rfl
theorem lev_step (gl : List PV → Option Bool) (fu : Nat) (n : Int) (cs root : List PV) (kk : List (List PV) → PV → Option R) (K : St → Option R) :
    stepK (enTx (lLe gl) []) hLe fu (leKr gl kk) Try.f41 [1, 1, 1, 0, 1, 0] (fun _ => none) (frLe n (.eptr cs) (.eptr root)) (fun st => pnorm (hLe.loop.lookup 0) st K) =
      (gl cs).bind fun b => bif !b then kidsOf cs fun m c => kidAt m c 0 fun es => K (frLe (IntKind.i64.wrap (n + 1)) (.eptr es) (.eptr root)) else kk [[.eptr root]] (.int .i64 n) := by kernel_rfl
end
end Go.Proofs.Ytmacjkiamejcnaa
