/-
  tree.above: its raw run.
-/
import Derived.Test.YtmacjkiamejcnaaPGw
set_option linter.unusedVariables false
set_option linter.unusedSimpArgs false
set_option maxRecDepth 100000
namespace Go.Proofs.Ytmacjkiamejcnaa
open Go.RowKit
noncomputable def enT (l : List (FuncId × PFn)) : Env := enR (enA l [] [] [] []) [93]
def hAb : Hints := ⟨[], [(0, ⟨[(3, false), (9, false), (10, false), (11, false)], [8, 1048584]⟩)]⟩
def frAb (nl : Option Bool) (kl : Nat) (kc : List PV) (n9 : Option Bool) (l9 : Nat) (c9 : List PV) (s L i : Int) : St :=
  frame 43 [(3, (.ptr 8 0, 0)), (9, (.sl n9 1 l9 c9, 0)), (10, (.int .i64 L, 0)), (11, (.int .i64 i, 0))] [(8, [(.sl nl 1 kl kc, 96), (.sl (some true) 1 0 [], 0), (.sl n9 1 l9 c9, 0), (.int .i64 s, 0)])]
/-- the kid's least key and its number of keys -/
def abKid {R : Type} (l9 : Nat) (c9 : List PV) (i : Int) (K : List UInt8 → Int → Option R) : Option R :=
  bif decide (0 ≤ i) && decide (i < (l9 : Int)) then ((c9.drop (i.toNat * 1)).take 1).head?.bind fun v => v.asE.bind fun es =>
    (es.drop 0).head?.bind fun x => (x.asSl 1).bind fun p => bif decide (0 ≤ (0 : Int)) && decide ((0 : Int) < (p.2.1 : Int)) then ((p.2.2.drop ((0 : Int).toNat * 1)).take 1).head?.bind fun y => y.asStr.bind fun s =>
      K s 0 else none
  else none
noncomputable def abLoop (fu n : Nat) (st : St) : Option PV := loopF (enT []) hAb fu false Try.f69 [1, 1, 0, 1, 0] 0 n st
theorem ab_raw (fu : Nat) (n9 : Option Bool) (l9 : Nat) (c9 : List PV) :
    prun (enT []) hAb fu false Try.f69 [.sl n9 1 l9 c9] = abLoop fu fu (frAb (some true) 0 [] n9 l9 c9 0 (l9 : Int) 0) := prunN_eq.trans (by kernel_rfl)
theorem ab_end (fu : Nat) (nl : Option Bool) (kl : Nat) (kc : List PV) (n9 : Option Bool) (l9 : Nat) (c9 : List PV) (s : Int) (K : St → Option PV) :
    stepF (enT []) hAb fu false Try.f69 [1, 1, 0, 1, 0] (frAb nl kl kc n9 l9 c9 s 0 0) (fun st => pnorm (hAb.loop.lookup 0) st K) = some (.eptr [.sl nl 1 kl kc, .sl (some true) 1 0 [], .sl n9 1 l9 c9, .int .i64 s]) := by kernel_rfl
noncomputable def abBody (nl : Option Bool) (kl : Nat) (kc : List PV) (n9 : Option Bool) (l9 : Nat) (c9 : List PV) (s L i : Int) (G : Option Bool → Nat → List PV → Int → Int → Option PV) : Option PV :=
  bif decide (i < L) then
    (bif decide (0 ≤ i) && decide (i < (l9 : Int)) then ((c9.drop (i.toNat * 1)).take 1).head?.bind fun v => v.asE.bind fun es =>
      (es.drop 0).head?.bind fun x => (x.asSl 1).bind fun p => bif decide ((0 : Int) < (p.2.1 : Int)) then ((p.2.2.drop 0).take 1).head?.bind fun y => y.asStr.bind fun k =>
        bif decide (kl + 1 ≤ 9223372036854775807) && decide ((kl + 1) * bytesOf Try.prog 9 ≤ roomB) then
          (es.drop 3).head?.bind fun z => (z.asInt .i64).bind fun c =>
            G (nl.map (· && (1 == 0))) (kl + 1) (kc ++ [.str k]) (IntKind.i64.wrap (s + c)) (IntKind.i64.wrap (i + 1))
        else none
      else none
    else none)
  else some (.eptr [.sl nl 1 kl kc, .sl (some true) 1 0 [], .sl n9 1 l9 c9, .int .i64 s])
theorem ab_step (fu : Nat) (nl : Option Bool) (kl : Nat) (kc : List PV) (n9 : Option Bool) (l9 : Nat) (c9 : List PV) (s L i : Int) (K : St → Option PV) :
    stepF (enT []) hAb fu false Try.f69 [1, 1, 0, 1, 0] (frAb nl kl kc n9 l9 c9 s L i) (fun st => pnorm (hAb.loop.lookup 0) st K) = abBody nl kl kc n9 l9 c9 s L i (fun a b c d e => K (frAb a b c n9 l9 c9 d L e)) := by kernel_rfl
end Go.Proofs.Ytmacjkiamejcnaa
