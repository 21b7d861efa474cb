/-
  The tree's small functions (printed by wip/gen/ta.py).
  tree.above: its raw run.
  tree.above: what it computes.
  (*tree.node).split: its raw run.
  (*tree.node).split: its contract.
  slices.Concat of two slices (printed by wip/gen/tf.py).
-/
import Derived.Test.YtmacjkiamejcnaaSGm
import Derived.Test.YtmacjkiamejcnaaPGw
import Derived.Test.YtmacjkiamejcnaaSk
set_option linter.unusedVariables false
set_option linter.unusedSimpArgs false
set_option maxRecDepth 100000
namespace Go.Proofs.Ytmacjkiamejcnaa
open Go.RowKit
def NGt : Nat := 0
def Wt : World → Prop := fun _ => True
theorem wokt : WOK NGt Wt := fun _ _ _ _ => trivial
theorem cond_nat {R : Type} {b : Bool} {x : PV} {k : PV → Option R} : (bif b then k x else none) = (bif b then some x else none).bind k := by cases b <;> rfl
theorem leaf_raw (kn : Option Bool) (kl : Nat) (kc : List PV) (vn : Option Bool) (vl : Nat) (vc : List PV) (ni : Bool) (il : Nat) (ic : List PV) (c : Int) : prun (en []) ⟨[], []⟩ 0 false Try.f71 [.eptr [.sl kn 1 kl kc, .sl vn 1 vl vc, .sl (some ni) 1 il ic, .int .i64 c]] = some (.bool ni) := by kernel_rfl
def p_leaf : PFn := ⟨fun xs k => match xs with | [.eptr [.sl kn 1 kl kc, .sl vn 1 vl vc, .sl (some ni) 1 il ic, .int .i64 c]] => k (.bool ni) | _ => none, false⟩
theorem ok_leaf : FOK NGt Wt 71 p_leaf := by
  refine fok wokt allOK_nil (h := ⟨[], []⟩) Try.func71 rfl (by decide) ?_ ?_
  · intro R xs k
    simp only [p_leaf]
    split
    · rfl
    · rfl
  · intro xs r h
    simp only [p_leaf] at h
    split at h
    · rename_i kn kl kc vn vl vc ni il ic c
      exact ⟨0, (leaf_raw kn kl kc vn vl vc ni il ic c).trans h⟩
    · cases h
theorem size_raw (kn : Option Bool) (kl : Nat) (kc : List PV) (vn : Option Bool) (vl : Nat) (vc : List PV) (ni : Bool) (il : Nat) (ic : List PV) (c : Int) : prun (en []) ⟨[], []⟩ 0 false Try.f98 [.eptr [.sl kn 1 kl kc, .sl vn 1 vl vc, .sl (some ni) 1 il ic, .int .i64 c]] = some (.int .i64 (kl : Int)) := by kernel_rfl
def p_size : PFn := ⟨fun xs k => match xs with | [.eptr [.sl kn 1 kl kc, .sl vn 1 vl vc, .sl (some ni) 1 il ic, .int .i64 c]] => k (.int .i64 (kl : Int)) | _ => none, false⟩
theorem ok_size : FOK NGt Wt 98 p_size := by
  refine fok wokt allOK_nil (h := ⟨[], []⟩) Try.func98 rfl (by decide) ?_ ?_
  · intro R xs k
    simp only [p_size]
    split
    · rfl
    · rfl
  · intro xs r h
    simp only [p_size] at h
    split at h
    · rename_i kn kl kc vn vl vc ni il ic c
      exact ⟨0, (size_raw kn kl kc vn vl vc ni il ic c).trans h⟩
    · cases h
theorem leafOf_raw (kn : Option Bool) (kl : Nat) (kc : List PV) (vn : Option Bool) (vl : Nat) (vc : List PV) : prun (en []) ⟨[], []⟩ 0 false Try.f67 [.sl kn 1 kl kc, .sl vn 1 vl vc] = some (.eptr [.sl kn 1 kl kc, .sl vn 1 vl vc, .sl (some true) 1 0 [], .int .i64 (kl : Int)]) := by kernel_rfl
def p_leafOf : PFn := ⟨fun xs k => match xs with | [.sl kn 1 kl kc, .sl vn 1 vl vc] => k (.eptr [.sl kn 1 kl kc, .sl vn 1 vl vc, .sl (some true) 1 0 [], .int .i64 (kl : Int)]) | _ => none, false⟩
theorem ok_leafOf : FOK NGt Wt 67 p_leafOf := by
  refine fok wokt allOK_nil (h := ⟨[], []⟩) Try.func67 rfl (by decide) ?_ ?_
  · intro R xs k
    simp only [p_leafOf]
    split
    · rfl
    · rfl
  · intro xs r h
    simp only [p_leafOf] at h
    split at h
    · rename_i kn kl kc vn vl vc
      exact ⟨0, (leafOf_raw kn kl kc vn vl vc).trans h⟩
    · cases h
theorem place_raw (kn : Option Bool) (kl : Nat) (kc : List PV) (vn : Option Bool) (vl : Nat) (vc : List PV) (ni : Bool) (il : Nat) (ic : List PV) (c : Int) (x : List UInt8) : prun (en [(91, p_bs)]) ⟨[], []⟩ 0 false Try.f73 [.eptr [.sl kn 1 kl kc, .sl vn 1 vl vc, .sl (some ni) 1 il ic, .int .i64 c], .str x] = (bif kc.all isStr && (decide (kc.length = kl) && (decide (0 < kl) && decide (kl ≤ 1000000))) then some (.tuple [.int .i64 (placeI kc x : Nat), .bool (decide (placeI kc x < kl) && strAt kc (placeI kc x) == x)]) else none) := by kernel_rfl
def p_place : PFn := ⟨fun xs k => match xs with | [.eptr [.sl kn 1 kl kc, .sl vn 1 vl vc, .sl (some ni) 1 il ic, .int .i64 c], .str x] => bif kc.all isStr && (decide (kc.length = kl) && (decide (0 < kl) && decide (kl ≤ 1000000))) then k (.tuple [.int .i64 (placeI kc x : Nat), .bool (decide (placeI kc x < kl) && strAt kc (placeI kc x) == x)]) else none | _ => none, false⟩
theorem ok_place : FOK NGt Wt 73 p_place := by
  refine fok wokt (allOK_cons ok_bs allOK_nil) (h := ⟨[], []⟩) Try.func73 rfl (by decide) ?_ ?_
  · intro R xs k
    simp only [p_place]
    split
    · exact cond_nat
    · rfl
  · intro xs r h
    simp only [p_place] at h
    split at h
    · rename_i kn kl kc vn vl vc ni il ic c x
      rcases hb : (kc.all isStr && (decide (kc.length = kl) && (decide (0 < kl) && decide (kl ≤ 1000000)))) with _ | _ <;> rw [hb] at h
      · cases h
      · exact ⟨0, (((place_raw kn kl kc vn vl vc ni il ic c x).trans (by rw [hb]))).trans h⟩
    · cases h
end Go.Proofs.Ytmacjkiamejcnaa
set_option linter.unusedVariables false
set_option linter.unusedSimpArgs false
set_option maxRecDepth 100000
namespace Go.Proofs.Ytmacjkiamejcnaa
open Go.RowKit
noncomputable def enT (l : List (FuncId × PFn)) : Env := enR (enA l [] [] [] []) [93]
def hAb : Hints := ⟨[], [(0, ⟨[(3, false), (9, false), (10, false), (11, false)], [8, 1048584]⟩)]⟩
def frAb (nl : Option Bool) (kl : Nat) (kc : List PV) (n9 : Option Bool) (l9 : Nat) (c9 : List PV) (s L i : Int) : St :=
  frame 43 [(3, (.ptr 8 0, 0)), (9, (.sl n9 1 l9 c9, 0)), (10, (.int .i64 L, 0)), (11, (.int .i64 i, 0))] [(8, [(.sl nl 1 kl kc, 96), (.sl (some true) 1 0 [], 0), (.sl n9 1 l9 c9, 0), (.int .i64 s, 0)])]
/-- the kid's least key and its number of keys -/
def abKid {R : Type} (l9 : Nat) (c9 : List PV) (i : Int) (K : List UInt8 → Int → Option R) : Option R :=
  bif decide (0 ≤ i) && decide (i < (l9 : Int)) then ((c9.drop (i.toNat * 1)).take 1).head?.bind fun v => v.asE.bind fun es =>
    (es.drop 0).head?.bind fun x => (x.asSl 1).bind fun p => bif decide (0 ≤ (0 : Int)) && decide ((0 : Int) < (p.2.1 : Int)) then ((p.2.2.drop ((0 : Int).toNat * 1)).take 1).head?.bind fun y => y.asStr.bind fun s =>
      K s 0 else none
  else none
noncomputable def abLoop (fu n : Nat) (st : St) : Option PV := loopF (enT []) hAb fu false Try.f69 [1, 1, 0, 1, 0] 0 n st
theorem ab_raw (fu : Nat) (n9 : Option Bool) (l9 : Nat) (c9 : List PV) :
    prun (enT []) hAb fu false Try.f69 [.sl n9 1 l9 c9] = abLoop fu fu (frAb (some true) 0 [] n9 l9 c9 0 (l9 : Int) 0) := prunN_eq.trans (by kernel_rfl)
theorem ab_end (fu : Nat) (nl : Option Bool) (kl : Nat) (kc : List PV) (n9 : Option Bool) (l9 : Nat) (c9 : List PV) (s : Int) (K : St → Option PV) :
    stepF (enT []) hAb fu false Try.f69 [1, 1, 0, 1, 0] (frAb nl kl kc n9 l9 c9 s 0 0) (fun st => pnorm (hAb.loop.lookup 0) st K) = some (.eptr [.sl nl 1 kl kc, .sl (some true) 1 0 [], .sl n9 1 l9 c9, .int .i64 s]) := by kernel_rfl
noncomputable def abBody (nl : Option Bool) (kl : Nat) (kc : List PV) (n9 : Option Bool) (l9 : Nat) (c9 : List PV) (s L i : Int) (G : Option Bool → Nat → List PV → Int → Int → Option PV) : Option PV :=
  bif decide (i < L) then
    (bif decide (0 ≤ i) && decide (i < (l9 : Int)) then ((c9.drop (i.toNat * 1)).take 1).head?.bind fun v => v.asE.bind fun es =>
      (es.drop 0).head?.bind fun x => (x.asSl 1).bind fun p => bif decide ((0 : Int) < (p.2.1 : Int)) then ((p.2.2.drop 0).take 1).head?.bind fun y => y.asStr.bind fun k =>
        bif decide (kl + 1 ≤ 9223372036854775807) && decide ((kl + 1) * bytesOf Try.prog 9 ≤ roomB) then
          (es.drop 3).head?.bind fun z => (z.asInt .i64).bind fun c =>
            G (nl.map (· && (1 == 0))) (kl + 1) (kc ++ [.str k]) (IntKind.i64.wrap (s + c)) (IntKind.i64.wrap (i + 1))
        else none
      else none
    else none)
  else some (.eptr [.sl nl 1 kl kc, .sl (some true) 1 0 [], .sl n9 1 l9 c9, .int .i64 s])
theorem ab_step (fu : Nat) (nl : Option Bool) (kl : Nat) (kc : List PV) (n9 : Option Bool) (l9 : Nat) (c9 : List PV) (s L i : Int) (K : St → Option PV) :
    stepF (enT []) hAb fu false Try.f69 [1, 1, 0, 1, 0] (frAb nl kl kc n9 l9 c9 s L i) (fun st => pnorm (hAb.loop.lookup 0) st K) = abBody nl kl kc n9 l9 c9 s L i (fun a b c d e => K (frAb a b c n9 l9 c9 d L e)) := by kernel_rfl
end Go.Proofs.Ytmacjkiamejcnaa
set_option linter.unusedVariables false
set_option linter.unusedSimpArgs false
set_option maxRecDepth 100000
namespace Go.Proofs.Ytmacjkiamejcnaa
open Go.RowKit
/-- a kid's least key and its number of keys -/
def kidKC : PV → Option (List UInt8 × Int)
  | .eptr (.sl _ 1 n (.str k :: _) :: _ :: _ :: .int .i64 c :: _) => if 0 < n then some (k, c) else none
  | _ => none
theorem kidKC_inv {v : PV} {p : List UInt8 × Int} (h : kidKC v = some p) : ∃ nl n r a b t, v = .eptr (.sl nl 1 n (.str p.1 :: r) :: a :: b :: .int .i64 p.2 :: t) ∧ 0 < n := by
  unfold kidKC at h
  split at h
  · obtain ⟨h1, h⟩ := ite_inv h
    injection h with h
    subst h
    exact ⟨_, _, _, _, _, _, rfl, h1⟩
  · cases h
def abKeys (ks : List (List UInt8 × Int)) : List PV := ks.map fun p => .str p.1
def abSum (ks : List (List UInt8 × Int)) : Int := (ks.map (·.2)).sum
theorem abSum_le {ks : List (List UInt8 × Int)} (h : ∀ p ∈ ks, 0 ≤ p.2 ∧ p.2 ≤ 1000000) : 0 ≤ abSum ks ∧ abSum ks ≤ 1000000 * (ks.length : Int) := by
  induction ks with
  | nil => simp [abSum]
  | cons p r ih =>
    have h1 := h p List.mem_cons_self
    have h2 := ih fun q hq => h q (List.mem_cons_of_mem _ hq)
    simp only [abSum, List.map_cons, List.sum_cons, List.length_cons] at h2 ⊢
    omega
theorem ab_room : bytesOf Try.prog 9 = 16 := by kernel_rfl
theorem ab_loop (fu : Nat) (ks : List (List UInt8 × Int)) (n9 : Option Bool) (c9 : List PV) (hk : mapO kidKC c9 = some ks) (hlen : c9.length ≤ 1000) (hc : ∀ p ∈ ks, 0 ≤ p.2 ∧ p.2 ≤ 1000000) :
    ∀ (k i n : Nat), i + k = c9.length → k < n → abLoop fu n (frAb (some (i == 0)) i (abKeys (ks.take i)) n9 c9.length c9 (abSum (ks.take i)) (c9.length : Int) (i : Int)) =
      some (.eptr [.sl (some (c9.length == 0)) 1 c9.length (abKeys ks), .sl (some true) 1 0 [], .sl n9 1 c9.length c9, .int .i64 (abSum ks)])
  | k, i, 0, _, h => by omega
  | 0, i, n + 1, hi, hn => by
    have hkl := mapO_len hk
    unfold abLoop
    rw [loopF_succ, ab_step]
    unfold abBody
    rw [cond_f (decide_eq_false (by omega)), List.take_of_length_le (by omega), show i = c9.length by omega]
  | k + 1, i, n + 1, hi, hn => by
    have hkl := mapO_len hk
    have hv : c9[i]? = some c9[i] := List.getElem?_eq_getElem (by omega)
    obtain ⟨p, hp, hf⟩ := mapO_get hk i _ hv
    obtain ⟨nl, m, r, a, b, t, he, hm⟩ := kidKC_inv hf
    have ih := ab_loop fu ks n9 c9 hk hlen hc k (i + 1) n (by omega) (by omega)
    have e1 : ks.take (i + 1) = ks.take i ++ [p] := by rw [List.take_add_one, hp]; rfl
    have hs := abSum_le (ks := ks.take i) fun q hq => hc q (List.mem_of_mem_take hq)
    have hpc := hc p (List.mem_of_getElem? hp)
    have hl2 : ((ks.take i).length : Int) ≤ 1000 := by simp; omega
    have e2 : abSum (ks.take (i + 1)) = abSum (ks.take i) + p.2 := by rw [e1]; simp [abSum]
    have e3 : abKeys (ks.take (i + 1)) = abKeys (ks.take i) ++ [.str p.1] := by rw [e1]; simp [abKeys]
    have e4 : (i + 1 == 0) = false := by simp
    rw [e2, e3, e4] at ih
    have hd : ((c9.drop ((i : Int).toNat * 1)).take 1).head? = some (.eptr (.sl nl 1 m (.str p.1 :: r) :: a :: b :: .int .i64 p.2 :: t)) := by
      rw [Int.toNat_natCast, Nat.mul_one, List.head?_take, if_neg (by decide), List.head?_drop, hv, he]
    unfold abLoop at ih ⊢
    rw [loopF_succ, ab_step]
    unfold abBody
    rw [cond_t (decide_eq_true (by omega)), cond_t (by rw [decide_eq_true (by omega), decide_eq_true (by omega)]; rfl), hd]
    simp only [Option.bind_some, PV.asE, List.drop_zero, List.head?_cons, PV.asSl, if_true, List.take_succ_cons, PV.asStr, List.drop_succ_cons, PV.asInt]
    rw [cond_t (decide_eq_true (by omega)), ab_room, cond_t (by rw [decide_eq_true (by omega), decide_eq_true (by unfold roomB; omega)]; rfl), wrapI_of (by omega) (by omega), wrapI_of (by omega) (by omega)]
    simp only [Option.map_some, show ((1 : Nat) == 0) = false from rfl, Bool.and_false]
    exact ih
def abR (n9 : Option Bool) (c9 : List PV) (ks : List (List UInt8 × Int)) : PV := .eptr [.sl (some (c9.length == 0)) 1 c9.length (abKeys ks), .sl (some true) 1 0 [], .sl n9 1 c9.length c9, .int .i64 (abSum ks)]
def abG (l9 : Nat) (c9 : List PV) (ks : List (List UInt8 × Int)) : Bool := decide (c9.length = l9) && (decide (l9 ≤ 1000) && ks.all fun p => decide (0 ≤ p.2) && decide (p.2 ≤ 1000000))
def p_above : PFn := ⟨fun xs k => match xs with | [.sl n9 1 l9 c9] => (mapO kidKC c9).bind fun ks => bif abG l9 c9 ks then k (abR n9 c9 ks) else none | _ => none, false⟩
theorem ok_above : FOK NGt Wt 69 p_above := by
  refine fokR wokt allOK_nil allH_nil allI_nil allN_nil allC_nil [93] (h := hAb) Try.func69 rfl (by decide) ?_ ?_
  · intro R xs k
    simp only [p_above]
    split
    · rename_i n9 l9 c9
      rcases mapO kidKC c9 with _ | ks
      · rfl
      · simp only [Option.bind_some]
        cases abG l9 c9 ks <;> rfl
    · rfl
  · intro xs r h
    simp only [p_above] at h
    split at h
    · rename_i n9 l9 c9
      obtain ⟨ks, hk, h2⟩ := bind_some_inv h
      clear h
      rcases hb : abG l9 c9 ks with _ | _ <;> rw [hb] at h2
      · cases h2
      unfold abG at hb
      simp only [Bool.and_eq_true, decide_eq_true_eq, List.all_eq_true] at hb
      obtain ⟨rfl, b2, b3⟩ := hb
      refine ⟨c9.length + 1, ?_⟩
      have := ab_loop (c9.length + 1) ks n9 c9 hk b2 (fun p hp => b3 p hp) c9.length 0 (c9.length + 1) (by omega) (by omega)
      exact ((ab_raw (c9.length + 1) n9 c9.length c9).trans this).trans h2
    · cases h
end Go.Proofs.Ytmacjkiamejcnaa
set_option linter.unusedVariables false
set_option linter.unusedSimpArgs false
set_option maxRecDepth 100000
namespace Go.Proofs.Ytmacjkiamejcnaa
open Go.RowKit
noncomputable def lSp : List (FuncId × PFn) := [(71, p_leaf), (98, p_size), (67, p_leafOf), (69, p_above)]
theorem okl_sp : AllOK NGt Wt lSp := allOK_cons ok_leaf (allOK_cons ok_size (allOK_cons ok_leafOf (allOK_cons ok_above allOK_nil)))
def ndV (kn : Option Bool) (kl : Nat) (kc : List PV) (vn : Option Bool) (vl : Nat) (vc : List PV) (ni : Bool) (il : Nat) (ic : List PV) (c : Int) : PV := .eptr [.sl kn 1 kl kc, .sl vn 1 vl vc, .sl (some ni) 1 il ic, .int .i64 c]
noncomputable def spK (a : Int) (kn : Option Bool) (kl : Nat) (kc : List PV) (vn : Option Bool) (vl : Nat) (vc : List PV) (ni : Bool) (il : Nat) (ic : List PV) : Option PV :=
  bif ni then
    bif decide (0 ≤ a) && decide (a ≤ (kl : Int)) then bif decide (0 ≤ a) && decide (a ≤ (a.toNat : Int)) then
    bif decide (0 ≤ a) && decide (a ≤ (vl : Int)) then bif decide (0 ≤ a) && decide (a ≤ (a.toNat : Int)) then
    bif decide (0 ≤ a) && decide (a ≤ (kl : Int)) then bif decide (0 ≤ a) && decide (a ≤ (vl : Int)) then
      some (.sl (some false) 1 2 [.eptr [.sl kn 1 (a.toNat - 0) (List.drop (0 * 1) (List.take (a.toNat * 1) kc)), .sl vn 1 (a.toNat - 0) (List.drop (0 * 1) (List.take (a.toNat * 1) vc)), .sl (some true) 1 0 [], .int .i64 ((a.toNat - 0 : Nat) : Int)],
        .eptr [.sl kn 1 (kl - a.toNat) (List.drop (a.toNat * 1) (List.take (kl * 1) kc)), .sl vn 1 (vl - a.toNat) (List.drop (a.toNat * 1) (List.take (vl * 1) vc)), .sl (some true) 1 0 [], .int .i64 ((kl - a.toNat : Nat) : Int)]])
    else none else none else none else none else none else none
  else
    bif decide (0 ≤ a) && decide (a ≤ (il : Int)) then bif decide (0 ≤ a) && decide (a ≤ (a.toNat : Int)) then
      p_above.F [.sl (some ni) 1 (a.toNat - 0) (List.drop (0 * 1) (List.take (a.toNat * 1) ic))] fun x =>
      bif decide (0 ≤ a) && decide (a ≤ (il : Int)) then
        p_above.F [.sl (some ni) 1 (il - a.toNat) (List.drop (a.toNat * 1) (List.take (il * 1) ic))] fun y => some (.sl (some false) 1 2 [x, y])
      else none
    else none else none
theorem sp_raw (kn : Option Bool) (kl : Nat) (kc : List PV) (vn : Option Bool) (vl : Nat) (vc : List PV) (ni : Bool) (il : Nat) (ic : List PV) (c : Int) :
    prun (en lSp) ⟨[], []⟩ 0 false Try.f84 [ndV kn kl kc vn vl vc ni il ic c] =
      bif decide ((kl : Int) ≤ 8) then some (.sl (some false) 1 1 [ndV kn kl kc vn vl vc ni il ic c]) else spK (IntKind.i64.wrap ((kl : Int).tdiv 2)) kn kl kc vn vl vc ni il ic := by kernel_rfl
end Go.Proofs.Ytmacjkiamejcnaa
set_option linter.unusedVariables false
set_option linter.unusedSimpArgs false
set_option maxRecDepth 100000
namespace Go.Proofs.Ytmacjkiamejcnaa
open Go.RowKit
def lfV (kn : Option Bool) (kc : List PV) (vn : Option Bool) (vc : List PV) (n : Nat) : PV := .eptr [.sl kn 1 n kc, .sl vn 1 n vc, .sl (some true) 1 0 [], .int .i64 (n : Int)]
def spF {R : Type} (kn : Option Bool) (kl : Nat) (kc : List PV) (vn : Option Bool) (vc : List PV) (ni : Bool) (il : Nat) (ic : List PV) (k : PV → Option R) : Option R :=
  bif ni then k (.sl (some false) 1 2 [lfV kn (kc.take (kl / 2)) vn (vc.take (kl / 2)) (kl / 2), lfV kn ((kc.take kl).drop (kl / 2)) vn ((vc.take kl).drop (kl / 2)) (kl - kl / 2)])
  else p_above.F [.sl (some ni) 1 (kl / 2) (ic.take (kl / 2))] fun x => p_above.F [.sl (some ni) 1 (kl - kl / 2) ((ic.take kl).drop (kl / 2))] fun y => k (.sl (some false) 1 2 [x, y])
theorem sp_eq (kn : Option Bool) (kl : Nat) (kc : List PV) (vn : Option Bool) (vc : List PV) (ni : Bool) (il : Nat) (ic : List PV) (hk : kl ≤ 1000) (h1 : ni = false → il = kl) :
    spK (IntKind.i64.wrap ((kl : Int).tdiv 2)) kn kl kc vn kl vc ni il ic = spF kn kl kc vn vc ni il ic some := by
  have e : IntKind.i64.wrap ((kl : Int).tdiv 2) = ((kl / 2 : Nat) : Int) := by
    have : (kl : Int).tdiv 2 = ((kl / 2 : Nat) : Int) := by rw [Int.tdiv_eq_ediv_of_nonneg (by omega)]; omega
    rw [this, wrapI_of (by omega) (by omega)]
  rw [e]
  unfold spK spF
  have d1 : (decide (0 ≤ ((kl / 2 : Nat) : Int)) && decide (((kl / 2 : Nat) : Int) ≤ (kl : Int))) = true := by rw [decide_eq_true (by omega), decide_eq_true (by omega)]; rfl
  have d2 : (decide (0 ≤ ((kl / 2 : Nat) : Int)) && decide (((kl / 2 : Nat) : Int) ≤ ((((kl / 2 : Nat) : Int).toNat : Nat) : Int))) = true := by rw [decide_eq_true (by omega), decide_eq_true (by omega)]; rfl
  have d3 : (decide (0 ≤ ((kl / 2 : Nat) : Int)) && decide (((kl / 2 : Nat) : Int) ≤ ((kl / 2 : Nat) : Int))) = true := by rw [decide_eq_true (by omega), decide_eq_true (by omega)]; rfl
  cases ni with
  | true =>
    simp only [cond_true, d1, d2, d3, Int.toNat_natCast, Nat.mul_one, Nat.zero_mul, List.drop_zero, Nat.sub_zero, lfV]
  | false =>
    obtain rfl := h1 rfl
    simp only [cond_false, cond_true, d1, d2, d3, Int.toNat_natCast, Nat.mul_one, Nat.zero_mul, List.drop_zero, Nat.sub_zero]
def spG (kl vl : Nat) (ni : Bool) (il : Nat) : Bool := decide (kl ≤ 1000) && (decide (vl = kl || !ni) && decide (il = kl || ni))
def p_split : PFn := ⟨fun xs k => match xs with | [.eptr [.sl kn 1 kl kc, .sl vn 1 vl vc, .sl (some ni) 1 il ic, .int .i64 c]] => bif decide ((kl : Int) ≤ 8) then k (.sl (some false) 1 1 [ndV kn kl kc vn vl vc ni il ic c]) else bif decide (kl ≤ 1000) && (decide (vl = kl) && (decide (il = kl) || ni)) then spF kn kl kc vn vc ni il ic k else none | _ => none, false⟩
theorem above_nat {R : Type} (xs : List PV) (k : PV → Option R) : p_above.F xs k = (p_above.F xs some).bind k := (ok_above).nat R xs k
theorem spF_nat {R : Type} (kn : Option Bool) (kl : Nat) (kc : List PV) (vn : Option Bool) (vc : List PV) (ni : Bool) (il : Nat) (ic : List PV) (k : PV → Option R) : spF kn kl kc vn vc ni il ic k = (spF kn kl kc vn vc ni il ic some).bind k := by
  unfold spF
  cases ni with
  | true => rfl
  | false =>
    simp only [cond_false]
    refine (above_nat _ _).trans (Eq.trans ?_ (congrArg (fun o => Option.bind o k) (above_nat _ _)).symm)
    rw [obind_assoc]
    congr 1
    funext x
    refine (above_nat _ _).trans (Eq.trans ?_ (congrArg (fun o => Option.bind o k) (above_nat _ _)).symm)
    rw [obind_assoc]
    rfl
theorem ok_split : FOK NGt Wt 84 p_split := by
  refine fok wokt okl_sp (h := ⟨[], []⟩) Try.func84 rfl (by decide) ?_ ?_
  · intro R xs k
    simp only [p_split]
    split
    · rename_i kn kl kc vn vl vc ni il ic c
      cases decide ((kl : Int) ≤ 8) with
      | true => rfl
      | false =>
        cases (decide (kl ≤ 1000) && (decide (vl = kl) && (decide (il = kl) || ni))) with
        | true => exact spF_nat kn kl kc vn vc ni il ic k
        | false => rfl
    · rfl
  · intro xs r h
    simp only [p_split] at h
    split at h
    · rename_i kn kl kc vn vl vc ni il ic c
      refine ⟨0, (sp_raw kn kl kc vn vl vc ni il ic c).trans ?_⟩
      rcases h8 : decide ((kl : Int) ≤ 8) with _ | _ <;> rw [h8] at h
      · rcases hb : (decide (kl ≤ 1000) && (decide (vl = kl) && (decide (il = kl) || ni))) with _ | _ <;> rw [hb] at h
        · cases h
        simp only [Bool.and_eq_true, Bool.or_eq_true, decide_eq_true_eq] at hb
        obtain ⟨b1, b2, b3⟩ := hb
        subst b2
        exact (sp_eq kn vl kc vn vc ni il ic b1 (fun e => by rcases b3 with b3 | b3; (· exact b3); (· rw [e] at b3; cases b3))).trans h
      · exact h
    · cases h
end Go.Proofs.Ytmacjkiamejcnaa
set_option linter.unusedVariables false
set_option linter.unusedSimpArgs false
set_option maxRecDepth 100000
namespace Go.Proofs.Ytmacjkiamejcnaa
open Go.RowKit
def hCat : Hints := ⟨[], [(2, ⟨[(6, true), (25, false), (26, false), (27, false)], []⟩), (0, ⟨[(0, false), (3, false), (9, false), (10, false), (11, false)], []⟩)]⟩
noncomputable def catR (e : TypeId) (l1 : Nat) (c1 : List PV) (l2 : Nat) (c2 : List PV) (W1 W2 : Int) : Option PV :=
  bif decide (W1 < 0) then none else bif decide (W2 < 0) then none else
  bif decide (0 < W2) && decide (W2 ≤ 1000000) then
  bif decide (0 + l1 ≤ 9223372036854775807) && decide ((0 + l1) * bytesOf Try.prog e ≤ roomB) then
  bif decide (0 + l1 + l2 ≤ 9223372036854775807) && decide ((0 + l1 + l2) * bytesOf Try.prog e ≤ roomB) then
    some (.sl (some false) 1 (0 + l1 + l2) (([] ++ c1) ++ c2)) else none else none else none
def catG (l1 l2 : Nat) : Bool := decide (0 < l1 + l2) && decide (l1 + l2 ≤ 100000)
theorem cat_eq (e : TypeId) (he : bytesOf Try.prog e ≤ 100) (l1 : Nat) (c1 : List PV) (l2 : Nat) (c2 : List PV) (hg : catG l1 l2 = true) :
    catR e l1 c1 l2 c2 (IntKind.i64.wrap (0 + (l1 : Int))) (IntKind.i64.wrap (IntKind.i64.wrap (0 + (l1 : Int)) + (l2 : Int))) = some (.sl (some false) 1 (l1 + l2) (c1 ++ c2)) := by
  unfold catG at hg
  simp only [Bool.and_eq_true, decide_eq_true_eq] at hg
  have w1 : IntKind.i64.wrap (0 + (l1 : Int)) = (l1 : Int) := by rw [wrapI_of (by omega) (by omega)]; omega
  have w2 : IntKind.i64.wrap ((l1 : Int) + (l2 : Int)) = (l1 : Int) + (l2 : Int) := wrapI_of (by omega) (by omega)
  have m1 : (0 + l1) * bytesOf Try.prog e ≤ 100000 * 100 := Nat.mul_le_mul (by omega) he
  have m2 : (0 + l1 + l2) * bytesOf Try.prog e ≤ 100000 * 100 := Nat.mul_le_mul (by omega) he
  rw [w1, w2]
  unfold catR
  rw [cond_f (decide_eq_false (by omega)), cond_f (decide_eq_false (by omega)), cond_t (by rw [decide_eq_true (by omega), decide_eq_true (by omega)]; rfl), cond_t (by rw [decide_eq_true (by omega), decide_eq_true (by unfold roomB; omega)]; rfl), cond_t (by rw [decide_eq_true (by omega), decide_eq_true (by unfold roomB; omega)]; rfl), Nat.zero_add, List.nil_append]
theorem cat_raw_s (nz n1 : Option Bool) (l1 : Nat) (c1 : List PV) (n2 : Option Bool) (l2 : Nat) (c2 : List PV) :
    prun (en [(116, p_grow_s)]) hCat 3 false Try.f109 [.sl nz 1 2 [.sl n1 1 l1 c1, .sl n2 1 l2 c2]] = catR 9 l1 c1 l2 c2 (IntKind.i64.wrap (0 + (l1 : Int))) (IntKind.i64.wrap (IntKind.i64.wrap (0 + (l1 : Int)) + (l2 : Int))) := by kernel_rfl
def p_cat_s : PFn := ⟨fun xs k => match xs with | [.sl nz 1 2 [.sl n1 1 l1 c1, .sl n2 1 l2 c2]] => bif catG l1 l2 then k (.sl (some false) 1 (l1 + l2) (c1 ++ c2)) else none | _ => none, false⟩
theorem ok_cat_s : FOK NGt Wt 109 p_cat_s := by
  refine fok wokt (allOK_cons ok_grow_s allOK_nil) (h := hCat) Try.func109 rfl (by decide) ?_ ?_
  · intro R xs k
    simp only [p_cat_s]
    split
    · exact cond_nat
    · rfl
  · intro xs r h
    simp only [p_cat_s] at h
    split at h
    · rename_i nz n1 l1 c1 n2 l2 c2
      rcases hb : catG l1 l2 with _ | _ <;> rw [hb] at h
      · cases h
      · exact ⟨3, ((cat_raw_s nz n1 l1 c1 n2 l2 c2).trans (cat_eq _ (show bytesOf Try.prog _ ≤ 100 from Nat.le_of_ble_eq_true (by kernel_rfl)) l1 c1 l2 c2 hb)).trans h⟩
    · cases h
theorem cat_raw_i (nz n1 : Option Bool) (l1 : Nat) (c1 : List PV) (n2 : Option Bool) (l2 : Nat) (c2 : List PV) :
    prun (en [(117, p_grow_i)]) hCat 3 false Try.f110 [.sl nz 1 2 [.sl n1 1 l1 c1, .sl n2 1 l2 c2]] = catR 3 l1 c1 l2 c2 (IntKind.i64.wrap (0 + (l1 : Int))) (IntKind.i64.wrap (IntKind.i64.wrap (0 + (l1 : Int)) + (l2 : Int))) := by kernel_rfl
def p_cat_i : PFn := ⟨fun xs k => match xs with | [.sl nz 1 2 [.sl n1 1 l1 c1, .sl n2 1 l2 c2]] => bif catG l1 l2 then k (.sl (some false) 1 (l1 + l2) (c1 ++ c2)) else none | _ => none, false⟩
theorem ok_cat_i : FOK NGt Wt 110 p_cat_i := by
  refine fok wokt (allOK_cons ok_grow_i allOK_nil) (h := hCat) Try.func110 rfl (by decide) ?_ ?_
  · intro R xs k
    simp only [p_cat_i]
    split
    · exact cond_nat
    · rfl
  · intro xs r h
    simp only [p_cat_i] at h
    split at h
    · rename_i nz n1 l1 c1 n2 l2 c2
      rcases hb : catG l1 l2 with _ | _ <;> rw [hb] at h
      · cases h
      · exact ⟨3, ((cat_raw_i nz n1 l1 c1 n2 l2 c2).trans (cat_eq _ (show bytesOf Try.prog _ ≤ 100 from Nat.le_of_ble_eq_true (by kernel_rfl)) l1 c1 l2 c2 hb)).trans h⟩
    · cases h
theorem cat_raw_n (nz n1 : Option Bool) (l1 : Nat) (c1 : List PV) (n2 : Option Bool) (l2 : Nat) (c2 : List PV) :
    prun (en [(118, p_grow_n)]) hCat 3 false Try.f111 [.sl nz 1 2 [.sl n1 1 l1 c1, .sl n2 1 l2 c2]] = catR 93 l1 c1 l2 c2 (IntKind.i64.wrap (0 + (l1 : Int))) (IntKind.i64.wrap (IntKind.i64.wrap (0 + (l1 : Int)) + (l2 : Int))) := by kernel_rfl
def p_cat_n : PFn := ⟨fun xs k => match xs with | [.sl nz 1 2 [.sl n1 1 l1 c1, .sl n2 1 l2 c2]] => bif catG l1 l2 then k (.sl (some false) 1 (l1 + l2) (c1 ++ c2)) else none | _ => none, false⟩
theorem ok_cat_n : FOK NGt Wt 111 p_cat_n := by
  refine fok wokt (allOK_cons ok_grow_n allOK_nil) (h := hCat) Try.func111 rfl (by decide) ?_ ?_
  · intro R xs k
    simp only [p_cat_n]
    split
    · exact cond_nat
    · rfl
  · intro xs r h
    simp only [p_cat_n] at h
    split at h
    · rename_i nz n1 l1 c1 n2 l2 c2
      rcases hb : catG l1 l2 with _ | _ <;> rw [hb] at h
      · cases h
      · exact ⟨3, ((cat_raw_n nz n1 l1 c1 n2 l2 c2).trans (cat_eq _ (show bytesOf Try.prog _ ≤ 100 from Nat.le_of_ble_eq_true (by kernel_rfl)) l1 c1 l2 c2 hb)).trans h⟩
    · cases h
end Go.Proofs.Ytmacjkiamejcnaa
