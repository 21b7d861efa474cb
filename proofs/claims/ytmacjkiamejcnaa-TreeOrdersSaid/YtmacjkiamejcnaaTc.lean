/-
  tree.above: what it computes.
-/
import Derived.Test.YtmacjkiamejcnaaTb
import Derived.Test.YtmacjkiamejcnaaTa
set_option linter.unusedVariables false
set_option linter.unusedSimpArgs false
set_option maxRecDepth 100000
namespace Go.Proofs.Ytmacjkiamejcnaa
open Go.RowKit
/-- a kid's least key and its number of keys -/
def kidKC : PV → Option (List UInt8 × Int)
  | .eptr (.sl _ 1 n (.str k :: _) :: _ :: _ :: .int .i64 c :: _) => if 0 < n then some (k, c) else none
  | _ => none
theorem kidKC_inv {v : PV} {p : List UInt8 × Int} (h : kidKC v = some p) : ∃ nl n r a b t, v = .eptr (.sl nl 1 n (.str p.1 :: r) :: a :: b :: .int .i64 p.2 :: t) ∧ 0 < n := by
  unfold kidKC at h
  split at h
  · obtain ⟨h1, h⟩ := ite_inv h
    injection h with h
    subst h
    exact ⟨_, _, _, _, _, _, rfl, h1⟩
  · cases h
def abKeys (ks : List (List UInt8 × Int)) : List PV := ks.map fun p => .str p.1
def abSum (ks : List (List UInt8 × Int)) : Int := (ks.map (·.2)).sum
theorem abSum_le {ks : List (List UInt8 × Int)} (h : ∀ p ∈ ks, 0 ≤ p.2 ∧ p.2 ≤ 1000000) : 0 ≤ abSum ks ∧ abSum ks ≤ 1000000 * (ks.length : Int) := by
  induction ks with
  | nil => simp [abSum]
  | cons p r ih =>
    have h1 := h p List.mem_cons_self
    have h2 := ih fun q hq => h q (List.mem_cons_of_mem _ hq)
    simp only [abSum, List.map_cons, List.sum_cons, List.length_cons] at h2 ⊢
    omega
theorem ab_room : bytesOf Try.prog 9 = 16 := by kernel_rfl
theorem ab_loop (fu : Nat) (ks : List (List UInt8 × Int)) (n9 : Option Bool) (c9 : List PV) (hk : mapO kidKC c9 = some ks) (hlen : c9.length ≤ 1000) (hc : ∀ p ∈ ks, 0 ≤ p.2 ∧ p.2 ≤ 1000000) :
    ∀ (k i n : Nat), i + k = c9.length → k < n → abLoop fu n (frAb (some (i == 0)) i (abKeys (ks.take i)) n9 c9.length c9 (abSum (ks.take i)) (c9.length : Int) (i : Int)) =
      some (.eptr [.sl (some (c9.length == 0)) 1 c9.length (abKeys ks), .sl (some true) 1 0 [], .sl n9 1 c9.length c9, .int .i64 (abSum ks)])
  | k, i, 0, _, h => by omega
  | 0, i, n + 1, hi, hn => by
    have hkl := mapO_len hk
    unfold abLoop
    rw [loopF_succ, ab_step]
    unfold abBody
    rw [cond_f (decide_eq_false (by omega)), List.take_of_length_le (by omega), show i = c9.length by omega]
  | k + 1, i, n + 1, hi, hn => by
    have hkl := mapO_len hk
    have hv : c9[i]? = some c9[i] := List.getElem?_eq_getElem (by omega)
    obtain ⟨p, hp, hf⟩ := mapO_get hk i _ hv
    obtain ⟨nl, m, r, a, b, t, he, hm⟩ := kidKC_inv hf
    have ih := ab_loop fu ks n9 c9 hk hlen hc k (i + 1) n (by omega) (by omega)
    have e1 : ks.take (i + 1) = ks.take i ++ [p] := by rw [List.take_add_one, hp]; rfl
    have hs := abSum_le (ks := ks.take i) fun q hq => hc q (List.mem_of_mem_take hq)
    have hpc := hc p (List.mem_of_getElem? hp)
    have hl2 : ((ks.take i).length : Int) ≤ 1000 := by simp; omega
    have e2 : abSum (ks.take (i + 1)) = abSum (ks.take i) + p.2 := by rw [e1]; simp [abSum]
    have e3 : abKeys (ks.take (i + 1)) = abKeys (ks.take i) ++ [.str p.1] := by rw [e1]; simp [abKeys]
    have e4 : (i + 1 == 0) = false := by simp
    rw [e2, e3, e4] at ih
    have hd : ((c9.drop ((i : Int).toNat * 1)).take 1).head? = some (.eptr (.sl nl 1 m (.str p.1 :: r) :: a :: b :: .int .i64 p.2 :: t)) := by
      rw [Int.toNat_natCast, Nat.mul_one, List.head?_take, if_neg (by decide), List.head?_drop, hv, he]
    unfold abLoop at ih ⊢
    rw [loopF_succ, ab_step]
    unfold abBody
    rw [cond_t (decide_eq_true (by omega)), cond_t (by rw [decide_eq_true (by omega), decide_eq_true (by omega)]; rfl), hd]
    simp only [Option.bind_some, PV.asE, List.drop_zero, List.head?_cons, PV.asSl, if_true, List.take_succ_cons, PV.asStr, List.drop_succ_cons, PV.asInt]
    rw [cond_t (decide_eq_true (by omega)), ab_room, cond_t (by rw [decide_eq_true (by omega), decide_eq_true (by unfold roomB; omega)]; rfl), wrapI_of (by omega) (by omega), wrapI_of (by omega) (by omega)]
    simp only [Option.map_some, show ((1 : Nat) == 0) = false from rfl, Bool.and_false]
    exact ih
def abR (n9 : Option Bool) (c9 : List PV) (ks : List (List UInt8 × Int)) : PV := .eptr [.sl (some (c9.length == 0)) 1 c9.length (abKeys ks), .sl (some true) 1 0 [], .sl n9 1 c9.length c9, .int .i64 (abSum ks)]
def abG (l9 : Nat) (c9 : List PV) (ks : List (List UInt8 × Int)) : Bool := decide (c9.length = l9) && (decide (l9 ≤ 1000) && ks.all fun p => decide (0 ≤ p.2) && decide (p.2 ≤ 1000000))
def p_above : PFn := ⟨fun xs k => match xs with | [.sl n9 1 l9 c9] => (mapO kidKC c9).bind fun ks => bif abG l9 c9 ks then k (abR n9 c9 ks) else none | _ => none, false⟩
theorem ok_above : FOK NGt Wt 69 p_above := by
  refine fokR wokt allOK_nil allH_nil allI_nil allN_nil allC_nil [93] (h := hAb) Try.func69 rfl (by decide) ?_ ?_
  · intro R xs k
    simp only [p_above]
    split
    · rename_i n9 l9 c9
      rcases mapO kidKC c9 with _ | ks
      · rfl
      · simp only [Option.bind_some]
        cases abG l9 c9 ks <;> rfl
    · rfl
  · intro xs r h
    simp only [p_above] at h
    split at h
    · rename_i n9 l9 c9
      obtain ⟨ks, hk, h2⟩ := bind_some_inv h
      clear h
      rcases hb : abG l9 c9 ks with _ | _ <;> rw [hb] at h2
      · cases h2
      unfold abG at hb
      simp only [Bool.and_eq_true, decide_eq_true_eq, List.all_eq_true] at hb
      obtain ⟨rfl, b2, b3⟩ := hb
      refine ⟨c9.length + 1, ?_⟩
      have := ab_loop (c9.length + 1) ks n9 c9 hk b2 (fun p hp => b3 p hp) c9.length 0 (c9.length + 1) (by omega) (by omega)
      exact ((ab_raw (c9.length + 1) n9 c9.length c9).trans this).trans h2
    · cases h
end Go.Proofs.Ytmacjkiamejcnaa
