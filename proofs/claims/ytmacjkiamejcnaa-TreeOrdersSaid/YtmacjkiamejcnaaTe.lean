/-
  (*tree.node).split: its contract.
-/
import Derived.Test.YtmacjkiamejcnaaTd
set_option linter.unusedVariables false
set_option linter.unusedSimpArgs false
set_option maxRecDepth 100000
namespace Go.Proofs.Ytmacjkiamejcnaa
open Go.RowKit
def lfV (kn : Option Bool) (kc : List PV) (vn : Option Bool) (vc : List PV) (n : Nat) : PV := .eptr [.sl kn 1 n kc, .sl vn 1 n vc, .sl (some true) 1 0 [], .int .i64 (n : Int)]
def spF {R : Type} (kn : Option Bool) (kl : Nat) (kc : List PV) (vn : Option Bool) (vc : List PV) (ni : Bool) (il : Nat) (ic : List PV) (k : PV → Option R) : Option R :=
  bif ni then k (.sl (some false) 1 2 [lfV kn (kc.take (kl / 2)) vn (vc.take (kl / 2)) (kl / 2), lfV kn ((kc.take kl).drop (kl / 2)) vn ((vc.take kl).drop (kl / 2)) (kl - kl / 2)])
  else p_above.F [.sl (some ni) 1 (kl / 2) (ic.take (kl / 2))] fun x => p_above.F [.sl (some ni) 1 (kl - kl / 2) ((ic.take kl).drop (kl / 2))] fun y => k (.sl (some false) 1 2 [x, y])
theorem sp_eq (kn : Option Bool) (kl : Nat) (kc : List PV) (vn : Option Bool) (vc : List PV) (ni : Bool) (il : Nat) (ic : List PV) (hk : kl ≤ 1000) (h1 : ni = false → il = kl) :
    spK (IntKind.i64.wrap ((kl : Int).tdiv 2)) kn kl kc vn kl vc ni il ic = spF kn kl kc vn vc ni il ic some := by
  have e : IntKind.i64.wrap ((kl : Int).tdiv 2) = ((kl / 2 : Nat) : Int) := by
    have : (kl : Int).tdiv 2 = ((kl / 2 : Nat) : Int) := by rw [Int.tdiv_eq_ediv_of_nonneg (by omega)]; omega
    rw [this, wrapI_of (by omega) (by omega)]
  rw [e]
  unfold spK spF
  have d1 : (decide (0 ≤ ((kl / 2 : Nat) : Int)) && decide (((kl / 2 : Nat) : Int) ≤ (kl : Int))) = true := by rw [decide_eq_true (by omega), decide_eq_true (by omega)]; rfl
  have d2 : (decide (0 ≤ ((kl / 2 : Nat) : Int)) && decide (((kl / 2 : Nat) : Int) ≤ ((((kl / 2 : Nat) : Int).toNat : Nat) : Int))) = true := by rw [decide_eq_true (by omega), decide_eq_true (by omega)]; rfl
  have d3 : (decide (0 ≤ ((kl / 2 : Nat) : Int)) && decide (((kl / 2 : Nat) : Int) ≤ ((kl / 2 : Nat) : Int))) = true := by rw [decide_eq_true (by omega), decide_eq_true (by omega)]; rfl
  cases ni with
  | true =>
    simp only [cond_true, d1, d2, d3, Int.toNat_natCast, Nat.mul_one, Nat.zero_mul, List.drop_zero, Nat.sub_zero, lfV]
  | false =>
    obtain rfl := h1 rfl
    simp only [cond_false, cond_true, d1, d2, d3, Int.toNat_natCast, Nat.mul_one, Nat.zero_mul, List.drop_zero, Nat.sub_zero]
def spG (kl vl : Nat) (ni : Bool) (il : Nat) : Bool := decide (kl ≤ 1000) && (decide (vl = kl || !ni) && decide (il = kl || ni))
def p_split : PFn := ⟨fun xs k => match xs with | [.eptr [.sl kn 1 kl kc, .sl vn 1 vl vc, .sl (some ni) 1 il ic, .int .i64 c]] => bif decide ((kl : Int) ≤ 8) then k (.sl (some false) 1 1 [ndV kn kl kc vn vl vc ni il ic c]) else bif decide (kl ≤ 1000) && (decide (vl = kl) && (decide (il = kl) || ni)) then spF kn kl kc vn vc ni il ic k else none | _ => none, false⟩
theorem above_nat {R : Type} (xs : List PV) (k : PV → Option R) : p_above.F xs k = (p_above.F xs some).bind k := (ok_above).nat R xs k
theorem spF_nat {R : Type} (kn : Option Bool) (kl : Nat) (kc : List PV) (vn : Option Bool) (vc : List PV) (ni : Bool) (il : Nat) (ic : List PV) (k : PV → Option R) : spF kn kl kc vn vc ni il ic k = (spF kn kl kc vn vc ni il ic some).bind k := by
  unfold spF
  cases ni with
  | true => rfl
  | false =>
    simp only [cond_false]
    refine (above_nat _ _).trans (Eq.trans ?_ (congrArg (fun o => Option.bind o k) (above_nat _ _)).symm)
    rw [obind_assoc]
    congr 1
    funext x
    refine (above_nat _ _).trans (Eq.trans ?_ (congrArg (fun o => Option.bind o k) (above_nat _ _)).symm)
    rw [obind_assoc]
    rfl
theorem ok_split : FOK NGt Wt 84 p_split := by
  refine fok wokt okl_sp (h := ⟨[], []⟩) Try.func84 rfl (by decide) ?_ ?_
  · intro R xs k
    simp only [p_split]
    split
    · rename_i kn kl kc vn vl vc ni il ic c
      cases decide ((kl : Int) ≤ 8) with
      | true => rfl
      | false =>
        cases (decide (kl ≤ 1000) && (decide (vl = kl) && (decide (il = kl) || ni))) with
        | true => exact spF_nat kn kl kc vn vc ni il ic k
        | false => rfl
    · rfl
  · intro xs r h
    simp only [p_split] at h
    split at h
    · rename_i kn kl kc vn vl vc ni il ic c
      refine ⟨0, (sp_raw kn kl kc vn vl vc ni il ic c).trans ?_⟩
      rcases h8 : decide ((kl : Int) ≤ 8) with _ | _ <;> rw [h8] at h
      · rcases hb : (decide (kl ≤ 1000) && (decide (vl = kl) && (decide (il = kl) || ni))) with _ | _ <;> rw [hb] at h
        · cases h
        simp only [Bool.and_eq_true, Bool.or_eq_true, decide_eq_true_eq] at hb
        obtain ⟨b1, b2, b3⟩ := hb
        subst b2
        exact (sp_eq kn vl kc vn vc ni il ic b1 (fun e => by rcases b3 with b3 | b3; (· exact b3); (· rw [e] at b3; cases b3))).trans h
      · exact h
    · cases h
end Go.Proofs.Ytmacjkiamejcnaa
