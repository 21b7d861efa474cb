/-
  The document's answer for trees: contracts.
-/
import Derived.Test.YtmacjkiamejcnaaUi
import Derived.Test.YtmacjkiamejcnaaUb
set_option linter.unusedVariables false
set_option linter.unusedSimpArgs false
set_option maxRecDepth 100000
namespace Go.Proofs.Ytmacjkiamejcnaa
open Go.RowKit
def pcs (l : List (Ky × PV)) : List PV := l.flatMap fun p => [.str p.1, p.2]
def pdec : List PV → Option (List (Ky × PV))
  | [] => some []
  | .str k :: v :: r => bif vok v then (pdec r).map ((k, v) :: ·) else none
  | _ => none
theorem pdec_inv : ∀ {c : List PV} {l : List (Ky × PV)}, pdec c = some l → c = pcs l ∧ ∀ p ∈ l, vok p.2 = true
  | [], l, h => by simp only [pdec] at h; injection h with h; subst h; exact ⟨rfl, fun p hp => by cases hp⟩
  | .str k :: v :: r, l, h => by
    simp only [pdec] at h
    obtain ⟨hv, h⟩ := bif_inv h
    rw [Option.map_eq_some_iff] at h
    obtain ⟨m, hm, rfl⟩ := h
    obtain ⟨e, h2⟩ := pdec_inv hm
    refine ⟨by rw [e]; rfl, ?_⟩
    intro p hp
    rcases List.mem_cons.1 hp with rfl | hp
    · exact hv
    · exact h2 p hp
  | [.str k], l, h => by simp [pdec] at h
  | .undef :: _, l, h => by simp [pdec] at h
  | .bool _ :: _, l, h => by simp [pdec] at h
  | .int _ _ :: _, l, h => by simp [pdec] at h
  | .sl _ _ _ _ :: _, l, h => by simp [pdec] at h
  | .agg _ :: _, l, h => by simp [pdec] at h
  | .tuple _ :: _, l, h => by simp [pdec] at h
  | .nilptr :: _, l, h => by simp [pdec] at h
  | .nptr :: _, l, h => by simp [pdec] at h
  | .nilIface :: _, l, h => by simp [pdec] at h
  | .iface _ _ :: _, l, h => by simp [pdec] at h
  | .nilFunc :: _, l, h => by simp [pdec] at h
  | .ptr _ _ :: _, l, h => by simp [pdec] at h
  | .eptr _ :: _, l, h => by simp [pdec] at h
  | .clo _ _ :: _, l, h => by simp [pdec] at h
  | .agp _ :: _, l, h => by simp [pdec] at h
  | .tupp _ :: _, l, h => by simp [pdec] at h
  | .yld :: _, l, h => by simp [pdec] at h
  | .optr _ _ _ :: _, l, h => by simp [pdec] at h
  | .bsl _ _ _ _ :: _, l, h => by simp [pdec] at h
theorem pdec_pcs : ∀ {l : List (Ky × PV)}, (∀ p ∈ l, vok p.2 = true) → pdec (pcs l) = some l
  | [], _ => rfl
  | p :: l, h => by
    show pdec (.str p.1 :: p.2 :: pcs l) = _
    simp only [pdec]
    rw [h p List.mem_cons_self, cond_true, pdec_pcs fun q hq => h q (List.mem_cons_of_mem _ hq)]
    rfl
theorem pcs_drop : ∀ (l : List (Ky × PV)) (i : Nat), (pcs l).drop (i * 2) = pcs (l.drop i)
  | l, 0 => by rw [Nat.zero_mul, List.drop_zero, List.drop_zero]
  | [], i + 1 => by simp [pcs]
  | p :: l, i + 1 => by
    show (PV.str p.1 :: p.2 :: pcs l).drop ((i + 1) * 2) = _
    rw [Nat.succ_mul, List.drop_succ_cons, List.drop_succ_cons, pcs_drop l i]
    rfl
theorem pcs_append (a b : List (Ky × PV)) : pcs (a ++ b) = pcs a ++ pcs b := by unfold pcs; rw [List.flatMap_append]
theorem pairAt_eq {S : Type} {l : List (Ky × PV)} {i : Nat} {p : Ky × PV} (h : l[i]? = some p) (hv : vok p.2 = true) (k : Ky → Int → Option S) : pairAt l.length (pcs l) (i : Int) k = k p.1 (valP p.2) := by
  obtain ⟨hi, e⟩ := List.getElem?_eq_some_iff.1 h
  have he := valP_eq hv
  have hd : ((pcs l).drop (i * 2)).take 2 = [.str p.1, p.2] := by
    rw [pcs_drop, List.drop_eq_getElem_cons hi, e]
    rfl
  unfold pairAt
  rw [cond_t (by rw [decide_eq_true (by omega), decide_eq_true (by omega)]; rfl), Int.toNat_natCast, hd]
  rw [← he]
  rfl
theorem ap_room : bytesOf Try.prog 55 = 24 := by kernel_rfl
theorem apR_t {S : Type} {n m : Nat} (h : n + m ≤ 1000000) (k : Option S) : apR n m k = k := by
  unfold apR
  rw [ap_room, cond_t (by rw [decide_eq_true (by omega), decide_eq_true (by unfold roomB; omega)]; rfl)]
/-- a list of pairs as the evaluator's slice (nil just if it is empty) -/
def pSl (l : List (Ky × PV)) : PV := .sl (some l.isEmpty) 2 l.length (pcs l)
theorem flag_app {l : List (Ky × PV)} {p : Ky × PV} : (some l.isEmpty).map (· && ((1 : Nat) == 0)) = some (l ++ [p]).isEmpty := by simp
theorem pcs_one (k : Ky) (v : PV) : [PV.str k, v] = pcs [(k, v)] := rfl
theorem drop_cons_some {α : Type} {l : List α} {i : Nat} {x : α} (h : l[i]? = some x) : l.drop i = x :: l.drop (i + 1) := by
  obtain ⟨hi, e⟩ := List.getElem?_eq_some_iff.1 h
  rw [List.drop_eq_getElem_cons hi, e]
section
variable {l : List (Ky × PV)} (hv : ∀ p ∈ l, vok p.2 = true) (hl : l.length ≤ 100000)
include hv hl
theorem rg_loop (fu : Nat) (nl : Option Bool) (k : Ky) : ∀ (m i n : Nat), i + m = l.length → m < n → rgLoop fu n (frRg k nl l.length (pcs l) (l.length : Int) (i : Int)) = some (.tuple [.int .i64 (valP ((getK k (l.drop i)).getD (.int .i64 0))), .bool (hasK k (l.drop i))])
  | m, i, 0, hi, hn => by omega
  | 0, i, n + 1, hi, hn => by
    unfold rgLoop
    rw [loopF_succ, rg_step, cond_f (decide_eq_false (by omega)), List.drop_eq_nil_of_le (by omega)]
    rfl
  | m + 1, i, n + 1, hi, hn => by
    have hp : l[i]? = some l[i] := List.getElem?_eq_getElem (by omega)
    have hvp := hv _ (List.getElem_mem (show i < l.length by omega))
    have ih := rg_loop fu nl k m (i + 1) n (by omega) (by omega)
    unfold rgLoop at ih ⊢
    rw [loopF_succ, rg_step, cond_t (decide_eq_true (by omega)), pairAt_eq hp hvp, drop_cons_some hp]
    unfold getK hasK at ih ⊢
    rw [List.find?_cons, List.any_cons]
    cases l[i].1 == k with
    | true =>
      simp only [cond_true, Option.map_some, Option.getD_some, Bool.true_or]
    | false =>
      rw [cond_false, wrapI_of (by omega) (by omega)]
      exact ih
theorem rf_loop (fu : Nat) (nl : Option Bool) (k : Ky) : ∀ (m i n : Nat) (out : List (Ky × PV)), i + m = l.length → m < n → out.length ≤ i → rfLoop fu n (frRf k (some out.isEmpty) out.length (pcs out) nl l.length (pcs l) (l.length : Int) (i : Int)) = some (pSl (out ++ fromK k (l.drop i)))
  | m, i, 0, out, hi, hn, ho => by omega
  | 0, i, n + 1, out, hi, hn, ho => by
    unfold rfLoop
    rw [loopF_succ, rf_step, cond_f (decide_eq_false (by omega)), List.drop_eq_nil_of_le (by omega)]
    simp [fromK, pSl]
  | m + 1, i, n + 1, out, hi, hn, ho => by
    have hp : l[i]? = some l[i] := List.getElem?_eq_getElem (by omega)
    have hvp := hv _ (List.getElem_mem (show i < l.length by omega))
    rw [drop_cons_some hp]
    unfold rfLoop
    rw [loopF_succ, rf_step, cond_t (decide_eq_true (by omega)), pairAt_eq hp hvp]
    unfold fromK
    rw [List.filter_cons]
    cases hb : !Op.bytesLess l[i].1 k with
    | true =>
      have ih := rf_loop fu nl k m (i + 1) n (out ++ [l[i]]) (by omega) (by omega) (by simp; omega)
      unfold rfLoop fromK at ih
      rw [cond_true, apR_t (by omega), wrapI_of (by omega) (by omega), valP_eq hvp, if_pos rfl, flag_app (p := l[i]), pcs_one, ← pcs_append, show out.length + 1 = (out ++ [l[i]]).length by simp]
      rw [List.append_assoc, List.singleton_append] at ih
      exact ih
    | false =>
      have ih := rf_loop fu nl k m (i + 1) n out (by omega) (by omega) (by omega)
      unfold rfLoop fromK at ih
      rw [cond_false, wrapI_of (by omega) (by omega), if_neg (by simp)]
      exact ih
theorem rb_loop (fu : Nat) (nl : Option Bool) (k : Ky) : ∀ (m i n : Nat) (out : List (Ky × PV)), i + m = l.length → m < n → out.length ≤ i → rbLoop fu n (frRb k (some out.isEmpty) out.length (pcs out) nl l.length (pcs l) (l.length : Int) (i : Int)) = some (pSl (backK k (l.drop i) ++ out))
  | m, i, 0, out, hi, hn, ho => by omega
  | 0, i, n + 1, out, hi, hn, ho => by
    unfold rbLoop
    rw [loopF_succ, rb_step, cond_f (decide_eq_false (by omega)), List.drop_eq_nil_of_le (by omega)]
    simp [backK, pSl]
  | m + 1, i, n + 1, out, hi, hn, ho => by
    have hp : l[i]? = some l[i] := List.getElem?_eq_getElem (by omega)
    have hvp := hv _ (List.getElem_mem (show i < l.length by omega))
    rw [drop_cons_some hp]
    unfold rbLoop
    rw [loopF_succ, rb_step, cond_t (decide_eq_true (by omega)), pairAt_eq hp hvp]
    unfold backK
    rw [List.filter_cons]
    have hle : (Op.bytesLess l[i].1 k || l[i].1 == k) = !Op.bytesLess k l[i].1 := by
      rcases h1 : Op.bytesLess l[i].1 k with _ | _
      · rcases h2 : Op.bytesLess k l[i].1 with _ | _
        · rw [kl_tri h1 h2]; simp
        · have : (l[i].1 == k) = false := by simpa using (kl_ne h2).symm
          rw [this]; rfl
      · rw [kl_asym h1]; rfl
    rw [hle]
    cases hb : !Op.bytesLess k l[i].1 with
    | true =>
      have ih := rb_loop fu nl k m (i + 1) n (l[i] :: out) (by omega) (by omega) (by simp; omega)
      unfold rbLoop backK at ih
      rw [cond_true, apR_t (by omega), wrapI_of (by omega) (by omega), valP_eq hvp, if_pos rfl, show 1 + out.length = (l[i] :: out).length by simp; omega, List.reverse_cons, List.append_assoc, List.singleton_append]
      exact ih
    | false =>
      have ih := rb_loop fu nl k m (i + 1) n out (by omega) (by omega) (by omega)
      unfold rbLoop backK at ih
      rw [cond_false, wrapI_of (by omega) (by omega), if_neg (by simp)]
      exact ih
theorem rd_loop (fu : Nat) (nl na : Option Bool) (k : Ky) : ∀ (m i n : Nat) (out : List (Ky × PV)), i + m = l.length → m < n → out.length ≤ i → rdLoop fu n (frRd na l.length (pcs l) k (some out.isEmpty) out.length (pcs out) nl l.length (pcs l) (l.length : Int) (i : Int)) = some (.tuple [pSl (out ++ delK k (l.drop i)), .bool (decide ((out ++ delK k (l.drop i)).length < l.length))])
  | m, i, 0, out, hi, hn, ho => by omega
  | 0, i, n + 1, out, hi, hn, ho => by
    unfold rdLoop
    rw [loopF_succ, rd_step, cond_f (decide_eq_false (by omega)), List.drop_eq_nil_of_le (by omega)]
    simp [delK, pSl]
  | m + 1, i, n + 1, out, hi, hn, ho => by
    have hp : l[i]? = some l[i] := List.getElem?_eq_getElem (by omega)
    have hvp := hv _ (List.getElem_mem (show i < l.length by omega))
    rw [drop_cons_some hp]
    unfold rdLoop
    rw [loopF_succ, rd_step, cond_t (decide_eq_true (by omega)), pairAt_eq hp hvp]
    unfold delK
    rw [List.filter_cons]
    cases hb : l[i].1 != k with
    | true =>
      have ih := rd_loop fu nl na k m (i + 1) n (out ++ [l[i]]) (by omega) (by omega) (by simp; omega)
      unfold rdLoop delK at ih
      rw [cond_true, apR_t (by omega), wrapI_of (by omega) (by omega), valP_eq hvp, if_pos rfl, flag_app (p := l[i]), pcs_one, ← pcs_append, show out.length + 1 = (out ++ [l[i]]).length by simp]
      rw [List.append_assoc, List.singleton_append] at ih
      exact ih
    | false =>
      have ih := rd_loop fu nl na k m (i + 1) n out (by omega) (by omega) (by omega)
      unfold rdLoop delK at ih
      rw [cond_false, wrapI_of (by omega) (by omega), if_neg (by simp)]
      exact ih
end
end Go.Proofs.Ytmacjkiamejcnaa
