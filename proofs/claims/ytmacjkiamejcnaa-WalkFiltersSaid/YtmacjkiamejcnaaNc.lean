/-
  The document's answers for walks: contracts.
-/
import Derived.Test.YtmacjkiamejcnaaNb
set_option linter.unusedVariables false
set_option linter.unusedSimpArgs false
set_option maxRecDepth 100000
namespace Go.Proofs.Ytmacjkiamejcnaa
open Go.RowKit
theorem ap_str : bytesOf Try.prog 9 = 16 := by kernel_rfl
theorem apS_t {S : Type} {n m : Nat} (h : n + m ≤ 1000000) (k : Option S) : apS n m k = k := by
  unfold apS
  rw [ap_str, cond_t]
  rw [decide_eq_true (by omega), decide_eq_true (by unfold roomB; omega)]
  rfl
/-- a slice of texts -/
def ssl (l : List Ky) : PV := .sl (some l.isEmpty) 1 l.length (l.map PV.str)
theorem flag_str {l : List Ky} {p : Ky} : (some l.isEmpty).map (· && ((1 : Nat) == 0)) = some (l ++ [p]).isEmpty := by simp
def txK : List Ky → List Ky → Bool
  | [], [] => true
  | p :: r, q :: s => bif p != q then false else txK r s
  | _, _ => false
theorem txK_self : ∀ l, txK l l = true
  | [] => rfl
  | p :: r => by simp [txK, txK_self r]
theorem tx_loop {a b : List Ky} (hl : a.length ≤ 100000) (hab : a.length = b.length) (fu : Nat) (na nb : Option Bool) : ∀ (m i n : Nat), i + m = a.length → m < n → txLoop fu n (frTx na a.length (a.map PV.str) nb b.length (b.map PV.str) (a.length : Int) (i : Int)) = some (.bool (txK (a.drop i) (b.drop i)))
  | m, i, 0, hi, hn => by omega
  | 0, i, n + 1, hi, hn => by
    unfold txLoop
    rw [loopF_succ, tx_step, cond_f (decide_eq_false (by omega)), List.drop_eq_nil_of_le (by omega), List.drop_eq_nil_of_le (by omega)]
    rfl
  | m + 1, i, n + 1, hi, hn => by
    have hp : a[i]? = some a[i] := List.getElem?_eq_getElem (by omega)
    have hq : b[i]? = some b[i] := List.getElem?_eq_getElem (by omega)
    have ih := tx_loop hl hab fu na nb m (i + 1) n (by omega) (by omega)
    unfold txLoop at ih ⊢
    rw [loopF_succ, tx_step, cond_t (decide_eq_true (by omega)), strsM_eq hp, strsM_eq hq, drop_cons_some hp, drop_cons_some hq]
    simp only [txK]
    cases a[i] != b[i] with
    | true => rfl
    | false =>
      rw [cond_false, cond_false, wrapI_of (by omega) (by omega)]
      exact ih
theorem txK_ne : ∀ (a b : List Ky), a.length ≠ b.length → txK a b = false
  | [], [], h => absurd rfl h
  | [], _ :: _, _ => rfl
  | _ :: _, [], _ => rfl
  | p :: r, q :: s, h => by
    simp only [txK]
    rw [txK_ne r s (by simpa using h)]
    cases p != q <;> rfl
def p_texts : PFn := ⟨fun xs k => match xs with | [.sl na 1 la ca, .sl nb 1 lb cb] => (gStrs la ca).bind fun a => (gStrs lb cb).bind fun b => bif decide (la ≤ 100000) then k (.bool (txK a b)) else none | _ => none, false⟩
theorem ok_texts : FOK NGt Wt 21 p_texts := by
  refine fok wokt allOK_nil (h := hTx) Try.func21 rfl (by decide) ?_ ?_
  · intro R xs k
    simp only [p_texts]
    split
    · rw [obind_assoc]; congr 1; funext a; rw [obind_assoc]; congr 1; funext b; rw [bif_bind]; rfl
    · rfl
  · intro xs r h
    simp only [p_texts] at h
    split at h
    · rename_i na la ca nb lb cb
      replace h := bind_some_inv h
      obtain ⟨a, ha, h⟩ := h
      replace h := bind_some_inv h
      obtain ⟨b, hb, h⟩ := h
      replace h := bif_inv h
      obtain ⟨hl, h⟩ := h
      obtain ⟨rfl, rfl⟩ := gStrs_inv ha
      obtain ⟨rfl, rfl⟩ := gStrs_inv hb
      simp only [decide_eq_true_eq] at hl
      refine ⟨a.length + 1, (tx_raw ..).trans ?_⟩
      by_cases he : a.length = b.length
      · rw [cond_f (by rw [he]; simp)]
        exact (tx_loop hl he (a.length + 1) na nb a.length 0 (a.length + 1) (by omega) (by omega)).trans h
      · rw [cond_t (by simp; omega), ← h, txK_ne a b he]
    · cases h
theorem texts_law {R : Type} {a : List Ky} (ha : a.length ≤ 100000) (K : PV → Option R) : p_texts.F [ssl a, ssl a] K = K (.bool true) := by
  simp only [p_texts, ssl]
  rw [gStrs_map, Option.bind_some, Option.bind_some, cond_t (decide_eq_true ha), txK_self]
/-! ## Diff -/
def goneK (a b : List (Ky × PV)) : List Ky := (a.filter fun p => !hasK p.1 b).map (·.1)
def chgB (b : List (Ky × PV)) (p : Ky × PV) : Bool := hasK p.1 b && !(valP ((getK p.1 b).getD (.int .i64 0)) == valP p.2)
def chgK (a b : List (Ky × PV)) : List Ky := (a.filter (chgB b)).map (·.1)
theorem goneK_len (a b : List (Ky × PV)) : (goneK a b).length ≤ a.length := by unfold goneK; rw [List.length_map]; exact List.length_filter_le _ _
theorem chgK_len (a b : List (Ky × PV)) : (chgK a b).length ≤ a.length := by unfold chgK; rw [List.length_map]; exact List.length_filter_le _ _
theorem goneK_cons (p : Ky × PV) (a b : List (Ky × PV)) : goneK (p :: a) b = if !hasK p.1 b then p.1 :: goneK a b else goneK a b := by
  unfold goneK
  rw [List.filter_cons]
  split <;> rfl
theorem chgK_cons (p : Ky × PV) (a b : List (Ky × PV)) : chgK (p :: a) b = if chgB b p then p.1 :: chgK a b else chgK a b := by
  unfold chgK
  rw [List.filter_cons]
  split <;> rfl
theorem str_one (k : Ky) (l : List Ky) : l.map PV.str ++ [.str k] = (l ++ [k]).map PV.str := by simp
theorem rgetP {R : Type} {a : List (Ky × PV)} (ha : ∀ p ∈ a, vok p.2 = true) (hl : a.length ≤ 100000) (fl : Option Bool) (k : Ky) (K : PV → Option R) :
    p_rget.F [.sl fl 2 a.length (pcs a), .str k] K = K (.tuple [.int .i64 (valP ((getK k a).getD (.int .i64 0))), .bool (hasK k a)]) := by
  simp only [p_rget]
  rw [gP_of hl ha, Option.bind_some]
section
variable {a b : List (Ky × PV)} (ha : ∀ p ∈ a, vok p.2 = true) (hb : ∀ p ∈ b, vok p.2 = true) (la : a.length ≤ 100000) (lb : b.length ≤ 100000) (na nb : Option Bool) (fu : Nat)
include ha hb la lb
theorem ri_loop2 (G E : List Ky) (nl : Option Bool) : ∀ (m i n : Nat) (o : List Ky), i + m = b.length → m < n → o.length ≤ i →
    riLoop2 fu n (frRi2 na a.length (pcs a) (ssl G) (ssl E) (some o.isEmpty) o.length (o.map PV.str) nl b.length (pcs b) (b.length : Int) (i : Int)) = some (.tuple [ssl G, ssl (o ++ goneK (b.drop i) a), ssl E])
  | m, i, 0, o, hi, hn, ho => by omega
  | 0, i, n + 1, o, hi, hn, ho => by
    unfold riLoop2 ssl
    rw [loopF_succ, ri_step2, cond_f (decide_eq_false (by omega)), List.drop_eq_nil_of_le (by omega)]
    simp [goneK]
  | m + 1, i, n + 1, o, hi, hn, ho => by
    have hp : b[i]? = some b[i] := List.getElem?_eq_getElem (by omega)
    have hv := hb _ (List.getElem_mem (show i < b.length by omega))
    rw [drop_cons_some hp, goneK_cons]
    unfold riLoop2 ssl
    rw [loopF_succ, ri_step2, cond_t (decide_eq_true (by omega)), pairAt_eq hp hv, rgetP ha la]
    simp only [onG]
    cases hh : !hasK b[i].1 a with
    | true =>
      have ih := ri_loop2 G E nl m (i + 1) n (o ++ [b[i].1]) (by omega) (by omega) (by simp; omega)
      unfold riLoop2 ssl at ih
      rw [cond_true, apS_t (by omega), wrapI_of (by omega) (by omega), flag_str (p := b[i].1), str_one, show o.length + 1 = (o ++ [b[i].1]).length by simp, if_pos rfl]
      rw [List.append_assoc, List.singleton_append] at ih
      exact ih
    | false =>
      have ih := ri_loop2 G E nl m (i + 1) n o (by omega) (by omega) (by omega)
      unfold riLoop2 ssl at ih
      rw [cond_false, wrapI_of (by omega) (by omega), if_neg (by simp)]
      exact ih
theorem ri_loop0 (nl : Option Bool) : ∀ (m i n : Nat) (o e : List Ky), i + m = a.length → m < n → o.length ≤ i → e.length ≤ i → b.length < fu →
    riLoop0 fu n (frRi0 na a.length (pcs a) nb b.length (pcs b) (some o.isEmpty) o.length (o.map PV.str) (some e.isEmpty) e.length (e.map PV.str) nl a.length (pcs a) (a.length : Int) (i : Int)) = some (.tuple [ssl (o ++ goneK (a.drop i) b), ssl (goneK b a), ssl (e ++ chgK (a.drop i) b)])
  | m, i, 0, o, e, hi, hn, ho, he, hf => by omega
  | 0, i, n + 1, o, e, hi, hn, ho, he, hf => by
    unfold riLoop0
    rw [loopF_succ, ri_step0, cond_f (decide_eq_false (by omega)), List.drop_eq_nil_of_le (by omega)]
    have := ri_loop2 ha hb la lb na fu o e nb b.length 0 fu [] (by omega) hf (by simp)
    rw [List.drop_zero, List.nil_append] at this
    rw [show o ++ goneK [] b = o by simp [goneK], show e ++ chgK [] b = e by simp [chgK]]
    exact this
  | m + 1, i, n + 1, o, e, hi, hn, ho, he, hf => by
    have hp : a[i]? = some a[i] := List.getElem?_eq_getElem (by omega)
    have hv := ha _ (List.getElem_mem (show i < a.length by omega))
    rw [drop_cons_some hp, goneK_cons, chgK_cons]
    unfold riLoop0
    rw [loopF_succ, ri_step0, cond_t (decide_eq_true (by omega)), pairAt_eq hp hv, rgetP hb lb]
    simp only [onG]
    unfold chgB
    cases hh : hasK a[i].1 b with
    | false =>
      have ih := ri_loop0 nl m (i + 1) n (o ++ [a[i].1]) e (by omega) (by omega) (by simp; omega) (by omega) hf
      unfold riLoop0 at ih
      rw [show (!false) = true from rfl, cond_true, apS_t (by omega), wrapI_of (by omega) (by omega), flag_str (p := a[i].1), str_one, show o.length + 1 = (o ++ [a[i].1]).length by simp, if_pos rfl, if_neg (by simp)]
      rw [List.append_assoc, List.singleton_append] at ih
      exact ih
    | true =>
      rw [show (!true) = false from rfl, cond_false, if_neg (by simp), Bool.true_and]
      cases hq : !(valP ((getK a[i].1 b).getD (PV.int .i64 0)) == valP a[i].2) with
      | true =>
        have ih := ri_loop0 nl m (i + 1) n o (e ++ [a[i].1]) (by omega) (by omega) (by omega) (by simp; omega) hf
        unfold riLoop0 at ih
        rw [cond_true, apS_t (by omega), wrapI_of (by omega) (by omega), flag_str (p := a[i].1), str_one, show e.length + 1 = (e ++ [a[i].1]).length by simp, if_pos rfl]
        rw [List.append_assoc, List.singleton_append] at ih
        exact ih
      | false =>
        have ih := ri_loop0 nl m (i + 1) n o e (by omega) (by omega) (by omega) (by omega) hf
        unfold riLoop0 at ih
        rw [cond_false, wrapI_of (by omega) (by omega), if_neg (by simp)]
        exact ih
end
def p_rdiff : PFn := ⟨fun xs k => match xs with | [.sl na 2 la ca, .sl nb 2 lb cb] => (gP la ca).bind fun a => (gP lb cb).bind fun b => k (.tuple [ssl (goneK a b), ssl (goneK b a), ssl (chgK a b)]) | _ => none, false⟩
theorem ok_rdiff : FOK NGt Wt 20 p_rdiff := by
  refine fok wokt (allOK_cons ok_rget allOK_nil) (h := hRi) Try.func20 rfl (by decide) ?_ ?_
  · intro R xs k
    simp only [p_rdiff]
    split
    · rw [obind_assoc]; congr 1; funext a; rw [obind_assoc]; rfl
    · rfl
  · intro xs r h
    simp only [p_rdiff] at h
    split at h
    · rename_i na la ca nb lb cb
      replace h := bind_some_inv h
      obtain ⟨a, ha, h⟩ := h
      replace h := bind_some_inv h
      obtain ⟨b, hb, h⟩ := h
      obtain ⟨rfl, rfl, a3, a4⟩ := gP_inv ha
      obtain ⟨rfl, rfl, b3, b4⟩ := gP_inv hb
      refine ⟨a.length + b.length + 1, (ri_raw ..).trans ?_⟩
      exact (ri_loop0 a4 b4 a3 b3 na nb (a.length + b.length + 1) na a.length 0 (a.length + b.length + 1) [] [] (by omega) (by omega) (by simp) (by simp) (by omega)).trans h
    · cases h
end Go.Proofs.Ytmacjkiamejcnaa
