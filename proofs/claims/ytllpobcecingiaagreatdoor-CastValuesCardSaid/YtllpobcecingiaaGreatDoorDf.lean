/-
  Decimal: the text of a decimal is read again; the law DecimalPrints.
-/
import Derived.Test.YtllpobcecingiaaGreatDoorDe
set_option linter.unusedVariables false
set_option linter.unusedSimpArgs false
namespace Go.Proofs.YtllpobcecingiaaGreatDoor
open Go.RowKit

theorem cutB_digits {w : List UInt8} (h : w.all isD = true) : cutB w = false := by
  unfold cutB
  rw [List.any_eq_false]
  intro c hc
  have := isD_ne (List.all_eq_true.1 h c hc)
  simpa using this
theorem cut_dot {w r : List UInt8} (h : w.all isD = true) : cutA (w ++ 46 :: r) = w ∧ cutR (w ++ 46 :: r) = r ∧ cutB (w ++ 46 :: r) = true := by
  unfold cutA cutR cutB
  induction w with
  | nil => simp [notP]
  | cons c w ih =>
    rw [List.all_cons, Bool.and_eq_true] at h
    have hn : notP c = true := by unfold notP; rw [isD_ne h.1]; rfl
    obtain ⟨i1, i2, i3⟩ := ih h.2
    rw [List.cons_append, List.takeWhile_cons, List.dropWhile_cons, hn]
    simp only [if_true, List.any_cons, i1, i2, i3, Bool.or_true]
    exact ⟨trivial, trivial, trivial⟩
theorem vacc_zeros (t : List UInt8) : ∀ j, vacc 0 (List.replicate j 48 ++ t) = vacc 0 t
  | 0 => rfl
  | j + 1 => by
    rw [List.replicate_succ, List.cons_append]
    exact vacc_zeros t j
theorem pad_facts {t : List UInt8} {k : Nat} (h : t.all isD = true) : (padS t k).all isD = true ∧ digV (padS t k) = digV t := by
  unfold padS
  refine ⟨?_, vacc_zeros t _⟩
  rw [List.all_append, h, Bool.and_true, List.all_eq_true]
  intro c hc
  obtain ⟨_, rfl⟩ := List.mem_replicate.1 hc
  rfl
theorem hasM_digit {c : UInt8} {t : List UInt8} (h : isD c = true) : hasM (c :: t) = false := by
  unfold hasM
  rw [List.head?_cons, beq_eq_false_iff_ne]
  intro e
  injection e with e
  subst e
  simp [isD] at h
theorem cut_m {q : List UInt8} {m : Bool} (h : ∃ c t, q = c :: t ∧ isD c = true) : noM ((bif m then [45] else []) ++ q) = q ∧ hasM ((bif m then [45] else []) ++ q) = m := by
  cases m
  · obtain ⟨c, t, rfl, hc⟩ := h
    have : hasM (c :: t) = false := hasM_digit hc
    unfold noM
    rw [cond_false, List.nil_append, this]
    exact ⟨rfl, rfl⟩
  · exact ⟨rfl, rfl⟩
theorem print_parse {N k : Nat} {m : Bool} (hN : N < 10 ^ 20) (hk : k ≤ 6) (ho : over64 (sgn N m) = false) (hz : (sgn N m == 0 && m) = false) : parseP (printS N m k) = some (sgn N m, k) := by
  obtain ⟨f1, f2, f3, f4, f5, f6⟩ := dS_facts hN
  obtain ⟨p1, p2⟩ := pad_facts (k := k) f1
  have p3 := pad_len (dS N) k
  have hl : 0 < (dS N).length := List.length_pos_iff.2 f2
  rw [f3] at p2
  have hdone : k + 1 < (padS (dS N) k).length → padS (dS N) k = dS N := fun h => pad_done (by omega)
  have hdone0 : k = 0 → padS (dS N) k = dS N := fun h => pad_done (by omega)
  unfold printS
  generalize padS (dS N) k = p at *
  have hp0 : p ≠ [] := by intro e; rw [e] at p3; simp at p3; omega
  obtain ⟨c, t, hp⟩ := List.exists_cons_of_ne_nil hp0
  have hcD : isD c = true := by rw [hp, List.all_cons, Bool.and_eq_true] at p1; exact p1.1
  by_cases h0 : k = 0
  · have hd : dotS p k = p := by unfold dotS; rw [decide_eq_false (by omega)]; rfl
    have hpd := hdone0 h0
    rw [hd]
    obtain ⟨e1, e2⟩ := cut_m (m := m) ⟨c, t, hp, hcD⟩
    obtain ⟨g1, g2⟩ := cut_none (cutB_digits p1)
    unfold parseP valP
    rw [e1, e2, g1, g2, cutB_digits p1, List.append_nil, p2, ho, hz]
    have hb : badP p [] false = false := by
      unfold badP
      rw [digB_iff.2 ⟨p1, hp0⟩]
      simp only [Bool.not_true, Bool.false_or, Bool.false_and, Bool.or_false, Bool.and_eq_false_iff]
      by_cases h1 : 1 < p.length
      · right
        rw [hp, List.head?_cons, beq_eq_false_iff_ne]
        intro e
        injection e with e
        rw [hpd] at h1 hp
        exact f5 (f6 h1) c (by rw [hp]; rfl) e
      · exact .inl (decide_eq_false h1)
    rw [hb, h0]
    rfl
  · have hd : dotS p k = p.take (p.length - k) ++ 46 :: p.drop (p.length - k) := by unfold dotS; rw [decide_eq_true (by omega), cond_true, List.append_assoc]; rfl
    have hwl : (p.take (p.length - k)).length = p.length - k := by rw [List.length_take]; omega
    have hrl : (p.drop (p.length - k)).length = k := by rw [List.length_drop]; omega
    have hcat : p.take (p.length - k) ++ p.drop (p.length - k) = p := List.take_append_drop _ _
    have hall := p1
    rw [← hcat, List.all_append, Bool.and_eq_true] at hall
    have hhead : (p.take (p.length - k)).head? = some c := by
      rw [List.head?_take, if_neg (by omega), hp]; rfl
    rw [hd]
    have hq : ∃ c' t', p.take (p.length - k) ++ 46 :: p.drop (p.length - k) = c' :: t' ∧ isD c' = true := by
      obtain ⟨c', t', e⟩ := List.exists_cons_of_ne_nil (show p.take (p.length - k) ≠ [] by intro e; rw [e] at hwl; simp at hwl; omega)
      rw [e] at hhead
      injection hhead with hh
      exact ⟨c', t' ++ 46 :: p.drop (p.length - k), by rw [e]; rfl, by rw [hh]; exact hcD⟩
    obtain ⟨e1, e2⟩ := cut_m (m := m) hq
    obtain ⟨g1, g2, g3⟩ := cut_dot (r := p.drop (p.length - k)) hall.1
    unfold parseP valP
    rw [e1, e2, g1, g2, g3, hcat, p2, ho, hz, hrl]
    have hb : badP (p.take (p.length - k)) (p.drop (p.length - k)) true = false := by
      unfold badP
      rw [digB_iff.2 ⟨hall.1, by intro e; rw [e] at hwl; simp at hwl; omega⟩, digB_iff.2 ⟨hall.2, by intro e; rw [e] at hrl; simp at hrl; omega⟩, hrl, decide_eq_false (show ¬ 6 < k by omega), hwl, hhead]
      simp only [Bool.not_true, Bool.false_or, Bool.and_false, Bool.or_false, Bool.and_eq_false_iff]
      by_cases h1 : 1 < p.length - k
      · right
        rw [beq_eq_false_iff_ne]
        intro e
        injection e with e
        have hpd := hdone (by omega)
        rw [hpd] at h1 hp
        exact f5 (f6 (by omega)) c (by rw [hp]; rfl) e
      · exact .inl (decide_eq_false h1)
    rw [hb]
    rfl
def printsBody (n sc : Int) : Option PV :=
  bif inI n then bif inI n then
    bif !(!(prV n sc == prV n sc)) then bif !(scaleB sc == scaleB sc) then some (.bool false) else
      bif decide ((prV n sc).length ≤ 400) then
        some (.bool ((parseP (prV n sc)).isSome == scaleB sc && (!(parseP (prV n sc)).isSome || ((parseP (prV n sc)).elim 0 (fun p => p.1) == n && (parseP (prV n sc)).elim 0 (fun p => (p.2 : Int)) == sc))))
      else none
    else some (.bool false)
  else none else none
theorem prints_body {n sc : Int} (hn : inI n = true) : printsBody n sc = some (.bool true) := by
  unfold printsBody
  rw [hn]
  simp only [cond_true, beq_self_eq_true, Bool.not_true, Bool.not_false, cond_false]
  rw [inI_iff] at hn
  cases hs : scaleB sc
  · have e : prV n sc = [] := by unfold prV; rw [hs]; rfl
    rw [e]; rfl
  · have e : prV n sc = printS n.natAbs (decide (n < 0)) sc.toNat := by unfold prV; rw [hs]; rfl
    rw [scaleB_iff] at hs
    have hsg : sgn (n.natAbs : Int) (decide (n < 0)) = n := by
      unfold sgn
      by_cases k : n < 0
      · rw [decide_eq_true k, cond_true]; omega
      · rw [decide_eq_false k, cond_false]; omega
    have hp := print_parse (N := n.natAbs) (k := sc.toNat) (m := decide (n < 0)) (by omega) (by omega) (by rw [hsg]; unfold over64; rw [decide_eq_false (by omega), decide_eq_false (by omega)]; rfl)
      (by rw [hsg]; by_cases k : n < 0
          · rw [show (n == 0) = false by rw [beq_eq_false_iff_ne]; omega]; rfl
          · rw [decide_eq_false k, Bool.and_false])
    rw [hsg] at hp
    have hlen : (prV n sc).length ≤ 400 := by
      rw [e]
      unfold printS dotS
      have h1 := pad_len (dS n.natAbs) sc.toNat
      have h2 := (dS_facts (N := n.natAbs) (by omega)).2.2.2.1
      have hm : (bif decide (n < 0) then [45] else [] : List UInt8).length ≤ 1 := by cases decide (n < 0) <;> simp
      rw [List.length_append]
      cases decide (0 < sc.toNat)
      · rw [cond_false]; omega
      · simp only [cond_true, List.length_append, List.length_take, List.length_drop, List.length_cons, List.length_nil]
        omega
    rw [cond_t (decide_eq_true hlen), e, hp]
    have : ((sc.toNat : Nat) : Int) = sc := by omega
    simp [this]
end Go.Proofs.YtllpobcecingiaaGreatDoor
