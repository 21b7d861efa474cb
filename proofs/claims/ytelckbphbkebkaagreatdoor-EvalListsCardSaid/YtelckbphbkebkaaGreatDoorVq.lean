/-
  Nodes: Passes and All say the same as the reference's (the law EvalLists in plain terms).
-/
import Derived.Test.YtelckbphbkebkaaGreatDoorVp
set_option linter.unusedVariables false
set_option linter.unusedSimpArgs false
set_option maxRecDepth 100000
namespace Go.Proofs.YtelckbphbkebkaaGreatDoor
open Go.RowKit

/-! ## Passes -/
theorem pa_loop (g : EvT) (hG : GdE g) (fu : Nat) (y1 : Option Bool) (rl : Nat) (rc : List PV) (z : Option Bool) (l : List NdC) (hl : l.length ≤ 1000000) : ∀ (k i n : Nat) (r : Bool × Int), i + k = l.length → k < n → paS (fun y => g y rl rc) (l.drop i) = some r →
    paLoop g fu n (frPa y1 rl rc z l.length (ndC l) (l.length : Int) (i : Int)) = some (resPB r)
  | k, i, 0, _, h, _, _ => by omega
  | 0, i, n + 1, r, hi, hn, hr => by
    unfold paLoop
    rw [loopF_succ, pa_step, cond_f (decide_eq_false (by omega))]
    rw [List.drop_of_length_le (by omega), paS] at hr
    injection hr with hr
    subst hr
    rfl
  | k + 1, i, n + 1, r, hi, hn, hr => by
    unfold paLoop
    have hc := List.getElem?_eq_getElem (l := l) (i := i) (by omega)
    have ih := pa_loop g hG fu y1 rl rc z l hl k (i + 1) n r
    unfold paLoop at ih
    rw [loopF_succ, pa_step, cond_t (decide_eq_true (by omega)), at11_eq hc, wrapI_of (by omega) (by omega)]
    rw [List.drop_eq_getElem_cons (show i < l.length by omega), paS] at hr
    obtain ⟨a, h1, hr⟩ := Option.bind_eq_some_iff.1 hr
    have oa := hG _ _ _ _ h1
    rw [h1, Option.bind_some]
    rcases he : (a.2 == 0) with _ | _ <;> rw [he] at hr
    · rw [nt_f] at hr
      injection hr with hr
      subst hr
      rfl
    · rw [nt_t] at hr
      rw [Bool.not_not, cond_true, trO_eq oa]
      have e0 : a.2 = 0 := by simpa using he
      rcases ht : (trS a.1 == 1) with _ | _ <;> rw [ht] at hr
      · rw [nt_f] at hr ⊢
        injection hr with hr
        subst hr
        rw [e0]
      · rw [nt_t] at hr ⊢
        exact ih (by omega) (by omega) hr
theorem ok_pa {g : EvT} (hG : GdE g) (hg : FOK NGc Wc 10 (p_ev g)) : FOK NGc Wc 17 (p_pa (paG g)) := by
  refine fok wokc (allOK_cons hg (allOK_cons ok_tr allOK_nil)) (h := hPa) Tryz.func17 rfl (by decide) (p_pa_nat _) ?_
  intro xs r h
  simp only [p_pa] at h
  split at h
  · rename_i z n c y rl rc
    obtain ⟨q, h1, h⟩ := Option.bind_eq_some_iff.1 h
    injection h with h
    subst h
    unfold paG at h1
    obtain ⟨l, hd, h2⟩ := Option.bind_eq_some_iff.1 h1
    clear h1
    obtain ⟨rfl, rfl⟩ := decNd hd
    have h1 : (bif decide (l.length ≤ 1000000) then paS (fun y => g y rl rc) l else none) = some q := h2
    rcases hl : decide (l.length ≤ 1000000) with _ | _ <;> rw [hl] at h1
    · cases h1
    · simp only [decide_eq_true_eq] at hl
      exact ⟨l.length + 1, (pa_raw g _ z _ _ y rl rc).trans (pa_loop g hG _ y rl rc z l hl l.length 0 _ q (by omega) (by omega) h1)⟩
  · cases h
/-! ## Passes of the reference -/
def GdF (g : EvT) : Prop := ∀ x rl rc r, g x rl rc = some r → gd r.1 = true
theorem evGd_gd (d : Nat) : GdF (evGd d) := by
  intro x rl rc r h
  obtain ⟨row, _, h⟩ := Option.bind_eq_some_iff.1 h
  exact evS_ok h
theorem rpa_loop (g : EvT) (hG : GdF g) (fu : Nat) (y1 : Option Bool) (rl : Nat) (rc : List PV) (z : Option Bool) (l : List NdC) (hl : l.length ≤ 1000000) : ∀ (k i n : Nat) (r : Bool × Int), i + k = l.length → k < n → paS (fun y => g y rl rc) (l.drop i) = some r →
    rpaLoop g fu n (frRp y1 rl rc z l.length (ndC l) (l.length : Int) (i : Int)) = some (resPB r)
  | k, i, 0, _, h, _, _ => by omega
  | 0, i, n + 1, r, hi, hn, hr => by
    unfold rpaLoop
    rw [loopF_succ, rpa_step, cond_f (decide_eq_false (by omega))]
    rw [List.drop_of_length_le (by omega), paS] at hr
    injection hr with hr
    subst hr
    rfl
  | k + 1, i, n + 1, r, hi, hn, hr => by
    unfold rpaLoop
    have hc := List.getElem?_eq_getElem (l := l) (i := i) (by omega)
    have ih := rpa_loop g hG fu y1 rl rc z l hl k (i + 1) n r
    unfold rpaLoop at ih
    rw [loopF_succ, rpa_step, cond_t (decide_eq_true (by omega)), at11_eq hc, wrapI_of (by omega) (by omega)]
    rw [List.drop_eq_getElem_cons (show i < l.length by omega), paS] at hr
    obtain ⟨a, h1, hr⟩ := Option.bind_eq_some_iff.1 hr
    have oa := hG _ _ _ _ h1
    rw [h1, Option.bind_some, ← (gd_kind1 oa).1]
    rcases he : (a.2 == 0) with _ | _ <;> rw [he] at hr
    · rw [nt_f] at hr ⊢
      injection hr with hr
      subst hr
      rfl
    · rw [nt_t] at hr ⊢
      rcases ht : (trS a.1 == 1) with _ | _ <;> rw [ht] at hr
      · rw [nt_f] at hr ⊢
        injection hr with hr
        subst hr
        rfl
      · rw [nt_t] at hr ⊢
        exact ih (by omega) (by omega) hr
theorem ok_rpa {g : EvT} (hG : GdF g) (hg : FOK NGc Wc 36 (p_ev g)) : FOK NGc Wc 18 (p_pa (paG g)) := by
  refine fok wokc (allOK_cons hg (allOK_cons ok_rtr allOK_nil)) (h := hPa) Tryz.func18 rfl (by decide) (p_pa_nat _) ?_
  intro xs r h
  simp only [p_pa] at h
  split at h
  · rename_i z n c y rl rc
    obtain ⟨q, h1, h⟩ := Option.bind_eq_some_iff.1 h
    injection h with h
    subst h
    unfold paG at h1
    obtain ⟨l, hd, h2⟩ := Option.bind_eq_some_iff.1 h1
    clear h1
    obtain ⟨rfl, rfl⟩ := decNd hd
    have h1 : (bif decide (l.length ≤ 1000000) then paS (fun y => g y rl rc) l else none) = some q := h2
    rcases hl : decide (l.length ≤ 1000000) with _ | _ <;> rw [hl] at h1
    · cases h1
    · simp only [decide_eq_true_eq] at hl
      exact ⟨l.length + 1, (rpa_raw g _ z _ _ y rl rc).trans (rpa_loop g hG _ y rl rc z l hl l.length 0 _ q (by omega) (by omega) h1)⟩
  · cases h
/-! ## All of the reference -/
theorem ra_loop (g : EvT) (fu : Nat) (y1 : Option Bool) (rl : Nat) (rc : List PV) (z : Option Bool) (l : List NdC) (hl : l.length ≤ 1000000) : ∀ (k i n : Nat) (acc : List Val) (r : List Val × Int), i + k = l.length → k < n → acc.length = i → alS (fun y => g y rl rc) (l.drop i) = some r →
    raLoop g fu n (frAl y1 rl rc (some acc.isEmpty) acc.length (rowC acc) z l.length (ndC l) (l.length : Int) (i : Int)) = some (alR acc r)
  | k, i, 0, _, _, _, h, _, _ => by omega
  | 0, i, n + 1, acc, r, hi, hn, ha, hr => by
    unfold raLoop
    rw [loopF_succ, ra_step, cond_f (decide_eq_false (by omega))]
    rw [List.drop_of_length_le (by omega), alS] at hr
    injection hr with hr
    subst hr
    unfold alR
    simp
  | k + 1, i, n + 1, acc, r, hi, hn, ha, hr => by
    unfold raLoop
    have hc := List.getElem?_eq_getElem (l := l) (i := i) (by omega)
    have ih := ra_loop g fu y1 rl rc z l hl k (i + 1) n
    unfold raLoop at ih
    rw [loopF_succ, ra_step, cond_t (decide_eq_true (by omega)), at11_eq hc, wrapI_of (by omega) (by omega)]
    rw [List.drop_eq_getElem_cons (show i < l.length by omega), alS] at hr
    obtain ⟨a, h1, hr⟩ := Option.bind_eq_some_iff.1 hr
    rw [h1, Option.bind_some]
    rcases he : (a.2 == 0) with _ | _ <;> rw [he] at hr
    · simp only [Bool.not_false, cond_true] at hr ⊢
      injection hr with hr
      subst hr
      unfold alR
      simp only [he, cond_false]
    · simp only [Bool.not_true, cond_false] at hr ⊢
      obtain ⟨q, h2, hr⟩ := Option.bind_eq_some_iff.1 hr
      rw [roomA_eq (by omega), rowC_snoc]
      have ih' := ih (acc ++ [a.1]) q (by omega) (by omega) (by simp [ha]) h2
      rw [show (acc ++ [a.1]).isEmpty = false by cases acc <;> rfl, List.length_append] at ih'
      have e : alR (acc ++ [a.1]) q = alR acc r := ?_
      · rw [← e]
        simp only [Option.map_some, Bool.and_false]
        exact ih'
      unfold alR
      rcases hq : (q.2 == 0) with _ | _ <;> rw [hq] at hr
      · simp only [Bool.not_false, cond_true] at hr
        injection hr with hr
        subst hr
        simp only [hq, cond_false]
      · simp only [Bool.not_true, cond_false] at hr
        injection hr with hr
        subst hr
        simp
theorem ok_ral {g : EvT} (hg : FOK NGc Wc 36 (p_ev g)) : FOK NGc Wc 20 (p_al (alG g)) := by
  refine fok wokc (allOK_cons hg allOK_nil) (h := hAl) Tryz.func20 rfl (by decide) (p_al_nat _) ?_
  intro xs r h
  simp only [p_al] at h
  split at h
  · rename_i z n c y rl rc
    obtain ⟨q, h1, h⟩ := Option.bind_eq_some_iff.1 h
    injection h with h
    subst h
    unfold alG at h1
    obtain ⟨l, hd, h2⟩ := Option.bind_eq_some_iff.1 h1
    clear h1
    obtain ⟨rfl, rfl⟩ := decNd hd
    have h1 : (bif decide (l.length ≤ 1000000) then alS (fun y => g y rl rc) l else none) = some q := h2
    rcases hl : decide (l.length ≤ 1000000) with _ | _ <;> rw [hl] at h1
    · cases h1
    · simp only [decide_eq_true_eq] at hl
      refine ⟨l.length + 1, (ra_raw g _ z _ _ y rl rc).trans ((ra_loop g _ y rl rc z l hl l.length 0 _ [] q (by omega) (by omega) rfl h1).trans ?_)⟩
      unfold alR
      rcases hq : (q.2 == 0) with _ | _
      · rw [alS_err h1 hq]; rfl
      · have : q.2 = 0 := by simpa using hq
        rw [this]; rfl
  · cases h
/-! ## the law -/
theorem paS_some {g : Ev1} : ∀ {l : List NdC}, (∀ y ∈ l, ∃ a, g y = some a) → ∃ r, paS g l = some r
  | [], _ => ⟨_, rfl⟩
  | y :: ys, h => by
    obtain ⟨a, ha⟩ := h y (by simp)
    obtain ⟨r, hr⟩ := paS_some (g := g) (l := ys) (fun y hy => h y (by simp [hy]))
    rw [paS, ha, Option.bind_some]
    cases (a.2 == 0)
    · exact ⟨_, rfl⟩
    · cases (trS a.1 == 1)
      · exact ⟨_, rfl⟩
      · exact ⟨r, hr⟩
theorem alS_some {g : Ev1} : ∀ {l : List NdC}, (∀ y ∈ l, ∃ a, g y = some a) → ∃ r, alS g l = some r ∧ r.1.length ≤ l.length
  | [], _ => ⟨_, rfl, Nat.le_refl _⟩
  | y :: ys, h => by
    obtain ⟨a, ha⟩ := h y (by simp)
    obtain ⟨r, hr, hl⟩ := alS_some (g := g) (l := ys) (fun y hy => h y (by simp [hy]))
    rw [alS, ha, Option.bind_some]
    cases (a.2 == 0)
    · exact ⟨_, rfl, by simp⟩
    · rw [hr]
      show ∃ r', (bif !(r.2 == 0) then some ([], r.2) else some (a.1 :: r.1, 0)) = some r' ∧ _
      cases (r.2 == 0)
      · exact ⟨_, rfl, by simp⟩
      · exact ⟨_, rfl, by simp; exact hl⟩
theorem eqV_self (v : Val) : eqV v v = true := by simp [eqV]
section
variable (gz : SzT) (pa : PaT) (al : AlT)
theorem e2_loop (fu : Nat) (n1 n2 : Option Bool) (vs : List Val) (hl : vs.length ≤ 1000000) : ∀ (k i n : Nat), i + k = vs.length → k < n →
    e2Loop gz pa al fu n (frE2 n1 vs.length (rowC vs) n2 vs.length (rowC vs) (vs.length : Int) (i : Int)) = some (.bool true)
  | k, i, 0, h, _ => by omega
  | 0, i, n + 1, hi, hn => by
    unfold e2Loop
    rw [loopF_succ, es_step2, cond_f (decide_eq_false (by omega))]
  | k + 1, i, n + 1, hi, hn => by
    unfold e2Loop
    have hc := List.getElem?_eq_getElem (l := vs) (i := i) (by omega)
    have ih := e2_loop fu n1 n2 vs hl k (i + 1) n
    unfold e2Loop at ih
    rw [loopF_succ, es_step2, cond_t (decide_eq_true (by omega)), at4_eq hc, at4_eq hc, wrapI_of (by omega) (by omega), eqV_self, nt_t]
    exact ih (by omega) (by omega)
theorem es_body (fu : Nat) (y1 z : Option Bool) (rl m : Nat) (rc d : List PV) {r : Bool × Int} {q : List Val × Int} (h1 : pa m d rl rc = some r) (h2 : al m d rl rc = some q) (hl : q.1.length ≤ 1000000) (hf : q.1.length < fu) : esB gz pa al fu y1 rl rc z m d = some (.bool true) := by
  unfold esB
  rw [h1, Option.bind_some, Option.bind_some, h2, Option.bind_some, Option.bind_some]
  have e1 : (r.1 == r.1) = true := by simp
  have e2 : (r.2 == r.2) = true := by simp
  have e3 : (q.2 == q.2) = true := by simp
  have e4 : ((q.1.length : Int) == (q.1.length : Int)) = true := by simp
  rw [e1, e2, e3, e4]
  exact e2_loop gz pa al fu _ _ q.1 hl q.1.length 0 fu (by omega) hf
theorem e0_loop (fu : Nat) (y1 z : Option Bool) (rl : Nat) (rc : List PV) (l : List NdC) (hl : l.length ≤ 1000000) (hz : ∀ y ∈ l, ∃ s, gz y 60 = some s) (hb : (∀ y ∈ l, ∀ s, gz y 60 = some s → s ≤ 500) → esB gz pa al fu y1 rl rc z l.length (ndC l) = some (.bool true)) :
    ∀ (k i n : Nat), i + k = l.length → k < n → (∀ y ∈ l.take i, ∀ s, gz y 60 = some s → s ≤ 500) → e0Loop gz pa al fu n (frE0 y1 rl rc z l.length (ndC l) (l.length : Int) (i : Int)) = some (.bool true)
  | k, i, 0, h, _, _ => by omega
  | 0, i, n + 1, hi, hn, ht => by
    unfold e0Loop
    rw [loopF_succ, es_step0, cond_f (decide_eq_false (by omega))]
    rw [List.take_of_length_le (by omega)] at ht
    exact hb ht
  | k + 1, i, n + 1, hi, hn, ht => by
    unfold e0Loop
    have hc := List.getElem?_eq_getElem (l := l) (i := i) (by omega)
    have ih := e0_loop fu y1 z rl rc l hl hz hb k (i + 1) n
    unfold e0Loop at ih
    obtain ⟨s, hs⟩ := hz l[i] (List.getElem_mem _)
    rw [loopF_succ, es_step0, cond_t (decide_eq_true (by omega)), at11_eq hc, hs, Option.bind_some, wrapI_of (by omega) (by omega)]
    by_cases h5 : 500 < s
    · rw [decide_eq_true h5, cond_true]
    · rw [decide_eq_false h5, cond_false]
      refine ih (by omega) (by omega) fun y hy s' hs' => ?_
      rw [List.take_add_one, hc] at hy
      simp only [Option.toList, List.mem_append, List.mem_singleton] at hy
      rcases hy with hy | rfl
      · exact ht y hy s' hs'
      · rw [hs] at hs'
        injection hs' with hs'
        omega
end
theorem es_law {D : Nat} {l : List NdC} {row : List Val} (hx : ∀ y ∈ l, wfN D y) (hr : ∀ v ∈ row, inI v.n = true) (z y1 : Option Bool) :
    prun (en (lEs (szG 61) (paG (evGd 61)) (alG (evGd 61)))) hEs 1000001 false Tryz.f5 [.sl z 11 l.length (ndC l), .sl y1 4 row.length (rowC row)] = some (.bool true) := by
  rw [es_raw]
  by_cases h20 : (20 : Int) < (l.length : Int)
  · rw [decide_eq_true h20]; rfl
  rw [decide_eq_false h20, nt_f]
  unfold smO
  rw [decRow_of, Option.bind_some]
  rcases hs : smS row with _ | _
  · rfl
  dsimp only
  rw [nt_t]
  have hsz : ∀ y ∈ l, ∃ s, szG 61 y 60 = some s ∧ (s ≤ 2000 → Sm 61 y) := fun y hy => by
    obtain ⟨s, h1, _, _, h2⟩ := sz_ok 61 D 60 y (hx y hy) (by omega) (by omega) (by omega)
    exact ⟨s, h1, h2⟩
  have hrow : okR row := fun v hv => ⟨hr v hv, by
    unfold smS at hs
    simp only [Bool.and_eq_true, List.all_eq_true] at hs
    have := hs.2 v hv
    unfold smV at this
    simpa using this⟩
  refine e0_loop _ _ _ _ _ _ _ _ l (by omega) (fun y hy => let ⟨s, h, _⟩ := hsz y hy; ⟨s, h⟩) (fun h5 => ?_) l.length 0 _ (by omega) (by omega) (fun y hy => by cases hy)
  have hev : ∀ y ∈ l, ∃ a, evS 61 row y = some a := fun y hy => by
    obtain ⟨s, h1, h2⟩ := hsz y hy
    obtain ⟨a, ha, _⟩ := ev_some hrow 61 y (h2 (by have := h5 y hy s h1; omega))
    exact ⟨a, ha⟩
  obtain ⟨r, hr1⟩ := paS_some hev
  obtain ⟨q, hq1, hq2⟩ := alS_some hev
  have eg : (fun y => evGd 61 y row.length (rowC row)) = evS 61 row := funext fun y => evGd_row 61 y row
  refine es_body _ _ _ _ _ _ _ _ _ _ (r := r) (q := q) ?_ ?_ (by omega) (by omega)
  · unfold paG
    rw [decNd_of, Option.bind_some, cond_t (decide_eq_true (by omega)), eg, hr1]
  · unfold alG
    rw [decNd_of, Option.bind_some, cond_t (decide_eq_true (by omega)), eg, hq1]
theorem ok_lEs : AllOK NGc Wc (lEs (szG 61) (paG (evGd 61)) (alG (evGd 61))) :=
  allOK_cons ok_first22 (allOK_cons (ok_sz 61) (allOK_cons ok_sm (allOK_cons (ok_pa (evGd_ok 61) (ok_ev 61)) (allOK_cons (ok_rpa (evGd_gd 61) (ok_rev 61)) (allOK_cons (ok_al (ok_ev 61)) (allOK_cons (ok_ral (ok_rev 61)) allOK_nil))))))
end Go.Proofs.YtelckbphbkebkaaGreatDoor
