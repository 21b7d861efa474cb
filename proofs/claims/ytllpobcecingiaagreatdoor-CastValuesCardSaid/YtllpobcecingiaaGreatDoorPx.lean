/-
  Regions without a copy of what follows for each guard: what 'popsQ' yields is a run in the order of the text.
-/
import Derived.Test.YtllpobcecingiaaGreatDoorPs
set_option linter.unusedVariables false
set_option linter.unusedSimpArgs false
namespace Go.Proofs.YtllpobcecingiaaGreatDoor
open Go.RowKit

theorem mapIdx_at {α β : Type} (f : Nat → α → β) : ∀ (l : List α) (k i : Nat), (mapIdx f k l)[i]? = (l[i]?).map (f (k + i))
  | [], k, i => by simp [mapIdx]
  | x :: l, k, 0 => by simp [mapIdx]
  | x :: l, k, i + 1 => by
    simp only [mapIdx, List.getElem?_cons_succ]
    rw [mapIdx_at f l (k + 1) i, show k + 1 + i = k + (i + 1) by omega]
theorem mapIdx_len0 {α β : Type} (f : Nat → α → β) : ∀ (l : List α) (k : Nat), (mapIdx f k l).length = l.length
  | [], k => rfl
  | x :: l, k => by simp [mapIdx, mapIdx_len0 f l (k + 1)]
theorem resT_nil (t : Nat) (x : TV) : resT [] t x = x := rfl
theorem resS_eq (os : OS) (st : St) : resS os st = ⟨mapIdx (resT os) 0 st.ρ, st.bx⟩ := by
  cases os with
  | nil =>
    obtain ⟨ρ, bx⟩ := st
    have : mapIdx (resT []) 0 ρ = ρ := by
      apply List.ext_getElem?
      intro i
      rw [mapIdx_at]
      cases ρ[i]? <;> rfl
    simp only [resS, this]
  | cons p os => rfl
theorem resS_get (os : OS) (st : St) (t : Nat) : (resS os st).ρ[t]? = (st.ρ[t]?).map (resT os t) := by
  rw [resS_eq, mapIdx_at, Nat.zero_add]
theorem resS_bx (os : OS) (st : St) : (resS os st).bx = st.bx := by rw [resS_eq]
theorem resT_none {os : OS} {t : Nat} (h : os.lookup t = none) (x : TV) : resT os t x = x := by unfold resT; rw [h]
theorem resT_true {os : OS} {t : Nat} {b : Bool} (h : os.lookup t = some b) (hb : b = true) (x : TV) : resT os t x = x := by unfold resT; rw [h, hb]; rfl
theorem resT_false {os : OS} {t : Nat} {b : Bool} (h : os.lookup t = some b) (hb : b = false) (x : TV) : resT os t x = (.tuple [], 0) := by unfold resT; rw [h, hb]; rfl
theorem conj_mem : ∀ {l : List Bool}, conjB l = true → ∀ b ∈ l, b = true
  | [], _, b, hb => by cases hb
  | [a], h, b, hb => by simp at hb; subst hb; exact h
  | a :: c :: l, h, b, hb => by
    simp only [conjB] at h
    cases a with
    | false => cases h
    | true =>
      rcases List.mem_cons.1 hb with rfl | hb
      · rfl
      · exact conj_mem h b hb
theorem ifNeed_inv {R : Type} {l : List Bool} {x : Option R} {r : R} (h : ifNeed l x = some r) : conjB l = true ∧ x = some r := by
  cases l with
  | nil => exact ⟨rfl, h⟩
  | cons a l =>
    simp only [ifNeed] at h
    cases hc : conjB (a :: l) with
    | false => rw [hc] at h; cases h
    | true => rw [hc] at h; exact ⟨rfl, h⟩
theorem ifNeedG_inv {R : Type} {g : Bool} {l : List Bool} {x : Option R} {r : R} (h : ifNeedG g l x = some r) : (g = true → conjB l = true) ∧ x = some r := by
  cases l with
  | nil => exact ⟨fun _ => rfl, h⟩
  | cons a l =>
    simp only [ifNeedG] at h
    cases hc : conjB (a :: l) <;> cases g <;> rw [hc] at h <;> simp at h ⊢ <;> exact h

section
variable {en : Env} {ops : Array Oper}
/-- a slot that is there -/
theorem ev_there {os : OS} {st : St} {x : Operand} (h : ∀ b, optOf os x = some b → b = true) (t : TypeId) : ev en (resS os st) t x = ev en st t x := by
  refine ev_congr (fun u hu => ?_) t
  subst hu
  rw [resS_get]
  cases hl : os.lookup u with
  | none => cases st.ρ[u]? <;> simp [resT_none hl]
  | some b => cases st.ρ[u]? <;> simp [resT_true hl (h b hl)]
theorem ev_gone {os : OS} {st : St} {u : Nat} (h : optOf os (.tmp u) = some false) (hx : (ev en st 0 (.tmp u)).1 ≠ .undef) (t : TypeId) : ev en (resS os st) t (.tmp u) = (.tuple [], 0) := by
  simp only [ev, List.getD, resS_get] at hx ⊢
  cases hr : st.ρ[u]? with
  | none => rw [hr] at hx; exact (hx rfl).elim
  | some y => simp [resT_false h rfl]
/-- the pairs are so -/
def holdsL (l : List (Nat × Bool)) (s : St) : Prop := ∀ p ∈ l, ∃ c, s.ρ[p.1]? = some (.bool p.2, c)
/-- what 'ls' says of the optional slots -/
def LInv (os : OS) (ls : LS) (s : St) : Prop := ∀ q ∈ ls, ∃ b, os.lookup q.1 = some b ∧ (b = true ↔ holdsL q.2 s)
theorem lookup_memL {u : Nat} {l : List (Nat × Bool)} : ∀ {ls : LS}, ls.lookup u = some l → (u, l) ∈ ls
  | [], h => by cases h
  | (a, x) :: ls, h => by
    rw [List.lookup_cons] at h
    split at h
    · rename_i e
      have e : u = a := by simpa using e
      injection h with h
      subst e h
      exact List.mem_cons_self
    · exact List.mem_cons_of_mem _ (lookup_memL h)
theorem subL_holds {l L : List (Nat × Bool)} {s : St} (h : subL l L = true) (hL : holdsL L s) : holdsL l s := by
  intro p hp
  have := List.all_eq_true.1 h p hp
  obtain ⟨q, hq, e⟩ := List.any_eq_true.1 this
  simp only [Bool.and_eq_true, beq_iff_eq] at e
  rw [e.1, e.2]
  exact hL q hq
theorem trim_ok {os : OS} {ls : LS} {L : List (Nat × Bool)} {s : St} (hi : LInv os ls s) (hL : holdsL L s) {x : Operand} (h : ∀ b, trimO os ls L x = some b → b = true) : ∀ b, optOf os x = some b → b = true := by
  intro b hb
  unfold optOf at hb
  split at hb
  · rename_i t
    simp only [trimO] at h
    split at h
    · rename_i l hl
      split at h
      · rename_i hs
        obtain ⟨b', h1, h2⟩ := hi _ (lookup_memL hl)
        rw [hb] at h1
        injection h1 with h1
        subst h1
        exact h2.2 (subL_holds hs hL)
      · exact h b hb
    · exact h b hb
  · cases hb
theorem litC_holds {os : OS} {ls : LS} {L : List (Nat × Bool)} {st : St} {c : Operand} {t : TypeId} {b : Bool} (hL : holdsL L (resS os st)) (hc : (ev en (resS os st) t c).1 = .bool b) : holdsL (litC c b L) (resS os st) := by
  unfold litC
  split
  · rename_i u
    intro p hp
    rcases List.mem_cons.1 hp with rfl | hp
    · simp only [ev, List.getD] at hc
      rcases hr : (resS os st).ρ[u]? with _ | y
      · rw [hr] at hc; cases hc
      · rw [hr] at hc
        obtain ⟨y1, y2⟩ := y
        simp only [Option.getD_some] at hc
        exact ⟨y2, by rw [hc]⟩
    · exact hL p hp
  · exact hL
theorem presolve_res {os : OS} {ls : LS} {L : List (Nat × Bool)} {st : St} {o : Oper} (hi : LInv os ls (resS os st)) (hL : holdsL L (resS os st)) (h : conjB (needOf en st os ls L o) = true) {act : PAct} (ha : presolve en st o some = some act) : presolve en (resS os st) o some = some act := by
  have key : (∀ c a b, o.op ≠ .pick c a b) → presolve en (resS os st) o some = some act := by
    intro hne
    rw [presolve_congr (st' := st), ha]
    intro x hx t
    refine ev_there (trim_ok hi hL fun b hb => ?_) t
    refine conj_mem h b ?_
    unfold needOf
    split
    · rename_i c a b' he; exact (hne _ _ _ he).elim
    · exact List.mem_filterMap.2 ⟨x, Array.mem_toList_iff.2 hx, hb⟩
  by_cases hp : ∃ c a b, o.op = .pick c a b
  · obtain ⟨c, a, b, hp⟩ := hp
    clear key
    simp only [needOf, hp] at h
    rw [← ha]
    simp only [presolve, hp] at ha ⊢
    split at ha
    · rename_i cb hc
      rw [hc] at h
      simp only at h
      have hall := conj_mem h
      have ec : ev en (resS os st) o.type c = ev en st o.type c := ev_there (trim_ok hi hL fun b hb => hall b (List.mem_append_left _ (by rw [hb]; simp))) o.type
      have hcb : (ev en (resS os st) o.type c).1 = .bool cb := by rw [ec, hc]
      rw [ec, hc]
      simp only
      have hL' := litC_holds (ls := ls) hL hcb
      cases cb with
      | true =>
        have ea : ev en (resS os st) o.type a = ev en st o.type a := ev_there (trim_ok hi hL' fun x hx => hall x (List.mem_append_right _ (by rw [hx]; cases trimO os ls (litC c false L) b <;> simp))) o.type
        rw [ea]
        generalize (ev en (resS os st) o.type b).1 = Y
        generalize (ev en st o.type b).1 = Y'
        generalize (ev en st o.type a).1 = X
        cases X <;> first | rfl | (cases Y <;> cases Y' <;> rfl)
      | false =>
        have eb : ev en (resS os st) o.type b = ev en st o.type b := ev_there (trim_ok hi hL' fun x hx => hall x (List.mem_append_right _ (by rw [hx]; cases trimO os ls (litC c true L) a <;> simp))) o.type
        rw [eb]
        generalize (ev en (resS os st) o.type a).1 = X
        generalize (ev en st o.type a).1 = X'
        generalize (ev en st o.type b).1 = Y
        cases X <;> cases X' <;> first | rfl | (cases Y <;> rfl)
    · cases ha
  · exact key (fun c a b e => hp ⟨c, a, b, e⟩)

/-! ## acts on what is there -/
theorem putS_res {os : OS} {d : Option Tmp} {x y : TV} {st : St} {g : OS} (h1 : ∀ t, d ≠ some t → g.lookup t = os.lookup t) (h2 : ∀ t, d = some t → resT g t x = y) : resS g (putS d x st) = putS d y (resS os st) := by
  cases d with
  | none =>
    simp only [putS]
    rw [resS_eq, resS_eq]
    congr 1
    apply List.ext_getElem?
    intro i
    have e : resT g (0 + i) = resT os (0 + i) := by funext z; unfold resT; rw [h1 _ (by simp)]
    rw [mapIdx_at, mapIdx_at, e]
  | some d =>
    simp only [putS]
    rw [resS_eq, resS_eq]
    simp only [St.mk.injEq, and_true]
    apply List.ext_getElem?
    intro i
    rw [mapIdx_at]
    by_cases e : d = i
    · subst e
      rw [List.getElem?_set, List.getElem?_set]
      simp only [if_true, mapIdx_len0]
      split
      · simp [h2 d rfl]
      · rfl
    · have e2 : resT g i = resT os i := by funext z; unfold resT; rw [h1 _ (fun k => e (Option.some.inj k))]
      rw [List.getElem?_set_ne e, List.getElem?_set_ne e, mapIdx_at, Nat.zero_add, e2]
theorem delO_ne {os : OS} {d : Option Tmp} {t : Nat} (h : d ≠ some t) : (delO d os).lookup t = os.lookup t := by
  cases d with
  | none => rfl
  | some d =>
    simp only [delO]
    induction os with
    | nil => rfl
    | cons p os ih =>
      obtain ⟨a, b⟩ := p
      have hd : d ≠ t := fun e => h (by rw [e])
      by_cases e : a = d
      · subst e
        rw [List.filter_cons_of_neg (by simp), ih, List.lookup_cons]
        have : (t == a) = false := by simpa using fun e => hd e.symm
        rw [this]
      · rw [List.filter_cons_of_pos (by simpa using e), List.lookup_cons, List.lookup_cons, ih]
theorem delO_self {os : OS} {d : Nat} : (delO (some d) os).lookup d = none := by
  simp only [delO]
  induction os with
  | nil => rfl
  | cons p os ih =>
    obtain ⟨a, b⟩ := p
    by_cases e : a = d
    · subst e
      rw [List.filter_cons_of_neg (by simp), ih]
    · rw [List.filter_cons_of_pos (by simpa using e), List.lookup_cons, ih]
      have : (d == a) = false := by simpa using fun k => e k.symm
      rw [this]
theorem put_res {os : OS} {d : Option Tmp} {x : TV} {st : St} : resS (delO d os) (putS d x st) = putS d x (resS os st) :=
  putS_res (fun t h => delO_ne h) (fun t h => by subst h; exact resT_none delO_self _)
theorem setO_res {os : OS} {d : Option Tmp} {g : Bool} {x : TV} {st : St} : resS (setO d g os) (putS d x st) = putS d (bif g then x else (.tuple [], 0)) (resS os st) := by
  refine putS_res (fun t h => ?_) (fun t h => ?_)
  · cases d with
    | none => rfl
    | some d =>
      simp only [setO, List.lookup_cons]
      have : (t == d) = false := by simpa using fun e : t = d => h (by rw [e])
      rw [this]
  · subst h
    simp only [setO, resT, List.lookup_cons, beq_self_eq_true]
theorem papply_res {os : OS} {act : PAct} {d : Option Tmp} {st st' : St} (ho : (os.isEmpty || !isOwn act) = true) (h : papply act d st = some st') : papply act d (resS os st) = some (resS (delO d os) st') := by
  have hv : isVal act = true → papply act d (resS os st) = some (resS (delO d os) st') := by
    intro hv
    obtain ⟨x, h1, rfl⟩ := (papply_v hv).1 h
    rw [put_res]
    exact (papply_v hv).2 ⟨x, by rw [resS_bx]; exact h1, rfl⟩
  cases act with
  | skip => exact hv rfl
  | val v c => exact hv rfl
  | load id off n agg => exact hv rfl
  | store id off cells =>
    simp only [papply] at h ⊢
    rw [resS_bx]
    split at h
    · rename_i cs hb
      obtain ⟨h1, h⟩ := ite_inv h
      rw [if_pos h1]
      injection h with h
      subst h
      rw [resS_eq, resS_eq]
      rfl
    · cases h
  | mk cells =>
    simp only [papply] at h ⊢
    rw [resS_bx]
    split at h
    · rename_i d
      split at h
      · rename_i hb
        injection h with h
        subst h
        have := put_res (os := os) (d := some d) (x := (.ptr d 0, 0)) (st := st)
        rw [resS_eq, resS_eq] at this
        simp only [putS, St.mk.injEq] at this
        rw [resS_eq, resS_eq]
        simp only [this.1]
      · cases h
    · cases h
  | own c v =>
    simp only [isOwn, Bool.not_true, Bool.or_false] at ho
    have : os = [] := by cases os <;> simp_all
    subst this
    rw [show resS [] st = st from rfl, h]
    cases d <;> rfl

/-! ## what is said of the optional slots, after a write -/
theorem putS_other {d : Option Tmp} {y : TV} {s : St} {t : Nat} (h : d ≠ some t) : (putS d y s).ρ[t]? = s.ρ[t]? := by
  cases d with
  | none => rfl
  | some d => simp only [putS]; rw [List.getElem?_set_ne (fun e => h (by rw [e]))]
theorem holdsL_congr {l : List (Nat × Bool)} {s s' : St} (h : ∀ p ∈ l, s'.ρ[p.1]? = s.ρ[p.1]?) : holdsL l s' ↔ holdsL l s := by
  constructor
  · intro k p hp; rw [← h p hp]; exact k p hp
  · intro k p hp; rw [h p hp]; exact k p hp
theorem del_inv {os os' : OS} {ls : LS} {d : Option Tmp} {s : St} {y : TV} (hi : LInv os ls s) (ho : ∀ t, d ≠ some t → os'.lookup t = os.lookup t) : LInv os' (delL d ls) (putS d y s) := by
  cases d with
  | none =>
    intro q hq
    obtain ⟨b, h1, h2⟩ := hi q hq
    exact ⟨b, by rw [ho _ (by simp)]; exact h1, h2⟩
  | some d =>
    intro q hq
    simp only [delL, List.mem_filter, Bool.and_eq_true, bne_iff_ne, Bool.not_eq_true', ne_eq] at hq
    obtain ⟨hq, n1, n2⟩ := hq
    obtain ⟨b, h1, h2⟩ := hi q hq
    refine ⟨b, by rw [ho _ (fun e => n1 (Option.some.inj e).symm)]; exact h1, h2.trans (holdsL_congr fun p hp => ?_).symm⟩
    refine putS_other fun e => ?_
    have := List.any_eq_false.1 n2 p hp
    simp only [beq_iff_eq] at this
    exact this (Option.some.inj e).symm
theorem nil_inv {os : OS} {s : St} : LInv os [] s := fun q hq => by cases hq
theorem setO_ne {os : OS} {d : Option Tmp} {g : Bool} {t : Nat} (h : d ≠ some t) : (setO d g os).lookup t = os.lookup t := by
  cases d with
  | none => rfl
  | some d =>
    simp only [setO, List.lookup_cons]
    have : (t == d) = false := by simpa using fun e : t = d => h (by rw [e])
    rw [this]
/-- the guard of an operation, as pairs -/
theorem lit_ok {os : OS} {ls : LS} {s : St} {t : Nat} {want : Bool} (hi : LInv os ls s) {l : List (Nat × Bool)} (h : litOf os ls t want = some l) {g : Bool} (hg : g = true ↔ (∃ c, s.ρ[t]? = some (.bool want, c))) (hp : ∀ b, os.lookup t = some b → (∃ c, s.ρ[t]? = some (.bool want, c)) → b = true) : g = true ↔ holdsL l s := by
  unfold litOf at h
  split at h
  · injection h with h
    subst h
    rw [hg]
    constructor
    · intro k p hp
      simp only [List.mem_singleton] at hp
      subst hp
      exact k
    · intro k; exact k (t, want) (by simp)
  · rename_i b hb
    obtain ⟨l', h1, rfl⟩ := Option.map_eq_some_iff.1 h
    obtain ⟨b', h2, h3⟩ := hi _ (lookup_memL h1)
    rw [hb] at h2
    injection h2 with h2
    subst h2
    rw [hg]
    constructor
    · intro k p hm
      rcases List.mem_cons.1 hm with rfl | hm
      · exact k
      · exact h3.1 (hp b hb k) p hm
    · intro k; exact k (t, want) (by simp)
theorem set_inv {os : OS} {ls : LS} {d : Option Tmp} {s : St} {y : TV} {g : Bool} {ol : Option (List (Nat × Bool))} (hi : LInv os ls s) (hl : ∀ l, ol = some l → (g = true ↔ holdsL l s)) : LInv (setO d g os) (setL d ol (delL d ls)) (putS d y s) := by
  have h0 : LInv (setO d g os) (delL d ls) (putS d y s) := del_inv hi fun t h => setO_ne h
  unfold setL
  split
  · rename_i d l
    split
    · exact h0
    · rename_i hn
      intro q hq
      rcases List.mem_cons.1 hq with rfl | hq
      · refine ⟨g, by simp [setO], (hl l rfl).trans (holdsL_congr fun p hp => ?_).symm⟩
        refine putS_other fun e => hn ?_
        exact List.any_eq_true.2 ⟨p, hp, by simpa using (Option.some.inj e).symm⟩
      · exact h0 q hq
  · exact h0

/-! ## the run -/
/-- the acts that are done, against those that are written down -/
def done : List PAct → List PAct → Prop
  | [], [] => True
  | a :: as, b :: bs => (a = b ∨ a = .skip) ∧ done as bs
  | _, _ => False
theorem guard_no {o : Oper} {st : St} (h : o.guard = none) : guardT ops o st = some true := by unfold guardT; rw [h]
theorem guard_nd {o : Oper} {st : St} {j : Nat} {want : Bool} (h : o.guard = some (j, want)) (hd : (ops[j]?).bind (·.dst) = none) : guardT ops o st = some false := by unfold guardT; rw [h]; simp only; rw [hd]
theorem guard_at {o : Oper} {st : St} {j : Nat} {want : Bool} {t : Nat} (h : o.guard = some (j, want)) (hd : (ops[j]?).bind (·.dst) = some t) : guardT ops o st = match st.ρ[t]? with
      | some (.bool b, _) => some (b == want)
      | some (.tuple [], _) => some false
      | _ => none := by unfold guardT; rw [h]; simp only; rw [hd]; rfl
theorem st_set {st : St} {t : Nat} {x : TV} (h : st.ρ[t]? = some x) : { st with ρ := st.ρ.set t x } = st := by rw [set_same h]
theorem know1_res {os : OS} {st : St} {p : Nat × Bool} (h : ∃ c, (resS os st).ρ[p.1]? = some (.bool p.2, c)) : resS (know1 p (st, os)).2 (know1 p (st, os)).1 = resS os st := by
  obtain ⟨t, w⟩ := p
  obtain ⟨c, h⟩ := h
  unfold know1
  simp only
  split
  · rename_i x c' hr
    have hx : (resS os st).ρ[t]? = some (.bool w, c') := by
      rw [resS_get, hr] at h ⊢
      simp only [Option.map_some, Option.some.injEq] at h ⊢
      unfold resT at h ⊢
      cases hl : os.lookup t with
      | none => rw [hl] at h; simp only [Prod.mk.injEq] at h ⊢; exact ⟨h.1, trivial⟩
      | some b =>
        rw [hl] at h
        cases b with
        | true => simp only [cond_true, Prod.mk.injEq] at h ⊢; exact ⟨h.1, trivial⟩
        | false => simp at h
    have := put_res (os := os) (d := some t) (x := (.bool w, c')) (st := st)
    simp only [putS] at this ⊢
    rw [this, st_set hx]
  · rfl
theorem know_res {os : OS} {st : St} : ∀ (L : List (Nat × Bool)), holdsL L (resS os st) → resS (knowL L (st, os)).2 (knowL L (st, os)).1 = resS os st
  | [], _ => rfl
  | p :: L, h => by
    have ih := know_res L (fun q hq => h q (List.mem_cons_of_mem _ hq))
    simp only [knowL]
    have := know1_res (os := (knowL L (st, os)).2) (st := (knowL L (st, os)).1) (p := p) (by rw [ih]; exact h p List.mem_cons_self)
    rw [this, ih]
theorem know_lookup {st : St} {os : OS} {u : Nat} : ∀ (L : List (Nat × Bool)), (∀ p ∈ L, p.1 ≠ u) → (knowL L (st, os)).2.lookup u = os.lookup u
  | [], _ => rfl
  | p :: L, h => by
    have ih := know_lookup (st := st) (os := os) L (fun q hq => h q (List.mem_cons_of_mem _ hq))
    simp only [knowL, know1]
    split
    · rw [delO_ne (fun e => h p List.mem_cons_self (Option.some.inj e)), ih]
    · exact ih
theorem drop_inv {os : OS} {ls : LS} {st : St} {s : St} (L : List (Nat × Bool)) (hi : LInv os ls s) : LInv (knowL L (st, os)).2 (dropL L ls) s := by
  intro q hq
  simp only [dropL, List.mem_filter, Bool.not_eq_true'] at hq
  obtain ⟨b, h1, h2⟩ := hi q hq.1
  refine ⟨b, ?_, h2⟩
  rw [know_lookup L (fun p hp e => ?_), h1]
  have := List.any_eq_false.1 hq.2 p hp
  simp only [beq_iff_eq] at this
  exact this e
theorem popsQ_lex {R : Type} (hE : ∀ f fn, en.E f = some fn → fn.nat) : ∀ (rest : List Oper) (acc : List PAct) (st : St) (os : OS) (ls : LS) (kn : OS) (k : St → List PAct → Option R) (r : R), LInv os ls (resS os st) → popsQ en ops rest acc st os ls kn k = some r →
    ∃ acts' acts st', lexRun en ops rest acts' (resS os st) st' ∧ done acts' acts ∧ k st' (acts.reverse ++ acc) = some r
  | [], acc, st, os, ls, kn, k, r, hi, h => ⟨[], [], _, rfl, trivial, h⟩
  | o :: rest, acc, st, os, ls, kn, k, r, hi, h => by
    -- an operation that is carried out
    have run : ∀ (os : OS) (ls : LS) (st : St) (L : List (Nat × Bool)) (kn : OS), LInv os ls (resS os st) → holdsL L (resS os st) → guardT ops o (resS os st) = some true → (ifNeed (needOf en st os ls L o) (presolve en st o fun act =>
        if os.isEmpty || !isOwn act then match papply act o.dst st with
          | some st' => popsQ en ops rest (act :: acc) st' (delO o.dst os) (if isVal act then delL o.dst ls else []) kn k
          | none => none
        else none)) = some r → ∃ acts' acts st', lexRun en ops (o :: rest) acts' (resS os st) st' ∧ done acts' acts ∧ k st' (acts.reverse ++ acc) = some r := by
      intro os ls st L kn hi hL hg h
      obtain ⟨h1, h⟩ := ifNeed_inv h
      rw [presolve_nat en hE] at h
      obtain ⟨act, ha, h⟩ := bind_some_inv h
      obtain ⟨ho, h⟩ := ite_inv h
      split at h
      · rename_i st1 hp
        have hi' : LInv (delO o.dst os) (if isVal act then delL o.dst ls else []) (resS (delO o.dst os) st1) := by
          split
          · rename_i hv
            obtain ⟨v, h5, rfl⟩ := (papply_v hv).1 hp
            rw [put_res]
            exact del_inv hi fun t h => delO_ne h
          · exact nil_inv
        obtain ⟨acts', acts, st', h2, h3, h4⟩ := popsQ_lex hE rest _ _ _ _ _ _ _ hi' h
        exact ⟨act :: acts', act :: acts, st', ⟨_, .inl ⟨hg, presolve_res hi hL h1 ha, papply_res ho hp⟩, h2⟩, ⟨.inl rfl, h3⟩, by simpa using h4⟩
      · cases h
    -- one that is not wanted
    have skip : ∀ (st : St) (kn : OS), LInv os ls (resS os st) → guardT ops o (resS os st) = some false → popsQ en ops rest (.skip :: acc) (putS o.dst (.tuple [], 0) st) (delO o.dst os) (delL o.dst ls) kn k = some r →
        ∃ acts' acts st', lexRun en ops (o :: rest) acts' (resS os st) st' ∧ done acts' acts ∧ k st' (acts.reverse ++ acc) = some r := by
      intro st kn hi hg h
      obtain ⟨acts', acts, st', h2, h3, h4⟩ := popsQ_lex hE rest _ _ _ _ _ _ _ (by rw [put_res]; exact del_inv hi fun t h => delO_ne h) h
      exact ⟨.skip :: acts', .skip :: acts, st', ⟨_, .inr ⟨hg, rfl, rfl⟩, by rw [put_res] at h2; exact h2⟩, ⟨.inl rfl, h3⟩, by simpa using h4⟩
    -- one that is not wanted, its guard not being there
    have junk : ∀ (kn : OS) (t : Nat) (want : Bool), (∀ l, litOf os ls t want = some l → (false = true ↔ holdsL l (resS os st))) → guardT ops o (resS os st) = some false → popsQ en ops rest (.skip :: acc) (putS o.dst (junkV en.P o.type) st) (setO o.dst false os) (setL o.dst (litOf os ls t want) (delL o.dst ls)) kn k = some r →
        ∃ acts' acts st', lexRun en ops (o :: rest) acts' (resS os st) st' ∧ done acts' acts ∧ k st' (acts.reverse ++ acc) = some r := by
      intro kn t want hlit hg h
      obtain ⟨acts', acts, st', h2, h3, h4⟩ := popsQ_lex hE rest _ _ _ _ _ _ _ (by rw [setO_res]; exact set_inv hi hlit) h
      rw [setO_res] at h2
      exact ⟨.skip :: acts', .skip :: acts, st', ⟨_, .inr ⟨hg, rfl, rfl⟩, h2⟩, ⟨.inl rfl, h3⟩, by simpa using h4⟩
    have hnil : holdsL [] (resS os st) := fun p hp => by cases hp
    simp only [popsQ] at h
    split at h
    · rename_i hg
      exact run _ _ st _ kn hi hnil (guard_no hg) h
    · rename_i j want hg
      split at h
      · rename_i hd
        exact skip st kn hi (guard_nd hg hd) h
      · rename_i t hd
        have gt := fun s => guard_at (st := s) hg hd
        split at h
        · rename_i c hr
          split at h
          · rename_i hl
            refine skip st kn hi ?_ h
            rw [gt, resS_get, hr]
            simp only [Option.map_some, resT_none hl]
          · cases h
        · rename_i x c hr
          obtain ⟨g, hgd⟩ : ∃ g : Bool, g = guardB (os.lookup t) want x := ⟨_, rfl⟩
          have hgt : guardT ops o (resS os st) = some g ∧ (g = true ↔ ∃ c, (resS os st).ρ[t]? = some (.bool want, c)) ∧ (∀ b, os.lookup t = some b → (∃ c, (resS os st).ρ[t]? = some (.bool want, c)) → b = true) := by
            rw [gt, resS_get, hr, hgd]
            unfold guardB
            cases hl : os.lookup t with
            | none => simp only [Option.map_some, resT_none hl]; cases x <;> cases want <;> simp
            | some b =>
              cases b with
              | true => simp only [Option.map_some, resT_true hl]; cases x <;> cases want <;> simp
              | false => simp only [Option.map_some, resT_false hl]; simp
          obtain ⟨hgt, hgw, hgp⟩ := hgt
          split at h
          · rename_i b hk hl
            rcases hb : (x == b) with _ | _ <;> rw [hb] at h
            · cases h
            · simp only [cond_true] at h
              have hx : x = b := by simpa using hb
              subst hx
              have hrt : (resS os st).ρ[t]? = some (.bool x, c) := by rw [resS_get, hr]; simp only [Option.map_some, resT_none hl]
              have hgt : guardT ops o (resS os st) = some (x == want) := by rw [gt, hrt]
              split at h
              · rename_i hw
                refine run _ _ st _ kn hi ?_ (by rw [hgt, hw]) h
                intro p hp
                simp only [List.mem_singleton] at hp
                subst hp
                exact ⟨c, by rw [hrt, show x = want by simpa using hw]⟩
              · rename_i hw
                exact skip st kn hi (by rw [hgt]; simpa using hw) h
          · rename_i w b hk hl
            obtain ⟨hw, h⟩ := ite_inv h
            rw [hl] at hgd
            rw [← hgd] at h
            cases g with
            | true => cases h
            | false => exact junk _ t want (fun l hl => lit_ok hi hl hgw hgp) hgt h
          · rename_i ob hk
            split at h
            · rw [← hgd] at h
              obtain ⟨h1, h⟩ := ifNeedG_inv h
              rw [presolve_nat en hE] at h
              obtain ⟨act, ha, h⟩ := bind_some_inv h
              obtain ⟨hv, h⟩ := ite_inv h
              split at h
              · rename_i v hav
                have hlit : ∀ l, litOf os ls t want = some l → (g = true ↔ holdsL l (resS os st)) := fun l hl => lit_ok hi hl hgw hgp
                obtain ⟨acts', acts, st', h2, h3, h4⟩ := popsQ_lex hE rest _ _ _ _ _ _ _ (by rw [setO_res]; exact set_inv hi hlit) h
                rw [setO_res] at h2
                have hLg : g = true → holdsL ((litOf os ls t want).getD []) (resS os st) := by
                  intro hg1
                  cases hlo : litOf os ls t want with
                  | none => exact hnil
                  | some l => exact (hlit l hlo).1 hg1
                cases g with
                | true => exact ⟨act :: acts', act :: acts, st', ⟨_, .inl ⟨hgt, presolve_res hi (hLg rfl) (h1 rfl) ha, (papply_v hv).2 ⟨v, by rw [resS_bx]; exact hav, rfl⟩⟩, h2⟩, ⟨.inl rfl, h3⟩, by simpa using h4⟩
                | false => exact ⟨.skip :: acts', act :: acts, st', ⟨_, .inr ⟨hgt, rfl, rfl⟩, h2⟩, ⟨.inr rfl, h3⟩, by simpa using h4⟩
              · cases h
            · split at h
              · rename_i b hob
                rw [hob] at hgd
                rw [← hgd] at h
                have hlit : ∀ l, litOf os ls t want = some l → (g = true ↔ holdsL l (resS os st)) := fun l hl => lit_ok hi hl hgw hgp
                have hLg : g = true → holdsL ((litOf os ls t want).getD []) (resS os st) := by
                  intro hg1
                  cases hlo : litOf os ls t want with
                  | none => exact hnil
                  | some l => exact (hlit l hlo).1 hg1
                cases g with
                | true =>
                  simp only [cond_true] at h
                  have e := know_res _ (hLg rfl)
                  have := run _ _ _ _ _ (by rw [e]; exact drop_inv _ hi) (by rw [e]; exact hLg rfl) (by rw [e]; exact hgt) h
                  rw [e] at this
                  exact this
                | false => exact junk _ t want hlit hgt h
              · rename_i hob
                rw [hob] at hgd
                simp only [guardB] at hgd
                have hs : ∀ b, x = b → ({ st with ρ := st.ρ.set t (.bool b, c) } : St) = st := by rintro b rfl; exact st_set hr
                have hLw : g = true → holdsL [(t, want)] (resS os st) := by
                  intro hg1 p hp
                  simp only [List.mem_singleton] at hp
                  subst hp
                  exact hgw.1 hg1
                cases want <;> cases x <;> simp only [Bool.false_eq_true, if_true, if_false, Bool.not_true, Bool.not_false, cond_true, cond_false] at h hgd hs <;> rw [hs _ rfl] at h <;> subst hgd
                · exact run _ _ st _ _ hi (hLw rfl) hgt h
                · exact skip st _ hi hgt h
                · exact skip st _ hi hgt h
                · exact run _ _ st _ _ hi (hLw rfl) hgt h
        · cases h
end

end Go.Proofs.YtllpobcecingiaaGreatDoor
