/-
  Regions, code and functions: what the evaluator yields, the machine does.
-/
import Derived.Test.YtllpobcecingiaaGreatDoorPx
set_option linter.unusedVariables false
set_option linter.unusedSimpArgs false
namespace Go.Proofs.YtllpobcecingiaaGreatDoor
open Go.RowKit

section
variable {en : Env} {ops : Array Oper}
theorem lexRun_get : ∀ (l : List Oper) (as : List PAct) (st st' : St), lexRun en ops l as st st' → l.length = as.length
  | [], [], _, _, _ => rfl
  | o :: l, a :: as, st, st', h => by
    obtain ⟨st1, _, h⟩ := h
    simp [lexRun_get l as st1 st' h]
  | [], _ :: _, _, _, h => h.elim
  | _ :: _, [], _, _, h => h.elim

theorem pAny_lex (hE : ∀ f fn, en.E f = some fn → fn.nat) {acts : List PAct} {Q : St → Prop} (hind : ∀ i j, i < j → j < ops.size → indepAt en.P ops acts i j = true) : ∀ (l : List Oper) (as : List PAct) (k : Nat) (listed : Array Bool) (st st' : St), (∀ j, l[j]? = ops[k + j]?) → (∀ j, as[j]? = acts[k + j]?) →
    (∀ j, j < k → listed.getD j true = true) → Region.lexFrom .any ops l.length k listed = true → lexRun en ops l as st st' → Q st' → pAny en ops (actAt acts) Q l.length listed st
  | [], [], k, listed, st, st', _, _, _, hB, h, hQ => by
    simp only [lexRun] at h
    subst h
    exact ⟨by simpa [Region.lexFrom] using hB, hQ⟩
  | o :: l, act :: as, k, listed, st, st', hl, ha, hlist, hB, h, hQ => by
    have h0 : ops[k]? = some o := by simpa using (hl 0).symm
    have ha0 : actAt acts k = act := by
      have := ha 0
      simp only [List.getElem?_cons_zero, Nat.add_zero] at this
      simp [actAt, List.getD, ← this]
    simp only [List.length_cons, Region.lexFrom, Bool.and_eq_true] at hB
    obtain ⟨⟨hr, hf⟩, hB'⟩ := hB
    obtain ⟨st1, h1, h2⟩ := h
    have hk : k < ops.size := (Array.getElem?_eq_some_iff.1 h0).1
    refine pAny_first hE h0 l.length listed st st1 ?_ (by simpa using hr) (by rw [ha0]; exact h1) ?_
    · intro j oj hj hne hun hno
      refine ⟨Region.free_spec h0 hf j oj hj hne hun hno, ?_⟩
      have hlt : k < j := by
        rcases Nat.lt_or_ge j k with h' | h'
        · rw [hlist j h'] at hun; cases hun
        · omega
      have := hind k j hlt (Array.getElem?_eq_some_iff.1 hj).1
      simp only [indepAt, h0, hj, Bool.or_eq_true] at this
      rcases this with h' | h'
      · unfold waitsFor at h'
        rw [Array.any_eq_true'] at h'
        obtain ⟨e, he, hb⟩ := h'
        simp only [Bool.and_eq_true, beq_iff_eq] at hb
        exact (hno e he hb.1 hb.2).elim
      · exact h'
    · refine pAny_lex hE hind l as (k + 1) _ st1 st' (fun j => by have := hl (j + 1); simpa [Nat.add_assoc, Nat.add_comm 1 j] using this) (fun j => by have := ha (j + 1); simpa [Nat.add_assoc, Nat.add_comm 1 j] using this) (fun j hj => ?_) hB' h2 hQ
      by_cases hjk : k = j
      · subst hjk
        by_cases hs : k < listed.size
        · simp [hs]
        · simp [Array.getElem?_eq_none (by simpa using hs : (listed.setIfInBounds k true).size ≤ k)]
      · rw [getD_set_ne true hjk]
        exact hlist j (by omega)
  | [], _ :: _, _, _, _, _, _, _, _, _, h, _ => h.elim
  | _ :: _, [], _, _, _, _, _, _, _, _, h, _ => h.elim

theorem indepAll_spec {P : Program} {acts : List PAct} (h : indepAll P ops acts = true) : ∀ i j, i < j → j < ops.size → indepAt P ops acts i j = true := by
  intro i j hij hj
  unfold indepAll at h
  rw [List.all_eq_true] at h
  have := h i (List.mem_range.2 (by omega))
  rw [List.all_eq_true] at this
  have := this j (List.mem_range.2 hj)
  simp only [Bool.or_eq_true, decide_eq_true_eq] at this
  exact this.resolve_left (by omega)
end

section
variable {en : Env} {NG : Nat} {W : World → Prop}
theorem EnvOK.nat (hE : EnvOK en NG W) : ∀ f fn, en.E f = some fn → fn.nat := fun f fn h => (hE.fns f fn h).nat

theorem done_at : ∀ {as bs : List PAct}, done as bs → ∀ i, actAt as i = actAt bs i ∨ actAt as i = .skip
  | [], [], _, i => .inl rfl
  | a :: as, b :: bs, h, 0 => h.1
  | a :: as, b :: bs, h, i + 1 => by
    have := done_at h.2 i
    simpa [actAt] using this
  | [], _ :: _, h, _ => h.elim
  | _ :: _, [], h, _ => h.elim
theorem indep_skip {di dj : Option Tmp} {fi fj : Bool} {a a' b b' : PAct} (h : indep di dj fi fj a b = true) (ha : a' = a ∨ a' = .skip) (hb : b' = b ∨ b' = .skip) : indep di dj fi fj a' b' = true := by
  rcases ha with rfl | rfl
  · rcases hb with rfl | rfl
    · exact h
    · cases a' <;> rfl
  · rfl
theorem indepAll_done {P : Program} {ops : Array Oper} {as bs : List PAct} (hd : done as bs) (h : indepAll P ops bs = true) : indepAll P ops as = true := by
  unfold indepAll at *
  simp only [List.all_eq_true] at *
  intro i hi j hj
  have := h i hi j hj
  simp only [Bool.or_eq_true] at *
  refine this.imp id fun k => ?_
  unfold indepAt at *
  split
  · rename_i oi oj h1 h2
    rw [h1, h2] at k
    simp only [Bool.or_eq_true] at *
    exact k.imp id fun q => indep_skip q (done_at hd i) (done_at hd j)
  · rfl

theorem region_sim {R : Type} (hE : EnvOK en NG W) {M0 : Mem} (hG : GOK en M0) (hW : W M0.w) {id : Nat} {ops : Array Oper} {draw : Bool} {st : St} {k : St → Option R} {r : R} (h : pregion en ops draw st k = some r)
    {a : Act} {M : Mem} {β κ : Nat → Option Nat} (hI : Inv NG M0 st a M β κ) {Q : Exit → Act → World → Prop} (hn : ∀ st' a' M' β' κ', Inv NG M0 st' a' M' β' κ' → k st' = some r → Q .normal a' M'.w) : (Code.region id ops draw).wp en.P Q a M.w := by
  unfold pregion at h
  obtain ⟨hok, h⟩ := ite_inv h
  have hok : ∀ o ∈ ops.toList, opOK en.P o = true := by simpa only [List.all_eq_true] using hok
  cases draw with
  | false =>
    simp only [Bool.false_eq_true, if_false] at h
    obtain ⟨acts, _, st', h1, _, h2⟩ := popsQ_lex hE.nat _ _ _ _ _ _ _ _ nil_inv h
    exact wp_region_list (lex_sim hE hG hW ops.toList acts st st' h1 hok a M β κ hI fun a' M' β' κ' hI' => hn st' a' M' β' κ' hI' h2)
  | true =>
    simp only [if_true] at h
    obtain ⟨hlex, h⟩ := ite_inv h
    obtain ⟨acts, acts2, st', h1, hd, h2⟩ := popsQ_lex hE.nat _ _ _ _ _ _ _ _ nil_inv h
    obtain ⟨hind2, h2⟩ := ite_inv h2
    simp only [List.append_nil, List.reverse_reverse] at hind2 h2
    have hind := indepAll_done hd hind2
    simp only [Region.lexB, Bool.and_eq_true] at hlex
    have hany := pAny_lex hE.nat (Q := fun s => s = st') (indepAll_spec hind) ops.toList acts 0 (Array.replicate ops.size false) st st' (by simp) (by simp) (fun j hj => absurd hj (by omega)) (by simpa using hlex.2) h1 rfl
    refine wp_region_any hE.mixed ?_
    have hI1 := hI.grow (M' := ⟨M.w.drew, M.U⟩) (Move.world (Below.refl _ _).drew)
    have := any_sim hE hG hW (Q := Q) hok (fun s a M β κ hs hI' => by subst hs; exact hn _ a M β κ hI' h2) ops.toList.length _ st hany a ⟨M.w.drew, M.U⟩ β κ hI1
    simpa using this

/-! ## code -/
theorem cond_ok {M0 : Mem} (hG : GOK en M0) {st : St} {a : Act} {M : Mem} {β κ : Nat → Option Nat} (hI : Inv NG M0 st a M β κ) {c : Operand} {t : Bool} (h : (ev en st 0 c).1 = .bool t) : a.eval c = .bool t := by
  have := (hI.ev hG 0 c).1
  rw [h] at this
  exact this

theorem mapIdx_get {α β : Type} (f : Nat → α → β) : ∀ (l : List α) (k i : Nat), (mapIdx f k l)[i]? = (l[i]?).map (f (k + i))
  | [], k, i => by simp [mapIdx]
  | x :: l, k, 0 => by simp [mapIdx]
  | x :: l, k, i + 1 => by
    simp only [mapIdx, List.getElem?_cons_succ]
    rw [mapIdx_get f l (k + 1) i]
    congr 2
    omega
theorem mapIdx_len {α β : Type} (f : Nat → α → β) : ∀ (l : List α) (k : Nat), (mapIdx f k l).length = l.length
  | [], k => rfl
  | x :: l, k => by simp [mapIdx, mapIdx_len f l]

theorem lookup_mem {α : Type _} : ∀ {l : List (Nat × α)} {k : Nat} {v : α}, l.lookup k = some v → (k, v) ∈ l
  | [], k, v, h => by simp at h
  | (a, b) :: l, k, v, h => by
    rw [List.lookup_cons] at h
    by_cases e : k = a
    · subst e
      simp at h
      subst h
      exact List.mem_cons_self
    · have : (k == a) = false := by simpa using e
      rw [this] at h
      exact List.mem_cons_of_mem _ (lookup_mem h)

theorem distinct_spec {α : Type} : ∀ {l : List Nat}, distinct l = true → l.Nodup
  | [], _ => List.nodup_nil
  | x :: l, h => by
    simp only [distinct, Bool.and_eq_true, Bool.not_eq_true', List.contains_eq_mem, decide_eq_false_iff_not] at h
    exact List.nodup_cons.2 ⟨h.1, distinct_spec (α := α) h.2⟩

theorem nodup_filterMap {α β : Type} (f : α → Option β) : ∀ {l : List α}, (l.filterMap f).Nodup → ∀ {p q : α} {v : β}, p ∈ l → q ∈ l → f p = some v → f q = some v → p = q
  | [], _, p, q, v, hp, _, _, _ => by cases hp
  | x :: l, h, p, q, v, hp, hq, h1, h2 => by
    rcases hx : f x with _ | u
    · rw [List.filterMap_cons_none hx] at h
      have e1 : p ∈ l := by
        rcases List.mem_cons.1 hp with e | e
        · rw [e, hx] at h1; cases h1
        · exact e
      have e2 : q ∈ l := by
        rcases List.mem_cons.1 hq with e | e
        · rw [e, hx] at h2; cases h2
        · exact e
      exact nodup_filterMap f h e1 e2 h1 h2
    · rw [List.filterMap_cons_some hx, List.nodup_cons] at h
      rcases List.mem_cons.1 hp with e1 | e1 <;> rcases List.mem_cons.1 hq with e2 | e2
      · rw [e1, e2]
      · rw [e1, hx] at h1
        injection h1 with h1
        subst h1
        exact (h.1 (List.mem_filterMap.2 ⟨q, e2, h2⟩)).elim
      · rw [e2, hx] at h2
        injection h2 with h2
        subst h2
        exact (h.1 (List.mem_filterMap.2 ⟨p, e1, h1⟩)).elim
      · exact nodup_filterMap f h.2 e1 e2 h1 h2

/-- the claims' names behind a cut -/
def normκ (kp : Keep) (st : St) (κ : Nat → Option Nat) (tag : Nat) : Option Nat :=
  if st.ρ.length + 2 ≤ tag then
    match kp.slots.lookup (tag - (st.ρ.length + 2)), st.ρ[tag - (st.ρ.length + 2)]? with
    | some true, some x => if 2 ≤ x.2 then κ x.2 else none
    | _, _ => none
  else none
theorem normκ_spec {kp : Keep} {st : St} {κ : Nat → Option Nat} {tag g : Nat} (h : normκ kp st κ tag = some g) : ∃ t x, tag = st.ρ.length + 2 + t ∧ kp.slots.lookup t = some true ∧ st.ρ[t]? = some x ∧ 2 ≤ x.2 ∧ κ x.2 = some g := by
  unfold normκ at h
  obtain ⟨h1, h⟩ := ite_inv h
  split at h
  · rename_i x h2 h3
    obtain ⟨h4, h⟩ := ite_inv h
    exact ⟨tag - (st.ρ.length + 2), x, by omega, h2, h3, h4, h⟩
  · cases h
theorem normκ_mk {kp : Keep} {st : St} {κ : Nat → Option Nat} {t : Nat} {x : TV} (h1 : kp.slots.lookup t = some true) (h2 : st.ρ[t]? = some x) (h3 : 2 ≤ x.2) : normκ kp st κ (st.ρ.length + 2 + t) = κ x.2 := by
  unfold normκ
  rw [if_pos (by omega), show st.ρ.length + 2 + t - (st.ρ.length + 2) = t by omega, h1, h2]
  simp only
  rw [if_pos h3]

theorem keptPV_rel {M : Mem} {β : Nat → Option Nat} {bs : List Nat} {x : PV} {v : Value} (h : RelS M β x v) : RelS M (fun id => if bs.contains id then β id else none) (keptPV bs x) v := by
  cases x with
  | ptr id off =>
    simp only [keptPV]
    split
    · rename_i hc
      obtain ⟨b, h1, h2⟩ := h
      exact ⟨b, by simp only [hc, if_true]; exact h1, h2⟩
    · exact trivial
  | eptr cs => exact h
  | clo f caps =>
    cases caps with
    | nil => exact h
    | cons c cs => exact trivial
  | _ => exact h

/-- what is kept stays related -/
theorem Inv.norm {M0 : Mem} {st : St} {a : Act} {M : Mem} {β κ : Nat → Option Nat} (hI : Inv NG M0 st a M β κ) {kp : Keep} (hok : normOK kp st = true) :
    ∃ β' κ', Inv NG M0 ⟨mapIdx (normSlot kp st.ρ.length) 0 st.ρ, mapIdx (normBox kp) 0 st.bx⟩ a M β' κ' := by
  unfold normOK at hok
  simp only [Bool.and_eq_true] at hok
  have hnd := distinct_spec (α := Nat) hok.1
  refine ⟨fun id => if kp.boxes.contains id then β id else none, normκ kp st κ, ?_⟩
  exact
    { below := hI.below
      baseU := hI.baseU
      ng := hI.ng
      defers := hI.defers
      len := by rw [mapIdx_len]; exact hI.len
      slot := by
        intro t x hx
        rw [mapIdx_get, Nat.zero_add] at hx
        rcases ht : st.ρ[t]? with _ | y
        · rw [ht] at hx; simp at hx
        · rw [ht] at hx
          simp only [Option.map_some, Option.some.injEq] at hx
          subst hx
          obtain ⟨v, h1, h2, h3⟩ := hI.slot t y ht
          unfold normSlot
          split
          · exact ⟨v, h1, trivial, .inl rfl⟩
          · rename_i want hw
            refine ⟨v, h1, keptPV_rel h2, ?_⟩
            cases want with
            | false => exact .inl rfl
            | true =>
              simp only [if_true]
              by_cases h0 : y.2 = 0
              · rw [if_pos h0]; exact .inl rfl
              · rw [if_neg h0]
                rcases h3 with h3 | ⟨nl, sz, n, cells, he, h3⟩
                · exact (h0 h3).elim
                · refine .inr ⟨nl, sz, n, cells, by rw [he]; rfl, ?_⟩
                  rcases h3 with h3 | ⟨hc, g, hk, ho⟩
                  · exact .inl h3
                  · exact .inr ⟨by omega, g, (normκ_mk hw ht hc).trans hk, ho⟩
      box := by
        intro id b hb
        obtain ⟨hc, hb⟩ := ite_inv hb
        obtain ⟨cs, arr, e, h1, h2, h3, h4, h5⟩ := hI.box id b hb
        refine ⟨cs.map fun x => (x.1, 0), arr, e, ?_, h2, ⟨by simp [h3.1], fun j x hx => ?_⟩, h4, h5⟩
        · simp only [mapIdx_get, h1, Option.map_some, Nat.zero_add, normBox]
          rw [if_pos hc]
        · rw [List.getElem?_map] at hx
          rcases hj : cs[j]? with _ | y
          · rw [hj] at hx; simp at hx
          · rw [hj] at hx
            simp only [Option.map_some, Option.some.injEq] at hx
            subst hx
            obtain ⟨u, k1, k2, k3, _⟩ := h3.2 j y hj
            exact ⟨u, k1, k2, k3, .inl rfl⟩
      alive := by
        intro id cs hc
        rw [mapIdx_get, Nat.zero_add] at hc
        rcases hi : st.bx[id]? with _ | o
        · rw [hi] at hc; simp at hc
        · rw [hi] at hc
          simp only [Option.map_some, Option.some.injEq, normBox] at hc
          obtain ⟨hk, hc⟩ := ite_inv hc
          cases o with
          | none => simp at hc
          | some ds =>
            obtain ⟨b, hb⟩ := hI.alive id ds hi
            exact ⟨b, by simp only [hk, if_true]; exact hb⟩
      binj := by
        intro id id' b h1 h2
        exact hI.binj id id' b (ite_inv h1).2 (ite_inv h2).2
      kinj := by
        intro c c' g h1 h2
        obtain ⟨t, x, rfl, a1, a2, a3, a4⟩ := normκ_spec h1
        obtain ⟨t', x', rfl, b1, b2, b3, b4⟩ := normκ_spec h2
        have he := hI.kinj _ _ g a4 b4
        have := nodup_filterMap (fun p : Nat × Bool => if p.2 then (match st.ρ[p.1]? with | some x => if 2 ≤ x.2 then some x.2 else none | none => none) else none) hnd (lookup_mem a1) (lookup_mem b1) (v := x.2) (by simp [a2, a3]) (by simp [b2, b3, he])
        injection this with e1 _
        rw [e1]
      kbox := by
        intro c g id b h1 h2
        obtain ⟨t, x, rfl, a1, a2, a3, a4⟩ := normκ_spec h1
        exact hI.kbox _ g id b a4 (ite_inv h2).2
      klow := by
        intro c g h1
        obtain ⟨t, x, rfl, a1, a2, a3, a4⟩ := normκ_spec h1
        exact hI.klow _ g a4
      khigh := by
        intro c g h1
        obtain ⟨t, x, rfl, a1, a2, a3, a4⟩ := normκ_spec h1
        exact hI.khigh _ g a4 }

theorem norm_sim {R : Type} {kp : Option Keep} {st : St} {k : St → Option R} {r : R} (h : pnorm kp st k = some r) {M0 : Mem} {a : Act} {M : Mem} {β κ : Nat → Option Nat} (hI : Inv NG M0 st a M β κ) :
    ∃ st' β' κ', Inv NG M0 st' a M β' κ' ∧ k st' = some r := by
  unfold pnorm at h
  split at h
  · exact ⟨st, β, κ, hI, h⟩
  · obtain ⟨hok, h⟩ := ite_inv h
    obtain ⟨β', κ', hI'⟩ := hI.norm hok
    exact ⟨_, β', κ', hI', h⟩

theorem code_sim {R : Type} (hE : EnvOK en NG W) {M0 : Mem} (hG : GOK en M0) (hW : W M0.w) {hs : Hints} {fuel : Nat} {kr : St → Option R} {r : R} : ∀ (c : Code) (cur : Nat) (st : St) (kn : St → Option R) (kx : List (Nat × (St → Option R))), pcode en hs fuel kr c cur st kn kx = some r →
    ∀ (a : Act) (M : Mem) (β κ : Nat → Option Nat), Inv NG M0 st a M β κ → ∀ (Q : Exit → Act → World → Prop),
    (∀ st' a' M' β' κ', Inv NG M0 st' a' M' β' κ' → kn st' = some r → Q .normal a' M'.w) →
    (∀ id k, kx.lookup id = some k → ∀ st' a' M' β' κ', Inv NG M0 st' a' M' β' κ' → k st' = some r → Q (.exit id) a' M'.w) →
    (∀ st' a' M' β' κ', Inv NG M0 st' a' M' β' κ' → kr st' = some r → Q .ret a' M'.w) → c.wp en.P Q a M.w
  | .skip, cur, st, kn, kx, h, a, M, β, κ, hI, Q, hn, hx, hr => wp_skip (hn st a M β κ hI h)
  | .label l, cur, st, kn, kx, h, a, M, β, κ, hI, Q, hn, hx, hr => wp_label (hn st a M β κ hI h)
  | .ret, cur, st, kn, kx, h, a, M, β, κ, hI, Q, hn, hx, hr => wp_ret (hr st a M β κ hI h)
  | .exit id, cur, st, kn, kx, h, a, M, β, κ, hI, Q, hn, hx, hr => by
    simp only [pcode] at h
    split at h
    · rename_i k hk
      exact wp_exit (hx id k hk st a M β κ hI h)
    · cases h
  | .region id ops draw, cur, st, kn, kx, h, a, M, β, κ, hI, Q, hn, hx, hr => region_sim hE hG hW h hI hn
  | .seq x y, cur, st, kn, kx, h, a, M, β, κ, hI, Q, hn, hx, hr => by
    simp only [pcode] at h
    refine wp_seq (code_sim hE hG hW x cur st _ kx h a M β κ hI _ ?_ ?_ ?_)
    · intro st' a' M' β' κ' hI' h'
      exact code_sim hE hG hW y cur st' kn kx h' a' M' β' κ' hI' Q hn hx hr
    · intro id k hk st' a' M' β' κ' hI' h'
      exact hx id k hk st' a' M' β' κ' hI' h'
    · intro st' a' M' β' κ' hI' h'
      exact hr st' a' M' β' κ' hI' h'
  | .cond c x y, cur, st, kn, kx, h, a, M, β, κ, hI, Q, hn, hx, hr => by
    simp only [pcode] at h
    split at h
    · rename_i t ht
      have hc := cond_ok hG hI ht
      cases t with
      | true => exact wp_cond_true hc (code_sim hE hG hW x cur st kn kx h a M β κ hI Q hn hx hr)
      | false => exact wp_cond_false hc (code_sim hE hG hW y cur st kn kx h a M β κ hI Q hn hx hr)
    · cases h
  | .block id x, cur, st, kn, kx, h, a, M, β, κ, hI, Q, hn, hx, hr => by
    simp only [pcode] at h
    refine wp_block (code_sim hE hG hW x id st _ _ h a M β κ hI _ ?_ ?_ ?_)
    · intro st' a' M' β' κ' hI' h'
      obtain ⟨st2, β2, κ2, hI2, h2⟩ := norm_sim h' hI'
      exact hn st2 a' M' β2 κ2 hI2 h2
    · intro id' k hk st' a' M' β' κ' hI' h'
      rw [List.lookup_cons] at hk
      by_cases e : id' = id
      · subst e
        simp only [BEq.rfl] at hk
        injection hk with hk
        subst hk
        obtain ⟨st2, β2, κ2, hI2, h2⟩ := norm_sim h' hI'
        simp only [Exit.inBlock, if_true]
        exact hn st2 a' M' β2 κ2 hI2 h2
      · have : (id' == id) = false := by simpa using e
        rw [this] at hk
        simp only [Exit.inBlock, if_neg e]
        exact hx id' k hk st' a' M' β' κ' hI' h'
    · intro st' a' M' β' κ' hI' h'
      exact hr st' a' M' β' κ' hI' h'
  | .loop x, cur, st, kn, kx, h, a, M, β, κ, hI, Q, hn, hx, hr => by
    simp only [pcode] at h
    obtain ⟨st2, β2, κ2, hI2, h2⟩ := norm_sim h hI
    clear h hI
    refine wp_loop_rounds fuel ?_
    have key : ∀ (n : Nat) (st : St) (a : Act) (M : Mem) (β κ : Nat → Option Nat), Inv NG M0 st a M β κ → ploop (hs.loop.lookup cur) (fun st kn' => pcode en hs fuel kr x cur st kn' kx) n st = some r → Code.rounds en.P x Q n a M.w := by
      intro n
      induction n with
      | zero => intro st a M β κ hI h; simp [ploop] at h
      | succ n ih =>
        intro st a M β κ hI h
        simp only [ploop] at h
        rw [rounds_succ]
        refine code_sim hE hG hW x cur st _ kx h a M β κ hI _ ?_ ?_ ?_
        · intro st' a' M' β' κ' hI' h'
          obtain ⟨st3, β3, κ3, hI3, h3⟩ := norm_sim h' hI'
          exact ih st3 a' M' β3 κ3 hI3 h3
        · intro id k hk st' a' M' β' κ' hI' h'
          exact hx id k hk st' a' M' β' κ' hI' h'
        · intro st' a' M' β' κ' hI' h'
          exact hr st' a' M' β' κ' hI' h'
    exact key fuel st2 a M β2 κ2 hI2 h2
  | .rangeFunc _ _ _ _, _, _, _, _, h, _, _, _, _, _, _, _, _, _ => by simp [pcode] at h
  | .scope _, _, _, _, _, h, _, _, _, _, _, _, _, _, _ => by simp [pcode] at h
  | .goto _, _, _, _, _, h, _, _, _, _, _, _, _, _, _ => by simp [pcode] at h
  | .refuse _, _, _, _, _, h, _, _, _, _, _, _, _, _, _ => by simp [pcode] at h
end

end Go.Proofs.YtllpobcecingiaaGreatDoor
