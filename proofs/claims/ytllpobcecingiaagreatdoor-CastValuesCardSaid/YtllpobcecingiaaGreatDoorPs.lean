/-
  Regions, continued: operations that are apart and independent may change places; hence one order serves all.
-/
import Derived.Test.YtllpobcecingiaaGreatDoorPr
set_option linter.unusedVariables false
set_option linter.unusedSimpArgs false
namespace Go.Proofs.YtllpobcecingiaaGreatDoor
open Go.RowKit

section
variable {en : Env} {ops : Array Oper}

/-- what the acts see of a state -/
structure Sees (o : Oper) (ops : Array Oper) (st st' : St) : Prop where
  eq : ∀ t ∈ o.looksAt ops, (st.ρ[t]?).map (·.1) = (st'.ρ[t]?).map (·.1)

theorem tmp_looks {o : Oper} {t : Tmp} (h : (.tmp t : Operand) ∈ o.op.operands) : t ∈ o.looksAt ops := by
  unfold Oper.looksAt
  rw [List.mem_append]
  left
  rw [List.mem_filterMap]
  exact ⟨.tmp t, Array.mem_toList_iff.2 h, rfl⟩
theorem guard_looks {o : Oper} {j : Nat} {want : Bool} {t : Tmp} (hg : o.guard = some (j, want)) (hd : (ops[j]?).bind (·.dst) = some t) : t ∈ o.looksAt ops := by
  unfold Oper.looksAt
  rw [List.mem_append]
  right
  simp [hg, hd]

theorem guardT_congr {o : Oper} {st st' : St} (h : ∀ t ∈ o.looksAt ops, (st.ρ[t]?).map (·.1) = (st'.ρ[t]?).map (·.1)) : guardT ops o st = guardT ops o st' := by
  unfold guardT
  split
  · rfl
  · rename_i j want hg
    rcases hd : (ops[j]?).bind (·.dst) with _ | t
    · rfl
    · have := h t (guard_looks hg hd)
      simp only
      rcases h1 : st.ρ[t]? with _ | ⟨x, c⟩ <;> rcases h2 : st'.ρ[t]? with _ | ⟨y, d⟩ <;> rw [h1, h2] at this <;> simp at this
      all_goals first
        | rfl
        | (subst this; cases x <;> first | rfl | (rename_i l; cases l <;> rfl))
theorem presolve_same {R : Type} {o : Oper} {st st' : St} (h : ∀ t ∈ o.looksAt ops, st.ρ[t]? = st'.ρ[t]?) (k : PAct → Option R) : presolve en st o k = presolve en st' o k :=
  presolve_congr (fun x hx t => ev_congr (fun u hu => h u (tmp_looks (ops := ops) (by rw [← hu]; exact hx))) t) k

/-- what does not look at claims sees the pure values alone -/
theorem ev_fst {st st' : St} {x : Operand} (h : ∀ t, x = .tmp t → (st.ρ[t]?).map (·.1) = (st'.ρ[t]?).map (·.1)) (t : TypeId) : (ev en st t x).1 = (ev en st' t x).1 := by
  cases x with
  | tmp u =>
    have := h u rfl
    simp only [ev, List.getD]
    rcases h1 : st.ρ[u]? with _ | ⟨x, c⟩ <;> rcases h2 : st'.ρ[u]? with _ | ⟨y, d⟩ <;> rw [h1, h2] at this <;> simp at this
    all_goals first | rfl | exact this
  | _ => rfl
theorem args_fst {st st' : St} : ∀ (l : List Operand) (ts : List TypeId), (∀ x ∈ l, ∀ t, (ev en st t x).1 = (ev en st' t x).1) → (argTVs en st l ts).map (·.1) = (argTVs en st' l ts).map (·.1)
  | [], _, _ => rfl
  | x :: l, ts, h => by
    simp only [argTVs, List.map_cons]
    rw [h x (by simp), args_fst l ts.tail (fun y hy => h y (by simp [hy]))]
theorem pcells_fst {x y : TV} (h : x.1 = y.1) : (pcells x).map (List.map (·.1)) = (pcells y).map (List.map (·.1)) := by
  obtain ⟨x, c⟩ := x
  obtain ⟨y, d⟩ := y
  simp only at h
  subst h
  cases x <;> simp [pcells]
theorem allData_fst {xs ys : List TV} (h : xs.map (·.1) = ys.map (·.1)) : allData xs = allData ys := by
  have : ∀ zs : List TV, allData zs = (zs.map (·.1)).all PV.data := fun zs => by simp [allData, List.all_map, Function.comp_def]
  rw [this, this, h]
theorem parts_fst {st st' : St} {place : Nat → Option (Nat × Nat × TypeId)} : ∀ (l : List (Nat × Operand)), (∀ p ∈ l, ∀ t, (ev en st t p.2).1 = (ev en st' t p.2).1) → pbuildParts en st place l = pbuildParts en st' place l
  | [], _ => rfl
  | (i, x) :: l, h => by
    simp only [pbuildParts]
    rw [parts_fst l (fun p hp => h p (by simp [hp]))]
    split
    · rename_i off sz t hpl
      have hp := pcells_fst (h (i, x) (by simp) t)
      rcases h1 : pcells (ev en st t x) with _ | cs <;> rcases h2 : pcells (ev en st' t x) with _ | ds <;> rw [h1, h2] at hp <;> simp at hp
      all_goals first
        | rfl
        | (have hl : cs.length = ds.length := by have := congrArg List.length hp; simpa using this
           simp only [hl, allData_fst hp, hp])
    · rfl
theorem presolve_free {R : Type} {st st' : St} {o : Oper} (hf : tagFree en.P o = true) (h : ∀ x ∈ o.op.operands, ∀ t, (ev en st t x).1 = (ev en st' t x).1) (k : PAct → Option R) : presolve en st o k = presolve en st' o k := by
  unfold tagFree at hf
  unfold presolve
  obtain ⟨dst, op, ty, pos, after, guard⟩ := o
  cases op <;> simp only [Op.operands] at h <;> simp only at hf ⊢
  case move x =>
    simp only [Bool.not_eq_true', ] at hf
    rw [h x (by simp)]
    simp [hf]
  case assign x =>
    simp only [Bool.not_eq_true', ] at hf
    rw [h x (by simp)]
    simp [hf]
  case store t x y => cases hf
  case box t x => cases hf
  case call c =>
    have hargs := args_fst (en := en) (st := st) (st' := st') c.args.toList c.argTypes.toList (fun x hx => h x (by simp [Call.operands]; right; exact Array.mem_toList_iff.1 hx))
    cases hc : c.callee with
    | value f =>
      have hff := h f (by simp [Call.operands, hc])
      simp only [hff, allData_fst hargs, hargs]
    | builtin b =>
      rw [hc] at hf
      simp only
      generalize argTVs en st c.args.toList c.argTypes.toList = xs at hargs ⊢
      generalize argTVs en st' c.args.toList c.argTypes.toList = ys at hargs ⊢
      have hlen : xs.length = ys.length := by have := congrArg List.length hargs; simpa using this
      match xs, ys, hlen with
      | [], [], _ => cases b <;> rfl
      | [x], [y], _ =>
        simp at hargs
        cases b <;> simp only [pbuiltin, hargs]
      | [x, x'], [y, y'], _ =>
        simp at hargs
        cases b <;> first | (cases hf; done) | simp only [pbuiltin, hargs.1, hargs.2]
      | x :: x' :: x'' :: xs, y :: y' :: y'' :: ys, _ => cases b <;> first | (cases hf; done) | simp only [pbuiltin]
    | invoke r m => rfl
  case build t ps =>
    have hp := fun place => parts_fst (en := en) (st := st) (st' := st') (place := place) ps.toList (fun p hp => h p.2 (by simp; exact ⟨p.1, by simpa using hp⟩))
    simp only [hp]
  case buildSlice t n ps =>
    have hp := fun place => parts_fst (en := en) (st := st) (st' := st') (place := place) ps.toList (fun p hp => h p.2 (by simp; exact ⟨p.1, by simpa using hp⟩))
    simp only [hp]
  case slice t x lo hi mx =>
    have hx := h x (by simp)
    have hlo : (lo.map fun y => (ev en st 0 y).1) = lo.map fun y => (ev en st' 0 y).1 := by cases lo <;> simp; rw [h _ (by simp)]
    have hhi : (hi.map fun y => (ev en st 0 y).1) = hi.map fun y => (ev en st' 0 y).1 := by cases hi <;> simp; rw [h _ (by simp)]
    have hmx : (mx.map fun y => (ev en st 0 y).1) = mx.map fun y => (ev en st' 0 y).1 := by cases mx <;> simp; rw [h _ (by simp)]
    simp only [hx, hlo, hhi, hmx]
  case nilCheck x =>
    have hx := h x (by simp) 0
    generalize ev en st 0 x = u at hx ⊢
    generalize ev en st' 0 x = v at hx ⊢
    obtain ⟨u, c⟩ := u
    obtain ⟨v, d⟩ := v
    simp only at hx
    subst hx
    cases u <;> rfl
  all_goals first
    | rfl
    | (simp only [h _ (by simp)])
    | (simp [h])

/-! ### changing places -/
def putR (d : Option Tmp) (x : TV) (ρ : List TV) : List TV := match d with | some d => ρ.set d x | none => ρ
theorem putS_eq (d : Option Tmp) (x : TV) (st : St) : putS d x st = ⟨putR d x st.ρ, st.bx⟩ := by cases d <;> rfl
theorem putR_comm {d e : Option Tmp} (h : ∀ t, d = some t → e ≠ some t) (x y : TV) (ρ : List TV) : putR e y (putR d x ρ) = putR d x (putR e y ρ) := by
  cases d with
  | none => rfl
  | some d => cases e with
    | none => rfl
    | some e => exact List.set_comm _ _ (fun he => h d rfl (by rw [he]))
theorem putR_get {d : Option Tmp} {x : TV} {ρ : List TV} {t : Nat} (h : d ≠ some t) : (putR d x ρ)[t]? = ρ[t]? := by
  cases d with
  | none => rfl
  | some d => exact List.getElem?_set_ne (fun e => h (by rw [e]))

theorem clr_small {c : Nat} {x : PV} {t : Nat} (h : t ≤ 1) : clr c (x, t) = (x, t) := by
  unfold clr
  rw [if_neg (by simp only [Bool.and_eq_true, decide_eq_true_eq]; omega)]
theorem map_putR (f : TV → TV) (d : Option Tmp) (x : TV) (ρ : List TV) : (putR d x ρ).map f = putR d (f x) (ρ.map f) := by
  cases d with
  | none => rfl
  | some d => exact List.map_set
theorem clr_bx_fst (c : Nat) (cs : List TV) : (cs.map (clr c)).map (·.1) = cs.map (·.1) := by
  rw [List.map_map]
  apply List.map_congr_left
  intro x _
  exact clr_fst c x

theorem papply_val {act : PAct} {d : Option Tmp} {st st1 : St} (hv : ∀ id off cs, act ≠ .store id off cs) (hm : ∀ cs, act ≠ .mk cs) (ho : ∀ c v, act ≠ .own c v) : papply act d st = some st1 ↔ ∃ x, actVal act st.bx = some x ∧ st1 = putS d x st := by
  cases act with
  | skip =>
    simp only [papply, Option.map_eq_some_iff]
    exact ⟨fun ⟨x, h, e⟩ => ⟨x, h, e.symm⟩, fun ⟨x, h, e⟩ => ⟨x, h, e.symm⟩⟩
  | val v c =>
    simp only [papply, Option.map_eq_some_iff]
    exact ⟨fun ⟨x, h, e⟩ => ⟨x, h, e.symm⟩, fun ⟨x, h, e⟩ => ⟨x, h, e.symm⟩⟩
  | load id off n agg =>
    simp only [papply, Option.map_eq_some_iff]
    exact ⟨fun ⟨x, h, e⟩ => ⟨x, h, e.symm⟩, fun ⟨x, h, e⟩ => ⟨x, h, e.symm⟩⟩
  | store id off cs => exact (hv _ _ _ rfl).elim
  | mk cs => exact (hm _ rfl).elim
  | own c v => exact (ho _ _ rfl).elim
theorem papply_v {act : PAct} (h : isVal act = true) {d : Option Tmp} {st st1 : St} : papply act d st = some st1 ↔ ∃ x, actVal act st.bx = some x ∧ st1 = putS d x st :=
  papply_val (by cases act <;> simp_all [isVal]) (by cases act <;> simp_all [isVal]) (by cases act <;> simp_all [isVal])

/-- what an act that writes memory does -/
structure Wrote (act : PAct) (d : Option Tmp) (st st1 : St) : Prop where
  ok : papply act d st = some st1

theorem val_val {ai aj : PAct} {di dj : Option Tmp} (hi : isVal ai = true) (hj : isVal aj = true) (hd : ∀ t, di = some t → dj ≠ some t) {st st1 st2 : St} (h1 : papply ai di st = some st1) (h2 : papply aj dj st1 = some st2) :
    ∃ st1', papply aj dj st = some st1' ∧ papply ai di st1' = some st2 := by
  obtain ⟨x, e1, rfl⟩ := (papply_v hi).1 h1
  obtain ⟨y, e2, rfl⟩ := (papply_v hj).1 h2
  rw [putS_bx] at e2
  refine ⟨_, (papply_v hj).2 ⟨y, e2, rfl⟩, (papply_v hi).2 ⟨x, by rw [putS_bx]; exact e1, ?_⟩⟩
  simp only [putS_eq]
  rw [putR_comm hd]

/-- a store or a new box changes one box; what else is read is as it was -/
theorem actVal_bx {act : PAct} {bx bx' : List (Option (List TV))} {id : Nat} (hb : ∀ j, j ≠ id → bx'[j]? = bx[j]?) (h : ∀ i off n g, act = .load i off n g → i ≠ id) : actVal act bx' = actVal act bx := by
  cases act with
  | load i off n g => simp only [actVal, hb i (h i off n g rfl)]
  | _ => rfl

theorem val_store {ai : PAct} {di dj : Option Tmp} (hi : isVal ai = true) {id off : Nat} {cs : List TV} (hne : ∀ i o n g, ai = .load i o n g → i ≠ id) {st : St} :
    (∀ st1 st2, papply ai di st = some st1 → papply (.store id off cs) dj st1 = some st2 → ∃ st1', papply (.store id off cs) dj st = some st1' ∧ papply ai di st1' = some st2) ∧
    (∀ st1 st2, papply (.store id off cs) dj st = some st1 → papply ai di st1 = some st2 → ∃ st1', papply ai di st = some st1' ∧ papply (.store id off cs) dj st1' = some st2) := by
  constructor
  · intro st1 st2 h1 h2
    obtain ⟨x, e1, rfl⟩ := (papply_v hi).1 h1
    simp only [papply, putS_bx] at h2
    split at h2
    · rename_i ds hb
      obtain ⟨hle, h2⟩ := ite_inv h2
      injection h2 with h2
      subst h2
      refine ⟨{ st with bx := st.bx.set id (some (ds.take off ++ cs ++ ds.drop (off + cs.length))) }, by simp only [papply, hb]; rw [if_pos hle], (papply_v hi).2 ⟨x, ?_, ?_⟩⟩
      · rw [actVal_bx (id := id) (bx := st.bx) (fun j hj => List.getElem?_set_ne (Ne.symm hj)) hne]; exact e1
      · simp only [putS_eq]
    · cases h2
  · intro st1 st2 h1 h2
    simp only [papply] at h1
    split at h1
    · rename_i ds hb
      obtain ⟨hle, h1⟩ := ite_inv h1
      injection h1 with h1
      subst h1
      obtain ⟨x, e2, rfl⟩ := (papply_v hi).1 h2
      rw [actVal_bx (id := id) (bx := st.bx) (fun j hj => List.getElem?_set_ne (Ne.symm hj)) hne] at e2
      refine ⟨_, (papply_v hi).2 ⟨x, e2, rfl⟩, ?_⟩
      simp only [papply, putS_bx, hb]
      rw [if_pos hle]
      simp only [putS_eq]
    · cases h1

theorem val_mk {ai : PAct} {di dj : Option Tmp} (hi : isVal ai = true) (hd : ∀ t, di = some t → dj ≠ some t) {cs : List TV} (hne : ∀ i o n g, ai = .load i o n g → dj ≠ some i) {st : St} :
    (∀ st1 st2, papply ai di st = some st1 → papply (.mk cs) dj st1 = some st2 → ∃ st1', papply (.mk cs) dj st = some st1' ∧ papply ai di st1' = some st2) ∧
    (∀ st1 st2, papply (.mk cs) dj st = some st1 → papply ai di st1 = some st2 → ∃ st1', papply ai di st = some st1' ∧ papply (.mk cs) dj st1' = some st2) := by
  constructor
  · intro st1 st2 h1 h2
    obtain ⟨x, e1, rfl⟩ := (papply_v hi).1 h1
    simp only [papply, putS_bx] at h2
    split at h2
    · rename_i d
      split at h2
      · rename_i hb
        injection h2 with h2
        subst h2
        refine ⟨⟨st.ρ.set d (.ptr d 0, 0), st.bx.set d (some cs)⟩, by simp only [papply, hb], (papply_v hi).2 ⟨x, ?_, ?_⟩⟩
        · rw [actVal_bx (id := d) (bx := st.bx) (fun j hj => List.getElem?_set_ne (Ne.symm hj)) (fun i o n g e e2 => hne i o n g e (by rw [e2]))]; exact e1
        · simp only [putS_eq]
          have := putR_comm (e := some d) hd x (.ptr d 0, 0) st.ρ
          simp only [putR] at this ⊢
          rw [← this]
      · cases h2
    · cases h2
  · intro st1 st2 h1 h2
    simp only [papply] at h1
    split at h1
    · rename_i d
      split at h1
      · rename_i hb
        injection h1 with h1
        subst h1
        obtain ⟨x, e2, rfl⟩ := (papply_v hi).1 h2
        simp only at e2
        rw [actVal_bx (id := d) (bx := st.bx) (fun j hj => List.getElem?_set_ne (Ne.symm hj)) (fun i o n g e e2 => hne i o n g e (by rw [e2]))] at e2
        refine ⟨_, (papply_v hi).2 ⟨x, e2, rfl⟩, ?_⟩
        simp only [papply, putS_bx, hb]
        simp only [putS_eq]
        have := putR_comm (e := some d) hd x (.ptr d 0, 0) st.ρ
        simp only [putR] at this ⊢
        rw [this]
      · cases h1
    · cases h1

/-- giving up claims makes no difference to a value without one -/
theorem actVal_clr {act : PAct} {bx : List (Option (List TV))} (f : TV → TV) (hf : ∀ x, (f x).1 = x.1) (h : ∀ i o n g, act = .load i o n g → g = true) : actVal act (bx.map (Option.map (List.map f))) = actVal act bx := by
  cases act with
  | load i off n g =>
    obtain rfl := h i off n g rfl
    simp only [actVal, List.getElem?_map]
    rcases hb : bx[i]? with _ | (_ | cs)
    · rfl
    · rfl
    · simp only [Option.map_some, List.length_map, if_true]
      split
      · congr 3
        rw [← List.map_take, ← List.map_drop, List.map_map]
        apply List.map_congr_left
        intro x _
        exact hf x
      · rfl
  | _ => rfl
theorem actVal_small {act : PAct} {bx : List (Option (List TV))} {x : TV} (h : ∀ i o n g, act = .load i o n g → g = true) (hv : ∀ v t, act = .val v t → t ≤ 1) (hx : actVal act bx = some x) : x.2 ≤ 1 := by
  cases act with
  | skip => simp only [actVal, Option.some.injEq] at hx; subst hx; simp
  | val v t => simp only [actVal, Option.some.injEq] at hx; subst hx; exact hv v t rfl
  | load i off n g =>
    obtain rfl := h i off n g rfl
    simp only [actVal] at hx
    split at hx
    · simp only [if_true] at hx
      obtain ⟨_, hx⟩ := ite_inv hx
      injection hx with hx
      subst hx
      simp
    · cases hx
  | _ => cases hx

/-- claims given up: whatever an act reads, it reads the same, its claim given up -/
theorem actVal_map {act : PAct} {bx : List (Option (List TV))} (f : TV → TV) (hf : ∀ x, (f x).1 = x.1) (hs : ∀ x : TV, x.2 ≤ 1 → f x = x) (hi : isVal act = true) (hv : ∀ v t, act = .val v t → t ≤ 1) :
    actVal act (bx.map (Option.map (List.map f))) = (actVal act bx).map f := by
  cases act with
  | skip => simp only [actVal, Option.map_some, hs (.tuple [], 0) (by simp)]
  | val v t => simp only [actVal, Option.map_some, hs (v, t) (hv v t rfl)]
  | load i off n g =>
    cases g with
    | true =>
      rw [actVal_clr f hf (fun i o n g e => by cases e; rfl)]
      rcases hx : actVal (.load i off n true) bx with _ | x
      · rfl
      · have := actVal_small (fun i o n g e => by cases e; rfl) (fun v t e => by cases e) hx
        rw [Option.map_some, hs x this]
    | false =>
      simp only [actVal, List.getElem?_map]
      rcases hb : bx[i]? with _ | (_ | cs)
      · rfl
      · rfl
      · simp only [Option.map_some, List.getElem?_map, Bool.false_eq_true, if_false]
  | _ => cases hi
theorem val_own {ai : PAct} {di dj : Option Tmp} (hi : isVal ai = true) (hd : ∀ t, di = some t → dj ≠ some t) {c : Nat} {v : PV} (hv : ∀ v t, ai = .val v t → t ≤ 1) {st : St} :
    (∀ st1 st2, papply ai di st = some st1 → papply (.own c v) dj st1 = some st2 → ∃ st1', papply (.own c v) dj st = some st1' ∧ papply ai di st1' = some st2) ∧
    (∀ st1 st2, papply (.own c v) dj st = some st1 → papply ai di st1 = some st2 → ∃ st1', papply ai di st = some st1' ∧ papply (.own c v) dj st1' = some st2) := by
  have hsm : ∀ (e : Nat) (x : TV), x.2 ≤ 1 → clr e x = x := fun e x hx => by obtain ⟨y, t⟩ := x; exact clr_small hx
  have hbx : ∀ d : Nat, actVal ai ((st.clr c).clr (d + 2)).bx = ((actVal ai st.bx).map (clr c)).map (clr (d + 2)) := fun d => by
    simp only [St.clr]
    rw [actVal_map _ (clr_fst _) (hsm _) hi hv, actVal_map _ (clr_fst _) (hsm _) hi hv]
  have key : ∀ (d : Nat) (x : TV), di ≠ some d → (((putS di x st).clr c).clr (d + 2)).ρ.set d (v, d + 2) = putR di (clr (d + 2) (clr c x)) ((((st.clr c).clr (d + 2)).ρ).set d (v, d + 2)) := by
    intro d x hne
    simp only [St.clr, putS_eq, map_putR]
    exact putR_comm (d := di) (e := some d) (fun t e e2 => hne (by rw [e, ← e2])) _ (v, d + 2) _
  have kbx : ∀ (d : Nat) (x : TV), (((putS di x st).clr c).clr (d + 2)).bx = ((st.clr c).clr (d + 2)).bx := by
    intro d x
    simp only [St.clr, putS_eq]
  constructor
  · intro st1 st2 h1 h2
    obtain ⟨x, e1, rfl⟩ := (papply_v hi).1 h1
    simp only [papply] at h2
    split at h2
    · rename_i d
      injection h2 with h2
      subst h2
      have hne : di ≠ some d := fun e => hd d e rfl
      refine ⟨⟨((st.clr c).clr (d + 2)).ρ.set d (v, d + 2), ((st.clr c).clr (d + 2)).bx⟩, rfl, (papply_v hi).2 ⟨clr (d + 2) (clr c x), (hbx d).trans (by rw [e1]; rfl), ?_⟩⟩
      rw [key d x hne, kbx]
      cases di <;> rfl
    · cases h2
  · intro st1 st2 h1 h2
    simp only [papply] at h1
    split at h1
    · rename_i d
      injection h1 with h1
      subst h1
      obtain ⟨x, e2, rfl⟩ := (papply_v hi).1 h2
      have e2 := (hbx d).symm.trans e2
      obtain ⟨y, e3, rfl⟩ := Option.map_eq_some_iff.1 e2
      obtain ⟨z, e4, rfl⟩ := Option.map_eq_some_iff.1 e3
      have hne : di ≠ some d := fun e => hd d e rfl
      refine ⟨_, (papply_v hi).2 ⟨z, e4, rfl⟩, ?_⟩
      simp only [papply]
      rw [key d z hne, kbx]
      cases di <;> rfl
    · cases h1

theorem store_store {i j o o' : Nat} {cs ds : List TV} {di dj : Option Tmp} (hne : i ≠ j) {st st1 st2 : St} (h1 : papply (.store i o cs) di st = some st1) (h2 : papply (.store j o' ds) dj st1 = some st2) :
    ∃ st1', papply (.store j o' ds) dj st = some st1' ∧ papply (.store i o cs) di st1' = some st2 := by
  simp only [papply] at h1 h2
  split at h1
  · rename_i xs hx
    obtain ⟨hle, h1⟩ := ite_inv h1
    injection h1 with h1
    subst h1
    simp only [List.getElem?_set_ne hne] at h2
    split at h2
    · rename_i ys hy
      obtain ⟨hle', h2⟩ := ite_inv h2
      injection h2 with h2
      subst h2
      refine ⟨{ st with bx := st.bx.set j (some (ys.take o' ++ ds ++ ys.drop (o' + ds.length))) }, by simp only [papply, hy]; rw [if_pos hle'], ?_⟩
      simp only [papply, List.getElem?_set_ne (Ne.symm hne), hx]
      rw [if_pos hle]
      simp only [List.set_comm _ _ hne]
    · cases h2
  · cases h1
theorem store_mk {i o : Nat} {cs ds : List TV} {di dj : Option Tmp} (hne : dj ≠ some i) {st : St} :
    (∀ st1 st2, papply (.store i o cs) di st = some st1 → papply (.mk ds) dj st1 = some st2 → ∃ st1', papply (.mk ds) dj st = some st1' ∧ papply (.store i o cs) di st1' = some st2) ∧
    (∀ st1 st2, papply (.mk ds) dj st = some st1 → papply (.store i o cs) di st1 = some st2 → ∃ st1', papply (.store i o cs) di st = some st1' ∧ papply (.mk ds) dj st1' = some st2) := by
  constructor
  · intro st1 st2 h1 h2
    simp only [papply] at h1 h2
    split at h1
    · rename_i xs hx
      obtain ⟨hle, h1⟩ := ite_inv h1
      injection h1 with h1
      subst h1
      split at h2
      · rename_i d
        have hid : i ≠ d := fun e => hne (by rw [e])
        simp only [List.getElem?_set_ne hid] at h2
        split at h2
        · rename_i hb
          injection h2 with h2
          subst h2
          refine ⟨⟨st.ρ.set d (.ptr d 0, 0), st.bx.set d (some ds)⟩, by simp only [papply, hb], ?_⟩
          simp only [papply, List.getElem?_set_ne (Ne.symm hid), hx]
          rw [if_pos hle]
          simp only [List.set_comm _ _ hid]
        · cases h2
      · cases h2
    · cases h1
  · intro st1 st2 h1 h2
    simp only [papply] at h1 h2
    split at h1
    · rename_i d
      have hid : i ≠ d := fun e => hne (by rw [e])
      split at h1
      · rename_i hb
        injection h1 with h1
        subst h1
        simp only [List.getElem?_set_ne (Ne.symm hid)] at h2
        split at h2
        · rename_i xs hx
          obtain ⟨hle, h2⟩ := ite_inv h2
          injection h2 with h2
          subst h2
          refine ⟨{ st with bx := st.bx.set i (some (xs.take o ++ cs ++ xs.drop (o + cs.length))) }, by simp only [papply, hx]; rw [if_pos hle], ?_⟩
          simp only [papply, List.getElem?_set_ne hid, hb]
          simp only [List.set_comm _ _ hid]
        · cases h2
      · cases h1
    · cases h1
theorem mk_mk {cs ds : List TV} {di dj : Option Tmp} (hd : ∀ t, di = some t → dj ≠ some t) {st st1 st2 : St} (h1 : papply (.mk cs) di st = some st1) (h2 : papply (.mk ds) dj st1 = some st2) :
    ∃ st1', papply (.mk ds) dj st = some st1' ∧ papply (.mk cs) di st1' = some st2 := by
  simp only [papply] at h1 h2
  split at h1
  · rename_i d
    split at h1
    · rename_i hb
      injection h1 with h1
      subst h1
      split at h2
      · rename_i e
        have hde : d ≠ e := fun x => hd d rfl (by rw [x])
        simp only [List.getElem?_set_ne hde] at h2
        split at h2
        · rename_i hb'
          injection h2 with h2
          subst h2
          refine ⟨⟨st.ρ.set e (.ptr e 0, 0), st.bx.set e (some ds)⟩, by simp only [papply, hb'], ?_⟩
          simp only [papply, List.getElem?_set_ne (Ne.symm hde), hb]
          simp only [List.set_comm _ _ hde]
        · cases h2
      · cases h2
    · cases h1
  · cases h1

theorem papply_comm {ai aj : PAct} {di dj : Option Tmp} {fi fj : Bool} (hind : indep di dj fi fj ai aj = true) (hd : ∀ t, di = some t → dj ≠ some t) {st st1 st2 : St} (h1 : papply ai di st = some st1) (h2 : papply aj dj st1 = some st2) :
    ∃ st1', papply aj dj st = some st1' ∧ papply ai di st1' = some st2 := by
  have hd' : ∀ t, dj = some t → di ≠ some t := fun t e1 e2 => hd t e2 e1
  cases ai <;> cases aj <;> simp only [indep, Bool.and_eq_true, decide_eq_true_eq, bne_iff_ne, ne_eq, Bool.false_eq_true] at hind
  all_goals first
    | exact val_val rfl rfl hd h1 h2
    | exact (val_store rfl (by intro i o n g e; cases e <;> assumption)).1 _ _ h1 h2
    | exact (val_store rfl (by intro i o n g e; cases e <;> exact fun e => hind e.symm)).2 _ _ h1 h2
    | exact (val_mk rfl hd (by intro i o n g e; cases e <;> assumption)).1 _ _ h1 h2
    | exact (val_mk rfl hd' (by intro i o n g e; cases e <;> assumption)).2 _ _ h1 h2
    | exact (val_own rfl hd (by intro v t e; cases e <;> exact hind.2)).1 _ _ h1 h2
    | exact (val_own rfl hd' (by intro v t e; cases e <;> exact hind.2)).2 _ _ h1 h2
    | exact store_store hind h1 h2
    | exact (store_mk hind).1 _ _ h1 h2
    | exact (store_mk hind).2 _ _ h1 h2
    | exact mk_mk hd h1 h2

/-! ### steps -/
theorem presolve_agree {R : Type} {kk kk' : PAct → Option R} (h1 : ∀ v t, kk (.val v t) = kk' (.val v t)) (h2 : ∀ a b c d, kk (.load a b c d) = kk' (.load a b c d)) (h3 : ∀ a b c, kk (.store a b c) = kk' (.store a b c)) (h4 : ∀ a, kk (.mk a) = kk' (.mk a)) (h5 : ∀ a b, kk (.own a b) = kk' (.own a b))
    (st : St) (o : Oper) : presolve en st o kk = presolve en st o kk' := by
  unfold presolve pbuiltin
  simp only [h1, h2, h3, h4, h5]
theorem presolve_ne_skip (hE : ∀ f fn, en.E f = some fn → fn.nat) {st : St} {o : Oper} : presolve en st o some ≠ some .skip := by
  intro h
  have := presolve_agree (en := en) (kk := some) (kk' := fun a => match a with | .skip => none | a => some a) (fun _ _ => rfl) (fun _ _ _ _ => rfl) (fun _ _ _ => rfl) (fun _ => rfl) (fun _ _ => rfl) st o
  rw [presolve_nat en hE (kk := fun a => match a with | .skip => none | a => some a), h] at this
  cases this

theorem papply_slot {act : PAct} {d : Option Tmp} {st st1 : St} (h : papply act d st = some st1) (ho : ∀ c v, act ≠ .own c v) {t : Nat} (ht : d ≠ some t) : st1.ρ[t]? = st.ρ[t]? := by
  have key : ∀ x, (putS d x st).ρ[t]? = st.ρ[t]? := fun x => by rw [putS_eq]; exact putR_get ht
  cases act with
  | store i o cs =>
    simp only [papply] at h
    split at h
    · obtain ⟨_, h⟩ := ite_inv h; injection h with h; subst h; rfl
    · cases h
  | mk cs =>
    simp only [papply] at h
    split at h
    · rename_i d
      split at h
      · injection h with h; subst h; exact List.getElem?_set_ne (fun e => ht (by rw [e]))
      · cases h
    · cases h
  | own c v => exact (ho _ _ rfl).elim
  | skip => obtain ⟨x, _, rfl⟩ := (papply_v rfl).1 h; exact key x
  | val v c => obtain ⟨x, _, rfl⟩ := (papply_v rfl).1 h; exact key x
  | load i o n g => obtain ⟨x, _, rfl⟩ := (papply_v rfl).1 h; exact key x
theorem papply_fst {act : PAct} {d : Option Tmp} {st st1 : St} (h : papply act d st = some st1) {t : Nat} (ht : d ≠ some t) : (st1.ρ[t]?).map (·.1) = (st.ρ[t]?).map (·.1) := by
  cases act with
  | own c v =>
    simp only [papply] at h
    split at h
    · rename_i d
      injection h with h
      subst h
      simp only [St.clr]
      rw [List.getElem?_set_ne (fun e => ht (by rw [e]))]
      simp only [List.getElem?_map, Option.map_map]
      congr 1
      funext x
      simp [clr_fst]
    · cases h
  | _ => rw [papply_slot h (by simp) ht]

/-- an operation sees the same behind another one's act -/
theorem sees (hE : ∀ f fn, en.E f = some fn → fn.nat) {o : Oper} {act a' : PAct} {d : Option Tmp} {st st1 : St} (h : papply a' d st = some st1) (hd : ∀ t, d = some t → t ∉ o.looksAt ops) (hf : (∃ c v, a' = .own c v) → act = .skip ∨ tagFree en.P o = true) :
    guardT ops o st1 = guardT ops o st ∧ (act ≠ .skip → presolve en st1 o (R := PAct) some = presolve en st o some) := by
  have hne : ∀ t ∈ o.looksAt ops, d ≠ some t := fun t ht e => hd t e ht
  refine ⟨guardT_congr fun t ht => papply_fst h (hne t ht), fun hs => ?_⟩
  by_cases hown : ∃ c v, a' = .own c v
  · have hf := (hf hown).resolve_left hs
    exact presolve_free hf (fun x hx t => ev_fst (fun u hu => papply_fst h (hne u (tmp_looks (ops := ops) (by rw [← hu]; exact hx)))) t) _
  · exact presolve_same (ops := ops) (fun t ht => papply_slot h (fun c v e => hown ⟨c, v, e⟩) (hne t ht)) _

theorem step_swap (hE : ∀ f fn, en.E f = some fn → fn.nat) {oi oj : Oper} {ai aj : PAct} (hap : oi.apart ops oj = true) (hind : indep oi.dst oj.dst (tagFree en.P oi) (tagFree en.P oj) ai aj = true) {st st1 st2 : St} (h1 : stepAct en ops oi ai st st1) (h2 : stepAct en ops oj aj st1 st2) :
    ∃ st1', stepAct en ops oj aj st st1' ∧ stepAct en ops oi ai st1' st2 := by
  obtain ⟨hd1, hd2, hd3⟩ := Oper.apart_spec hap
  have p1 : papply ai oi.dst st = some st1 := by
    rcases h1 with ⟨_, _, h⟩ | ⟨_, rfl, rfl⟩
    · exact h
    · rfl
  have p2 : papply aj oj.dst st1 = some st2 := by
    rcases h2 with ⟨_, _, h⟩ | ⟨_, rfl, rfl⟩
    · exact h
    · rfl
  obtain ⟨st1', q1, q2⟩ := papply_comm hind (fun t e => hd2 t e) p1 p2
  have fj : (∃ c v, ai = .own c v) → aj = .skip ∨ tagFree en.P oj = true := by
    rintro ⟨c, v, rfl⟩
    cases aj <;> simp [indep] at hind <;> first | exact .inl rfl | exact .inr hind.1 | exact .inr hind
  have fi : (∃ c v, aj = .own c v) → ai = .skip ∨ tagFree en.P oi = true := by
    rintro ⟨c, v, rfl⟩
    cases ai <;> simp [indep] at hind <;> first | exact .inl rfl | exact .inr hind.1 | exact .inr hind
  obtain ⟨gj, rj⟩ := sees (o := oj) (act := aj) hE p1 (fun t e => hd1 t e) fj
  obtain ⟨gi, ri⟩ := sees (o := oi) (act := ai) hE q1 (fun t e => hd3 t e) fi
  refine ⟨st1', ?_, ?_⟩
  · rcases h2 with ⟨k1, k2, _⟩ | ⟨k1, k2, k3⟩
    · have hns : aj ≠ .skip := fun e => presolve_ne_skip hE (by rw [← e]; exact k2)
      exact .inl ⟨by rw [← gj]; exact k1, by rw [← rj hns]; exact k2, q1⟩
    · subst k2
      exact .inr ⟨by rw [← gj]; exact k1, rfl, by
        have : papply .skip oj.dst st = some (putS oj.dst (.tuple [], 0) st) := rfl
        rw [this] at q1
        injection q1 with q1
        exact q1.symm⟩
  · rcases h1 with ⟨k1, k2, _⟩ | ⟨k1, k2, k3⟩
    · have hns : ai ≠ .skip := fun e => presolve_ne_skip hE (by rw [← e]; exact k2)
      exact .inl ⟨by rw [gi]; exact k1, by rw [ri hns]; exact k2, q2⟩
    · subst k2
      exact .inr ⟨by rw [gi]; exact k1, rfl, by
        have : papply .skip oi.dst st1' = some (putS oi.dst (.tuple [], 0) st1') := rfl
        rw [this] at q2
        injection q2 with q2
        exact q2.symm⟩

/-- an operation that may come up now may be taken first -/
theorem pAny_first (hE : ∀ f fn, en.E f = some fn → fn.nat) {acts : Nat → PAct} {Q : St → Prop} {i : Nat} {oi : Oper} (hi : ops[i]? = some oi) :
    ∀ (fuel : Nat) (listed : Array Bool) (st st1 : St),
      (∀ j oj, ops[j]? = some oj → j ≠ i → listed.getD j true = false → (∀ e ∈ oj.after, Region.binds .any e = true → e.on ≠ i) → oi.apart ops oj = true ∧ indep oi.dst oj.dst (tagFree en.P oi) (tagFree en.P oj) (acts i) (acts j) = true) →
      i ∈ Region.ready .any ops listed → stepAct en ops oi (acts i) st st1 →
      pAny en ops acts Q fuel (listed.setIfInBounds i true) st1 → pAny en ops acts Q (fuel + 1) listed st := by
  intro fuel
  induction fuel with
  | zero =>
    intro listed st st1 _ hr hy H
    refine ⟨fun h => (by rw [h] at hr; cases hr), fun j hj o ho => ?_⟩
    by_cases hji : j = i
    · subst hji
      rw [hi] at ho
      injection ho with ho
      subst ho
      exact ⟨st1, hy, H⟩
    · have := ready_mono hj hji
      rw [H.1] at this
      cases this
  | succ fuel ih =>
    intro listed st st1 hfree hr hy H
    refine ⟨fun h => (by rw [h] at hr; cases hr), fun j hj o ho => ?_⟩
    by_cases hji : j = i
    · subst hji
      rw [hi] at ho
      injection ho with ho
      subst ho
      exact ⟨st1, hy, H⟩
    · obtain ⟨hjun, oj, hoj, hall⟩ := mem_ready.1 hj
      rw [hoj] at ho
      injection ho with ho
      subst ho
      obtain ⟨st2, h1, h2⟩ := H.2 j (ready_mono hj hji) oj hoj
      have hnot : ∀ e ∈ oj.after, Region.binds .any e = true → e.on ≠ i := fun e he hb heq => by
        have h1 := hall e he hb
        have h0 := (mem_ready.1 hr).1
        rw [heq] at h1
        rcases Nat.lt_or_ge i listed.size with h' | h'
        · simp [h'] at h0 h1; rw [h0] at h1; cases h1
        · simp [Array.getElem?_eq_none h'] at h1
      obtain ⟨hap, hind⟩ := hfree j oj hoj hji hjun hnot
      obtain ⟨st1', k1, k2⟩ := step_swap hE hap hind hy h1
      have hfree' : ∀ k ok, ops[k]? = some ok → k ≠ i → (listed.setIfInBounds j true).getD k true = false →
          (∀ e ∈ ok.after, Region.binds .any e = true → e.on ≠ i) → oi.apart ops ok = true ∧ indep oi.dst ok.dst (tagFree en.P oi) (tagFree en.P ok) (acts i) (acts k) = true := fun k ok hk hki hun hno => by
        refine hfree k ok hk hki ?_ hno
        by_cases hjk : j = k
        · subst hjk; exact hjun
        · rw [getD_set_ne true hjk] at hun; exact hun
      refine ⟨st1', k1, ih (listed.setIfInBounds j true) st1' st2 hfree' (ready_mono hr (Ne.symm hji)) k2 ?_⟩
      rw [Array.setIfInBounds_comm _ _ hji]
      exact h2
end

end Go.Proofs.YtllpobcecingiaaGreatDoor
