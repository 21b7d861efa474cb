/-
  Regions: in the order of the text, and in any order that a draw may take.
-/
import Derived.Test.YtllpobcecingiaaGreatDoorPq
set_option linter.unusedVariables false
set_option linter.unusedSimpArgs false
namespace Go.Proofs.YtllpobcecingiaaGreatDoor
open Go.RowKit

/-! ## one operation, pure -/
def guardT (ops : Array Oper) (o : Oper) (st : St) : Option Bool :=
  match o.guard with
  | none => some true
  | some (j, want) =>
    match (ops[j]?).bind (·.dst) with
    | none => some false
    | some t =>
      match st.ρ[t]? with
      | some (.bool b, _) => some (b == want)
      | some (.tuple [], _) => some false
      | _ => none
def stepAct (en : Env) (ops : Array Oper) (o : Oper) (act : PAct) (st st1 : St) : Prop :=
  (guardT ops o st = some true ∧ presolve en st o some = some act ∧ papply act o.dst st = some st1) ∨ (guardT ops o st = some false ∧ act = .skip ∧ st1 = putS o.dst (.tuple [], 0) st)

theorem set_same {α : Type} : ∀ {l : List α} {t : Nat} {x : α}, l[t]? = some x → l.set t x = l
  | [], t, x, h => by simp at h
  | a :: l, 0, x, h => by simp at h; subst h; rfl
  | a :: l, t + 1, x, h => by simp at h; simp [set_same h]

theorem pguard_inv {R : Type} {ops : Array Oper} {o : Oper} {st : St} {kT kF : St → Option R} {r : R} (h : pguard ops o st kT kF = some r) : (guardT ops o st = some true ∧ kT st = some r) ∨ (guardT ops o st = some false ∧ kF st = some r) := by
  unfold pguard at h
  unfold guardT
  split at h
  · rename_i hg; rw [hg]; exact .inl ⟨rfl, h⟩
  · rename_i j want hg
    rw [hg]
    simp only
    split at h
    · rename_i hd; rw [hd]; exact .inr ⟨rfl, h⟩
    · rename_i t hd
      rw [hd]
      simp only
      split at h
      · rename_i b c hb
        rw [hb]
        have e : { st with ρ := st.ρ.set t (.bool b, c) } = st := by rw [set_same hb]
        cases b <;> cases want <;> simp only [cond_true, cond_false, if_true, if_false, Bool.false_eq_true] at h <;> rw [e] at h <;> simp [h]
      · rename_i c hb; rw [hb]; exact .inr ⟨rfl, h⟩
      · cases h

def lexRun (en : Env) (ops : Array Oper) : List Oper → List PAct → St → St → Prop
  | [], [], st, st' => st = st'
  | o :: rest, act :: acts, st, st' => ∃ st1, stepAct en ops o act st st1 ∧ lexRun en ops rest acts st1 st'
  | _, _, _, _ => False

theorem pops_lex {R : Type} {en : Env} (hE : ∀ f fn, en.E f = some fn → fn.nat) {ops : Array Oper} : ∀ (rest : List Oper) (acc : List PAct) (st : St) (k : St → List PAct → Option R) (r : R), pops en ops rest acc st k = some r →
    ∃ acts st', lexRun en ops rest acts st st' ∧ k st' (acts.reverse ++ acc) = some r
  | [], acc, st, k, r, h => ⟨[], st, rfl, h⟩
  | o :: rest, acc, st, k, r, h => by
    simp only [pops] at h
    rcases pguard_inv h with ⟨hg, h⟩ | ⟨hg, h⟩
    · rw [presolve_nat en hE] at h
      obtain ⟨act, ha, h⟩ := bind_some_inv h
      split at h
      · rename_i st1 hp
        obtain ⟨acts, st', h1, h2⟩ := pops_lex hE rest _ _ _ _ h
        exact ⟨act :: acts, st', ⟨st1, .inl ⟨hg, ha, hp⟩, h1⟩, by simpa using h2⟩
      · cases h
    · obtain ⟨acts, st', h1, h2⟩ := pops_lex hE rest _ _ _ _ h
      exact ⟨.skip :: acts, st', ⟨_, .inr ⟨hg, rfl, rfl⟩, h1⟩, by simpa using h2⟩

/-! ## one operation, carried out -/
section
variable {en : Env} {NG : Nat} {W : World → Prop}
theorem guard_ok {M0 : Mem} {st : St} {a : Act} {M : Mem} {β κ : Nat → Option Nat} (hI : Inv NG M0 st a M β κ) {ops : Array Oper} {o : Oper} {b : Bool} (h : guardT ops o st = some b) : Region.wanted o (yielded ops a.tmps) = b := by
  unfold guardT at h
  unfold Region.wanted
  split at h
  · rename_i hg; rw [hg]; injection h
  · rename_i j want hg
    rw [hg]
    simp only
    unfold yielded
    split at h
    · rename_i hd
      rw [hd]
      cases h
      cases want <;> rfl
    · rename_i t hd
      rw [hd]
      simp only [Option.bind_some]
      split at h
      · rename_i b' c hb
        obtain ⟨v, h1, h2, _⟩ := hI.slot t _ hb
        have h2 := rel_bool h2
        rw [h1, h2]
        cases h
        cases b' <;> cases want <;> rfl
      · rename_i c hb
        obtain ⟨v, h1, h2, _⟩ := hI.slot t _ hb
        have h2 : RelD M (.tuple []) v := h2
        simp only [RelD, RelT] at h2
        obtain ⟨vs, h2, rfl⟩ := h2
        rw [h1, h2]
        cases h
        cases want <;> rfl
      · cases h

theorem rel_void {M : Mem} {β : Nat → Option Nat} : RelS M β (.tuple []) undef := by
  show RelD M (.tuple []) _
  simp only [RelD, RelT]
  exact ⟨[], rfl, rfl⟩

theorem step_sim (hE : EnvOK en NG W) {M0 : Mem} {st st1 : St} {a : Act} {M : Mem} {β κ : Nat → Option Nat} (hI : Inv NG M0 st a M β κ) (hG : GOK en M0) (hW : W M0.w) {ops : Array Oper} {o : Oper} (hok : opOK en.P o = true) {act : PAct} (h : stepAct en ops o act st st1)
    {Q : Exit → Act → World → Prop} {K : Act → World → Prop} (hn : ∀ a' M' β' κ', Inv NG M0 st1 a' M' β' κ' → K a' M'.w) :
    if Region.wanted o (yielded ops a.tmps) then o.wp en.P a M.w K Q ∨ (o.asks en.P a M.w ∧ LetsOut Q) else K (a.put o.dst undef) M.w := by
  rcases h with ⟨hg, h1, h2⟩ | ⟨hg, rfl, rfl⟩
  · rw [guard_ok hI hg]
    simp only [if_true]
    exact .inl (sim_op hE hok h1 M0 a M β κ hI hG hW st1 h2 K Q hn)
  · rw [guard_ok hI hg]
    simp only [Bool.false_eq_true, if_false]
    exact hn _ M β κ (hI.put o.dst (x := (.tuple [], 0)) rel_void (.inl rfl))

theorem lex_sim (hE : EnvOK en NG W) {M0 : Mem} (hG : GOK en M0) (hW : W M0.w) {ops : Array Oper} {Q : Exit → Act → World → Prop} : ∀ (rest : List Oper) (acts : List PAct) (st st' : St), lexRun en ops rest acts st st' → (∀ o ∈ rest, opOK en.P o = true) →
    ∀ (a : Act) (M : Mem) (β κ : Nat → Option Nat), Inv NG M0 st a M β κ → (∀ a' M' β' κ', Inv NG M0 st' a' M' β' κ' → Q .normal a' M'.w) → wpList en.P ops Q rest a M.w
  | [], [], st, st', h, _, a, M, β, κ, hI, hn => by
    simp only [lexRun] at h
    subst h
    exact hn a M β κ hI
  | o :: rest, act :: acts, st, st', h, hok, a, M, β, κ, hI, hn => by
    obtain ⟨st1, h1, h2⟩ := h
    unfold wpList
    exact step_sim hE hI hG hW (hok o (by simp)) h1 fun a' M' β' κ' hI' => lex_sim hE hG hW rest acts st1 st' h2 (fun o ho => hok o (by simp [ho])) a' M' β' κ' hI' hn
  | [], _ :: _, _, _, h, _, _, _, _, _, _, _ => h.elim
  | _ :: _, [], _, _, h, _, _, _, _, _, _, _ => h.elim
end

/-! ## any order -/
section
variable {en : Env} {ops : Array Oper}
def pAny (en : Env) (ops : Array Oper) (acts : Nat → PAct) (Q : St → Prop) : Nat → Array Bool → St → Prop
  | 0, listed, st => Region.ready .any ops listed = [] ∧ Q st
  | fuel + 1, listed, st => (Region.ready .any ops listed = [] → Q st) ∧ ∀ i ∈ Region.ready .any ops listed, ∀ o, ops[i]? = some o → ∃ st1, stepAct en ops o (acts i) st st1 ∧ pAny en ops acts Q fuel (listed.setIfInBounds i true) st1

theorem any_sim {NG : Nat} {W : World → Prop} (hE : EnvOK en NG W) {M0 : Mem} (hG : GOK en M0) (hW : W M0.w) {Q : Exit → Act → World → Prop} {acts : Nat → PAct} {PQ : St → Prop} (hok : ∀ o ∈ ops.toList, opOK en.P o = true)
    (hQ : ∀ st a M β κ, PQ st → Inv NG M0 st a M β κ → Q .normal a M.w) : ∀ (fuel : Nat) (listed : Array Bool) (st : St), pAny en ops acts PQ fuel listed st →
    ∀ (a : Act) (M : Mem) (β κ : Nat → Option Nat), Inv NG M0 st a M β κ → wpAny en.P .any ops Q fuel listed a M.w
  | 0, listed, st, h, a, M, β, κ, hI => ⟨h.1, hQ _ _ _ _ _ h.2 hI⟩
  | fuel + 1, listed, st, h, a, M, β, κ, hI => by
    refine ⟨fun h0 => hQ _ _ _ _ _ (h.1 h0) hI, fun i hi => ?_⟩
    unfold wpOp
    split
    · rename_i hn
      obtain ⟨_, oj, hoj, _⟩ := mem_ready.1 hi
      rw [hoj] at hn
      cases hn
    · rename_i o ho
      obtain ⟨st1, h1, h2⟩ := h.2 i hi o ho
      exact step_sim hE hI hG hW (hok o (Array.mem_toList_iff.2 (Array.mem_of_getElem? ho))) h1 fun a' M' β' κ' hI' => any_sim hE hG hW hok hQ fuel _ st1 h2 a' M' β' κ' hI'

/-! ### what an operation looks at -/
theorem ev_congr {st st' : St} {x : Operand} (h : ∀ t, x = .tmp t → st.ρ[t]? = st'.ρ[t]?) (t : TypeId) : ev en st t x = ev en st' t x := by
  cases x with
  | tmp u => simp only [ev, List.getD, h u rfl]
  | _ => rfl
theorem args_congr {st st' : St} : ∀ (l : List Operand) (ts : List TypeId), (∀ x ∈ l, ∀ t, ev en st t x = ev en st' t x) → argTVs en st l ts = argTVs en st' l ts
  | [], _, _ => rfl
  | x :: l, ts, h => by
    simp only [argTVs]
    rw [h x (by simp), args_congr l ts.tail (fun y hy => h y (by simp [hy]))]
theorem parts_congr {st st' : St} {place : Nat → Option (Nat × Nat × TypeId)} : ∀ (l : List (Nat × Operand)), (∀ p ∈ l, ∀ t, ev en st t p.2 = ev en st' t p.2) → pbuildParts en st place l = pbuildParts en st' place l
  | [], _ => rfl
  | (i, x) :: l, h => by
    simp only [pbuildParts]
    rw [parts_congr l (fun p hp => h p (by simp [hp]))]
    split
    · rw [h (i, x) (by simp)]
    · rfl
theorem presolve_congr {R : Type} {st st' : St} {o : Oper} (h : ∀ x ∈ o.op.operands, ∀ t, ev en st t x = ev en st' t x) (k : PAct → Option R) : presolve en st o k = presolve en st' o k := by
  unfold presolve
  obtain ⟨dst, op, ty, pos, after, guard⟩ := o
  cases op <;> simp only [Op.operands] at h <;> simp only
  case call c =>
    have hargs := args_congr (en := en) (st := st) (st' := st') c.args.toList c.argTypes.toList (fun x hx => h x (by simp [Call.operands]; right; exact Array.mem_toList_iff.1 hx))
    cases hc : c.callee with
    | value f =>
      have hf := h f (by simp [Call.operands, hc])
      simp only [hf, hargs]
    | builtin b => simp only [hargs]
    | invoke r m => rfl
  case build t ps =>
    have hp := fun place => parts_congr (en := en) (st := st) (st' := st') (place := place) ps.toList (fun p hp => h p.2 (by simp; exact ⟨p.1, by simpa using hp⟩))
    simp only [hp]
  case buildSlice t n ps =>
    have hp := fun place => parts_congr (en := en) (st := st) (st' := st') (place := place) ps.toList (fun p hp => h p.2 (by simp; exact ⟨p.1, by simpa using hp⟩))
    simp only [hp]
  case slice t x lo hi mx =>
    have hx := h x (by simp)
    have hlo : (lo.map fun y => (ev en st 0 y).1) = lo.map fun y => (ev en st' 0 y).1 := by cases lo <;> simp; rw [h _ (by simp)]
    have hhi : (hi.map fun y => (ev en st 0 y).1) = hi.map fun y => (ev en st' 0 y).1 := by cases hi <;> simp; rw [h _ (by simp)]
    have hmx : (mx.map fun y => (ev en st 0 y).1) = mx.map fun y => (ev en st' 0 y).1 := by cases mx <;> simp; rw [h _ (by simp)]
    simp only [hx, hlo, hhi, hmx]
  all_goals first
    | rfl
    | (simp only [h _ (by simp)])
    | (simp [h])
end

end Go.Proofs.YtllpobcecingiaaGreatDoor
