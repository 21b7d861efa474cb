/-
  Each operation: what the evaluator's act says of it, the machine does. Part 1: operations that yield a value.
-/
import Derived.Test.YtllpobcecingiaaGreatDoorPi
set_option linter.unusedVariables false
set_option linter.unusedSimpArgs false
namespace Go.Proofs.YtllpobcecingiaaGreatDoor
open Go.RowKit

def Sim (en : Env) (NG : Nat) (W : World → Prop) (st : St) (o : Oper) (act : PAct) : Prop :=
  ∀ (M0 : Mem) (a : Act) (M : Mem) (β κ : Nat → Option Nat), Inv NG M0 st a M β κ → GOK en M0 → W M0.w →
  ∀ st', papply act o.dst st = some st' → ∀ (next : Act → World → Prop) (Q : Exit → Act → World → Prop),
    (∀ a' M' β' κ', Inv NG M0 st' a' M' β' κ' → next a' M'.w) → o.wp en.P a M.w next Q

theorem wp_value {P : Program} {o : Oper} {a : Act} {w w' : World} {v : Value} {next : Act → World → Prop} {Q : Exit → Act → World → Prop}
    (h : (execOp a.eval o).run P w = .ok (.value v) w') (hn : next (a.put o.dst v) w') : o.wp P a w next Q := by
  unfold Oper.wp
  rw [h]
  exact hn
theorem wp_none {P : Program} {o : Oper} {a : Act} {w w' : World} {next : Act → World → Prop} {Q : Exit → Act → World → Prop}
    (h : (execOp a.eval o).run P w = .ok .skip w') (hn : next (a.put o.dst undef) w') : o.wp P a w next Q := by
  unfold Oper.wp
  rw [h]
  exact hn

section
variable {en : Env} {NG : Nat} {W : World → Prop} {st : St} {o : Oper}

theorem sim_val {x : PV} {c : Nat} (h : ∀ (M0 : Mem) (a : Act) (M : Mem) (β κ : Nat → Option Nat), Inv NG M0 st a M β κ → GOK en M0 → W M0.w →
    ∃ v M', (execOp a.eval o).run en.P M.w = .ok (.value v) M'.w ∧ Move M M' none ∧ RelS M' β x v ∧ TagOK M' κ x c v) : Sim en NG W st o (.val x c) := by
  intro M0 a M β κ hI hG hW st' hst next Q hn
  obtain ⟨v, M', h1, h2, h3, h4⟩ := h M0 a M β κ hI hG hW
  simp only [papply, actVal, Option.map_some, Option.some.injEq] at hst
  subst hst
  exact wp_value h1 (hn _ M' β κ ((hI.grow h2).put o.dst h3 h4))
/-- the world is as it was -/
theorem sim_same {x : PV} {c : Nat} (h : ∀ (M0 : Mem) (a : Act) (M : Mem) (β κ : Nat → Option Nat), Inv NG M0 st a M β κ → GOK en M0 → W M0.w →
    ∃ v, (execOp a.eval o).run en.P M.w = .ok (.value v) M.w ∧ RelS M β x v ∧ TagOK M κ x c v) : Sim en NG W st o (.val x c) :=
  sim_val fun M0 a M β κ hI hG hW => let ⟨v, h1, h2, h3⟩ := h M0 a M β κ hI hG hW; ⟨v, M, h1, Move.refl M, h2, h3⟩

theorem rel_int {M : Mem} {β : Nat → Option Nat} {k : IntKind} {n : Int} {v : Value} (h : RelS M β (.int k n) v) : v = .int k n := h
theorem rel_bool {M : Mem} {β : Nat → Option Nat} {b : Bool} {v : Value} (h : RelS M β (.bool b) v) : v = .bool b := h
theorem rel_str {M : Mem} {β : Nat → Option Nat} {s : List UInt8} {v : Value} (h : RelS M β (.str s) v) : v = .string ⟨s.toArray⟩ := h

theorem sim_move {x : Operand} (ho : o.op = .move x) {act : PAct} (h : presolve en st o some = some act) : Sim en NG W st o act := by
  simp only [presolve, ho, Option.some.injEq] at h
  subst h
  refine sim_same fun M0 a M β κ hI hG _ => ?_
  obtain ⟨h1, h2⟩ := hI.ev hG o.type x
  refine ⟨a.eval x, by simp [execOp, ho], h1, ?_⟩
  split
  · exact h2
  · exact .inl rfl
theorem sim_assign {x : Operand} (ho : o.op = .assign x) {act : PAct} (h : presolve en st o some = some act) : Sim en NG W st o act := by
  simp only [presolve, ho, Option.some.injEq] at h
  subst h
  refine sim_same fun M0 a M β κ hI hG _ => ?_
  obtain ⟨h1, h2⟩ := hI.ev hG o.type x
  refine ⟨a.eval x, by simp [execOp, ho], h1, ?_⟩
  split
  · exact h2
  · exact .inl rfl

theorem sim_pick {c x y : Operand} (ho : o.op = .pick c x y) {act : PAct} (h : presolve en st o some = some act) : Sim en NG W st o act := by
  simp only [presolve, ho] at h
  split at h
  · rename_i cb hc
    have hcv : ∀ {M0 : Mem} {a : Act} {M : Mem} {β κ : Nat → Option Nat}, Inv NG M0 st a M β κ → GOK en M0 → a.eval c = .bool cb := fun hI hG => by
      have := (hI.ev hG o.type c).1
      rw [hc] at this
      exact this
    have hrun : ∀ {M0 : Mem} {a : Act} {M : Mem} {β κ : Nat → Option Nat}, Inv NG M0 st a M β κ → GOK en M0 → (execOp a.eval o).run en.P M.w = .ok (.value (if cb then a.eval x else a.eval y)) M.w := fun hI hG => by
      simp [execOp, ho, hcv hI hG, asBool]
    split at h
    · rename_i bx bY hx hy
      simp only [Option.some.injEq] at h
      subst h
      refine sim_same fun M0 a M β κ hI hG _ => ⟨_, hrun hI hG, ?_, .inl rfl⟩
      have h1 := (hI.ev hG o.type x).1
      have h2 := (hI.ev hG o.type y).1
      rw [hx] at h1
      rw [hy] at h2
      rw [rel_bool h1, rel_bool h2]
      cases cb <;> rfl
    · cases cb
      · simp only [cond_false, Option.some.injEq] at h
        subst h
        refine sim_same fun M0 a M β κ hI hG _ => ⟨_, hrun hI hG, ?_, .inl rfl⟩
        exact (hI.ev hG o.type y).1
      · simp only [cond_true, Option.some.injEq] at h
        subst h
        refine sim_same fun M0 a M β κ hI hG _ => ⟨_, hrun hI hG, ?_, .inl rfl⟩
        exact (hI.ev hG o.type x).1
  · cases h

/-! ### operators -/
theorem eqGuard_other {P : Program} {w : World} {op : BinOp} {t : TypeId} {x y : Operand} {a b : Value} (h1 : a = .nilIface → b = .nilIface → ∃ c, y = .const c) (h2 : ∀ xs ys, a = .agg xs → b = .agg ys → False) :
    (eqGuard op t x y a b).run P w = .ok () w := by
  unfold eqGuard
  cases op <;> first
    | rfl
    | (cases a <;> cases b <;> first
        | rfl
        | exact (h2 _ _ rfl rfl).elim
        | (obtain ⟨c, rfl⟩ := h1 rfl rfl
           simp))

theorem pint_ok {P : Program} {w : World} {op : BinOp} {k : IntKind} {a b : Int} {v : PV} (h : pint op k a b some = some v) (t : TypeId) (hs : op ≠ .shl) (hr : op ≠ .shr) :
    ∃ u, (binOp op t (.int k a) (.int k b)).run P w = .ok u w ∧ ∀ M β, RelS M β v u := by
  cases op <;> simp only [pint, Option.some.injEq] at h <;> first
    | (subst h; exact ⟨_, by simp [binOp, Op.intArith, Op.intBits, Op.intCmp], fun _ _ => rfl⟩)
    | (rcases hb : (b == 0) with _ | _ <;> simp only [hb, cond_true, cond_false, Option.some.injEq, reduceCtorEq] at h
       subst h
       have hb' : b ≠ 0 := by simpa using hb
       exact ⟨_, by simp [binOp, Op.intDiv, hb'], fun _ _ => rfl⟩)
    | exact (hs rfl).elim
    | exact (hr rfl).elim

theorem pstr_ok {P : Program} {w : World} {op : BinOp} {a b : List UInt8} {v : PV} (h : pstr op a b some = some v) (t : TypeId) :
    ∃ u, (binOp op t (.string ⟨a.toArray⟩) (.string ⟨b.toArray⟩)).run P w = .ok u w ∧ ∀ M β, RelS M β v u := by
  cases op <;> simp only [pstr, Option.some.injEq, reduceCtorEq] at h
  case add =>
    rcases hb : decide (a.length + b.length ≤ 9223372036854775807) with _ | _ <;> simp only [hb, cond_true, cond_false, Option.some.injEq, reduceCtorEq] at h
    subst h
    have hb' : a.length + b.length ≤ 9223372036854775807 := by simpa using hb
    refine ⟨.string ⟨(a ++ b).toArray⟩, ?_, fun _ _ => rfl⟩
    have hs : ¬ ((((⟨a.toArray⟩ : ByteArray).size + (⟨b.toArray⟩ : ByteArray).size : Nat) : Int) > IntKind.i64.max) := by
      simp only [ByteArray.size, List.size_toArray, IntKind.max, IntKind.signed, IntKind.bits]
      simp
      omega
    have he : (⟨a.toArray⟩ : ByteArray) ++ (⟨b.toArray⟩ : ByteArray) = ⟨(a ++ b).toArray⟩ := by
      apply ByteArray.ext
      simp [ByteArray.data_append]
    simp only [binOp, Op.stringOp, if_neg hs, Sem.run_pure, he]
  all_goals
    subst h
    exact ⟨_, by simp [binOp, Op.stringOp, bne], fun _ _ => rfl⟩

theorem run_und {P : Program} {t : TypeId} {d : TypeDesc} (h : P.underlying t = some d) (w : World) : (underlying t).run P w = .ok d w := run_underlying h w
theorem isSliceT_spec {P : Program} {t : TypeId} (h : isSliceT P t = true) : ∃ e, P.underlying t = some (.slice e) := by
  unfold isSliceT at h
  split at h
  · exact ⟨_, by assumption⟩
  · cases h
theorem isPtrT_spec {P : Program} {t : TypeId} (h : isPtrT P t = true) : ∃ e, P.underlying t = some (.pointer e) := by
  unfold isPtrT at h
  split at h
  · exact ⟨_, by assumption⟩
  · cases h
theorem isIfaceT_spec {P : Program} {t : TypeId} (h : isIfaceT P t = true) : ∃ e, P.underlying t = some (.interface e) := by
  unfold isIfaceT at h
  split at h
  · exact ⟨_, by assumption⟩
  · cases h
theorem isFuncT_spec {P : Program} {t : TypeId} (h : isFuncT P t = true) : ∃ a b c, P.underlying t = some (.func a b c) := by
  unfold isFuncT at h
  split at h
  · exact ⟨_, _, _, by assumption⟩
  · cases h
theorem isBoolT_spec {P : Program} {t : TypeId} (h : isBoolT P t = true) : P.underlying t = some .bool := by
  unfold isBoolT at h
  split at h
  · assumption
  · cases h

theorem equal_in (t : TypeId) : ∃ d, ∀ x y, Op.equal t x y = Op.equalIn (d + 1) t x y := ⟨9999, fun _ _ => rfl⟩

theorem nil_ok {P : Program} {w : World} {M : Mem} {β : Nat → Option Nat} {t : TypeId} {x : PV} {a c : Value} {b : Bool} (hx : nilCmp P t x c = some b) (hr : RelS M β x a) :
    (Op.equal t a c).run P w = .ok b w ∧ (a = .nilIface → ∃ c', Operand.const c = .const c') ∧ (∀ xs, a ≠ .agg xs) ∧ (∀ k n, a ≠ .int k n) ∧ (∀ s, a ≠ .string s) ∧ (∀ k n, a ≠ .float k n) ∧ (∀ k n m, a ≠ .complex k n m) := by
  obtain ⟨d, hd⟩ := equal_in t
  rw [hd]
  unfold nilCmp at hx
  split at hx
  · split at hx
    · rename_i ht
      obtain ⟨e, ht⟩ := isSliceT_spec ht
      split at hx
      · obtain ⟨A, c', vs, rfl, _, _, h4, _⟩ := (show RelD M _ _ from hr)
        have := h4 b hx
        refine ⟨?_, by simp, by simp, by simp, by simp, by simp, by simp⟩
        cases A <;> simp [Op.equalIn, run_und ht] at this ⊢ <;> exact this
      · cases hx
    · cases hx
  · split at hx
    · rename_i ht
      obtain ⟨e, ht⟩ := isPtrT_spec ht
      split at hx <;> simp only [Option.some.injEq, reduceCtorEq] at hx <;> subst hx
      · obtain rfl : a = .pointer none := hr
        exact ⟨by simp [Op.equalIn, run_und ht], by simp, by simp, by simp, by simp, by simp, by simp⟩
      · obtain ⟨ad, rfl⟩ : ∃ ad, a = .pointer (some ad) := hr
        exact ⟨by simp [Op.equalIn, run_und ht], by simp, by simp, by simp, by simp, by simp, by simp⟩
      · obtain ⟨b', _, rfl⟩ := hr
        exact ⟨by simp [Op.equalIn, run_und ht], by simp, by simp, by simp, by simp, by simp, by simp⟩
      · obtain ⟨b', _, _, rfl, _⟩ := hr
        exact ⟨by simp [Op.equalIn, run_und ht], by simp, by simp, by simp, by simp, by simp, by simp⟩
    · cases hx
  · split at hx
    · rename_i ht
      obtain ⟨e, ht⟩ := isIfaceT_spec ht
      split at hx <;> simp only [Option.some.injEq, reduceCtorEq] at hx <;> subst hx
      · obtain rfl : a = .nilIface := hr
        exact ⟨by simp [Op.equalIn, run_und ht], by simp, by simp, by simp, by simp, by simp, by simp⟩
      · obtain ⟨u, rfl, _⟩ := (show RelD M (.iface _ _) a from hr)
        exact ⟨by simp [Op.equalIn, run_und ht], by simp, by simp, by simp, by simp, by simp, by simp⟩
    · cases hx
  · split at hx
    · rename_i ht
      obtain ⟨e, e', e'', ht⟩ := isFuncT_spec ht
      split at hx <;> simp only [Option.some.injEq, reduceCtorEq] at hx <;> subst hx
      · obtain rfl : a = .nilFunc := hr
        exact ⟨by simp [Op.equalIn, run_und ht], by simp, by simp, by simp, by simp, by simp, by simp⟩
      · obtain ⟨vs, rfl, _⟩ := hr
        exact ⟨by simp [Op.equalIn, run_und ht], by simp, by simp, by simp, by simp, by simp, by simp⟩
    · cases hx
  · cases hx
end

end Go.Proofs.YtllpobcecingiaaGreatDoor
