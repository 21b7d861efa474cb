/-
  Each operation: what the evaluator's act says of it, the machine does. Part 1: operations that yield a value.
  Parts of aggregates; equality of structs.
  Each operation: what the evaluator's act says of it, the machine does. Part 2: operators, conversions, slices, fields, indexes.
  Each operation: what the evaluator's act says of it, the machine does. Part 3: conversions, parts of aggregates, indexes, places, loads from protected places.
  Each operation: what the evaluator's act says of it, the machine does. Part 4: fields, indexes, places, loads from protected places, tuples, interfaces, len, max, min.
-/
import Derived.Test.YtmacjkiamejcnaaPGv
import Derived.CallsIn
import Derived.Laws.StructEq
set_option linter.unusedVariables false
set_option linter.unusedSimpArgs false
namespace Go.Proofs.Ytmacjkiamejcnaa
open Go.RowKit

/-- the fence that lets everything in; within a round of a loop over a function or not -/
def FR (ro : Option Nat) : Fence := { Fence.wide with round := ro }
theorem FR_room (ro : Option Nat) (n : Nat) : (FR ro).room n := fun _ h => by simp [FR, Fence.wide] at h
theorem FR_fn (ro : Option Nat) (f : FuncId) : (FR ro).fn f := trivial

/-- boxes by a callee's numbers -/
structure BsOK (M : Mem) (β : Nat → Option Nat) (NG : Nat) (bs : List (List PV)) : Prop where
  box : ∀ (j : Nat) (cs : List PV), bs[j]? = some cs → ∃ b arr e, β j = some b ∧ RowP M.w b e arr ∧ M.U b = 0 ∧ NG ≤ b ∧ BsK M β cs arr
  lt : ∀ j b, β j = some b → j < bs.length
  inj : ∀ i j b, β i = some b → β j = some b → i = j

/-- 'yield' does what 'y' says: boxes that were lent come back, those who wait hold what they hold then -/
structure YOK (P : Program) (NG : Nat) (W : World → Prop) (X : Cx) (k : Nat) (y : YFn) : Prop where
  nl : X.nl = k
  call : ∀ (M : Mem) (β : Nat → Option Nat) (bs : List (List PV)) (o : Out) (xs : List PV) (vs : List Value) (bs' : List (List PV)) (o' : Out) (b : Bool) (f : Nat → Prop), MoveX X.M0 M X.fp → X.J o M f → (∀ c, f c → c < M.w.heap.size ∧ X.low c) →
    BsOK M β NG bs → bs.length = k → (∀ j c, β j = some c → X.lb j = some c ∧ ¬ f c) → RelCs M β xs vs → y.F bs o xs (R := List (List PV) × Out × Bool) (fun b o v => some (b, o, v)) = some (bs', o', b) →
    ∃ fn tmps assign body, (Instr.yield M.y.l vs.toArray).run P M.w = .ok (.round M.y.l fn tmps assign body) M.w ∧ RoundIn Fence.wide 0 P M.y.l fn tmps assign body M.w fun e w' => e = .returned (.bool b) ∧
      ∃ U' f', MoveX M ⟨w', U', M.y⟩ (fun c => f c ∨ ∃ j, β j = some c) ∧ BsOK ⟨w', U', M.y⟩ β NG bs' ∧ bs'.length = k ∧ X.J o' ⟨w', U', M.y⟩ f' ∧ ∀ c, f' c → (f c ∨ M.w.heap.size ≤ c) ∧ c < w'.heap.size
/-- what is known all around -/
structure Amb (en : Env) (NG : Nat) (W : World → Prop) (X : Cx) : Prop where
  w : W X.M0.w
  y : ∀ k y, en.Y = some (k, y) → YOK en.P NG W X k y

def Sim (en : Env) (NG : Nat) (W : World → Prop) (st : St) (o : Oper) (act : PAct) : Prop :=
  ∀ (X : Cx) (a : Act) (M : Mem) (β κ : Nat → Option Nat), Inv NG X st a M β κ → GOK en X.M0 → Amb en NG W X →
  ∀ st', papply act o.dst st = some st' → ∀ (ro : Option Nat) (next : Act → World → Prop) (Q : Exit → Act → World → Prop),
    (∀ a' M' β' κ', Inv NG X st' a' M' β' κ' → next a' M'.w) → o.wpIn (FR ro) 0 en.P a M.w next Q

theorem not_defer {P : Program} {o : Oper} {ρ : Operand → Value} {w w' : World} {n : Next} (h : (execOp ρ o).run P w = .ok n w') (hn : ∀ d, n ≠ .defer d) : ∀ c, o.op ≠ .defer c := by
  intro c hc
  simp only [execOp, hc, Sem.run_bind] at h
  rcases hr : (resolve ρ c o.type).run P w with ⟨d, w1⟩ | ⟨e, w1⟩
  · rw [hr] at h
    simp at h
    exact hn d h.1.symm
  · rw [hr] at h
    simp [Result.andThen] at h
theorem wp_value {P : Program} {o : Oper} {a : Act} {w w' : World} {v : Value} {ro : Option Nat} {next : Act → World → Prop} {Q : Exit → Act → World → Prop}
    (h : (execOp a.eval o).run P w = .ok (.value v) w') (hn : next (a.put o.dst v) w') : o.wpIn (FR ro) 0 P a w next Q := by
  refine ⟨fun _ _ => trivial, ?_⟩
  rw [Oper.semAt_eq _ _ _ (not_defer h (by simp)), h]
  exact hn
theorem wp_none {P : Program} {o : Oper} {a : Act} {w w' : World} {ro : Option Nat} {next : Act → World → Prop} {Q : Exit → Act → World → Prop}
    (h : (execOp a.eval o).run P w = .ok .skip w') (hn : next (a.put o.dst undef) w') : o.wpIn (FR ro) 0 P a w next Q := by
  refine ⟨fun _ _ => trivial, ?_⟩
  rw [Oper.semAt_eq _ _ _ (not_defer h (by simp)), h]
  exact hn
theorem wp_enter {P : Program} {o : Oper} {a : Act} {w w' : World} {f : FuncId} {args : Array Value} {ro : Option Nat} {next : Act → World → Prop} {Q : Exit → Act → World → Prop}
    (h : (execOp a.eval o).run P w = .ok (.enter f args) w') (hc : Calls P f args w' fun e w'' => ∃ v, e = .returned v ∧ next (a.put o.dst v) w'') : o.wpIn (FR ro) 0 P a w next Q := by
  refine ⟨fun _ _ => trivial, ?_⟩
  rw [Oper.semAt_eq _ _ _ (not_defer h (by simp)), h]
  rw [Oper.uponIn_enter]
  refine ⟨fun hd => by simp [FR, Fence.wide] at hd, ?_⟩
  refine CallsIn.mono (show CallsIn Fence.wide (0 - 1) P f args w' _ from callsIn_wide.2 hc) ?_
  rintro e w'' ⟨v, rfl, h3⟩
  exact h3

section
variable {en : Env} {NG : Nat} {W : World → Prop} {st : St} {o : Oper}

theorem sim_val {x : PV} {c : Nat} (h : ∀ (X : Cx) (a : Act) (M : Mem) (β κ : Nat → Option Nat), Inv NG X st a M β κ → GOK en X.M0 → Amb en NG W X →
    ∃ v M', (execOp a.eval o).run en.P M.w = .ok (.value v) M'.w ∧ Move M M' none ∧ RelS M' β x v ∧ TagOK M' κ x c v) : Sim en NG W st o (.val x c) := by
  intro X a M β κ hI hG hW st' hst ro next Q hn
  obtain ⟨v, M', h1, h2, h3, h4⟩ := h X a M β κ hI hG hW
  simp only [papply, actVal, Option.map_some, Option.some.injEq] at hst
  subst hst
  exact wp_value h1 (hn _ M' β κ ((hI.grow h2).put o.dst h3 h4))
/-- the world is as it was -/
theorem sim_same {x : PV} {c : Nat} (h : ∀ (X : Cx) (a : Act) (M : Mem) (β κ : Nat → Option Nat), Inv NG X st a M β κ → GOK en X.M0 → Amb en NG W X →
    ∃ v, (execOp a.eval o).run en.P M.w = .ok (.value v) M.w ∧ RelS M β x v ∧ TagOK M κ x c v) : Sim en NG W st o (.val x c) :=
  sim_val fun X a M β κ hI hG hW => let ⟨v, h1, h2, h3⟩ := h X a M β κ hI hG hW; ⟨v, M, h1, Move.refl M, h2, h3⟩

theorem rel_int {M : Mem} {β : Nat → Option Nat} {k : IntKind} {n : Int} {v : Value} (h : RelS M β (.int k n) v) : v = .int k n := h
theorem rel_bool {M : Mem} {β : Nat → Option Nat} {b : Bool} {v : Value} (h : RelS M β (.bool b) v) : v = .bool b := h
theorem rel_str {M : Mem} {β : Nat → Option Nat} {s : List UInt8} {v : Value} (h : RelS M β (.str s) v) : v = .string ⟨s.toArray⟩ := h

theorem sim_move {x : Operand} (ho : o.op = .move x) {act : PAct} (h : presolve en st o some = some act) : Sim en NG W st o act := by
  simp only [presolve, ho, Option.some.injEq] at h
  subst h
  refine sim_same fun X a M β κ hI hG _ => ?_
  obtain ⟨h1, h2⟩ := hI.ev hG o.type x
  refine ⟨a.eval x, by simp [execOp, ho], h1, ?_⟩
  split
  · exact h2
  · exact .inl rfl
theorem sim_assign {x : Operand} (ho : o.op = .assign x) {act : PAct} (h : presolve en st o some = some act) : Sim en NG W st o act := by
  simp only [presolve, ho, Option.some.injEq] at h
  subst h
  refine sim_same fun X a M β κ hI hG _ => ?_
  obtain ⟨h1, h2⟩ := hI.ev hG o.type x
  refine ⟨a.eval x, by simp [execOp, ho], h1, ?_⟩
  split
  · exact h2
  · exact .inl rfl

theorem sim_pick {c x y : Operand} (ho : o.op = .pick c x y) {act : PAct} (h : presolve en st o some = some act) : Sim en NG W st o act := by
  simp only [presolve, ho] at h
  split at h
  · rename_i cb hc
    have hcv : ∀ {X : Cx} {a : Act} {M : Mem} {β κ : Nat → Option Nat}, Inv NG X st a M β κ → GOK en X.M0 → a.eval c = .bool cb := fun hI hG => by
      have := (hI.ev hG o.type c).1
      rw [hc] at this
      exact this
    have hrun : ∀ {X : Cx} {a : Act} {M : Mem} {β κ : Nat → Option Nat}, Inv NG X st a M β κ → GOK en X.M0 → (execOp a.eval o).run en.P M.w = .ok (.value (if cb then a.eval x else a.eval y)) M.w := fun hI hG => by
      simp [execOp, ho, hcv hI hG, asBool]
    split at h
    · rename_i bx bY hx hy
      simp only [Option.some.injEq] at h
      subst h
      refine sim_same fun X a M β κ hI hG _ => ⟨_, hrun hI hG, ?_, .inl rfl⟩
      have h1 := (hI.ev hG o.type x).1
      have h2 := (hI.ev hG o.type y).1
      rw [hx] at h1
      rw [hy] at h2
      rw [rel_bool h1, rel_bool h2]
      cases cb <;> rfl
    · cases cb
      · simp only [cond_false, Option.some.injEq] at h
        subst h
        refine sim_same fun X a M β κ hI hG _ => ⟨_, hrun hI hG, ?_, .inl rfl⟩
        exact (hI.ev hG o.type y).1
      · simp only [cond_true, Option.some.injEq] at h
        subst h
        refine sim_same fun X a M β κ hI hG _ => ⟨_, hrun hI hG, ?_, .inl rfl⟩
        exact (hI.ev hG o.type x).1
  · cases h

/-! ### operators -/
theorem eqGuard_other {P : Program} {w : World} {op : BinOp} {t : TypeId} {x y : Operand} {a b : Value} (h1 : a = .nilIface → b = .nilIface → ∃ c, y = .const c) (h2 : ∀ xs ys, a = .agg xs → b = .agg ys → False) :
    (eqGuard op t x y a b).run P w = .ok () w := by
  unfold eqGuard
  cases op <;> first
    | rfl
    | (cases a <;> cases b <;> first
        | rfl
        | exact (h2 _ _ rfl rfl).elim
        | (obtain ⟨c, rfl⟩ := h1 rfl rfl
           simp))

theorem pint_ok {P : Program} {w : World} {op : BinOp} {k : IntKind} {a b : Int} {v : PV} (h : pint op k a b some = some v) (t : TypeId) (hs : op ≠ .shl) (hr : op ≠ .shr) :
    ∃ u, (binOp op t (.int k a) (.int k b)).run P w = .ok u w ∧ ∀ M β, RelS M β v u := by
  cases op <;> simp only [pint, Option.some.injEq] at h <;> first
    | (subst h; exact ⟨_, by simp [binOp, Op.intArith, Op.intBits, Op.intCmp], fun _ _ => rfl⟩)
    | (rcases hb : (b == 0) with _ | _ <;> simp only [hb, cond_true, cond_false, Option.some.injEq, reduceCtorEq] at h
       subst h
       have hb' : b ≠ 0 := by simpa using hb
       exact ⟨_, by simp [binOp, Op.intDiv, hb'], fun _ _ => rfl⟩)
    | exact (hs rfl).elim
    | exact (hr rfl).elim

theorem pstr_ok {P : Program} {w : World} {op : BinOp} {a b : List UInt8} {v : PV} (h : pstr op a b some = some v) (t : TypeId) :
    ∃ u, (binOp op t (.string ⟨a.toArray⟩) (.string ⟨b.toArray⟩)).run P w = .ok u w ∧ ∀ M β, RelS M β v u := by
  cases op <;> simp only [pstr, Option.some.injEq, reduceCtorEq] at h
  case add =>
    rcases hb : decide (a.length + b.length ≤ 9223372036854775807) with _ | _ <;> simp only [hb, cond_true, cond_false, Option.some.injEq, reduceCtorEq] at h
    subst h
    have hb' : a.length + b.length ≤ 9223372036854775807 := by simpa using hb
    refine ⟨.string ⟨(a ++ b).toArray⟩, ?_, fun _ _ => rfl⟩
    have hs : ¬ ((((⟨a.toArray⟩ : ByteArray).size + (⟨b.toArray⟩ : ByteArray).size : Nat) : Int) > IntKind.i64.max) := by
      simp only [ByteArray.size, List.size_toArray, IntKind.max, IntKind.signed, IntKind.bits]
      simp
      omega
    have he : (⟨a.toArray⟩ : ByteArray) ++ (⟨b.toArray⟩ : ByteArray) = ⟨(a ++ b).toArray⟩ := by
      apply ByteArray.ext
      simp [ByteArray.data_append]
    simp only [binOp, Op.stringOp, if_neg hs, Sem.run_pure, he]
  all_goals
    subst h
    exact ⟨_, by simp [binOp, Op.stringOp, bne], fun _ _ => rfl⟩

theorem run_und {P : Program} {t : TypeId} {d : TypeDesc} (h : P.underlying t = some d) (w : World) : (underlying t).run P w = .ok d w := run_underlying h w
theorem isSliceT_spec {P : Program} {t : TypeId} (h : isSliceT P t = true) : ∃ e, P.underlying t = some (.slice e) := by
  unfold isSliceT at h
  split at h
  · exact ⟨_, by assumption⟩
  · cases h
theorem isPtrT_spec {P : Program} {t : TypeId} (h : isPtrT P t = true) : ∃ e, P.underlying t = some (.pointer e) := by
  unfold isPtrT at h
  split at h
  · exact ⟨_, by assumption⟩
  · cases h
theorem isIfaceT_spec {P : Program} {t : TypeId} (h : isIfaceT P t = true) : ∃ e, P.underlying t = some (.interface e) := by
  unfold isIfaceT at h
  split at h
  · exact ⟨_, by assumption⟩
  · cases h
theorem isFuncT_spec {P : Program} {t : TypeId} (h : isFuncT P t = true) : ∃ a b c, P.underlying t = some (.func a b c) := by
  unfold isFuncT at h
  split at h
  · exact ⟨_, _, _, by assumption⟩
  · cases h
theorem isBoolT_spec {P : Program} {t : TypeId} (h : isBoolT P t = true) : P.underlying t = some .bool := by
  unfold isBoolT at h
  split at h
  · assumption
  · cases h

theorem equal_in (t : TypeId) : ∃ d, ∀ x y, Op.equal t x y = Op.equalIn (d + 1) t x y := ⟨9999, fun _ _ => rfl⟩

theorem nil_ok {P : Program} {w : World} {M : Mem} {β : Nat → Option Nat} {t : TypeId} {x : PV} {a c : Value} {b : Bool} (hx : nilCmp P t x c = some b) (hr : RelS M β x a) :
    (Op.equal t a c).run P w = .ok b w ∧ (a = .nilIface → ∃ c', Operand.const c = .const c') ∧ (∀ xs, a ≠ .agg xs) ∧ (∀ k n, a ≠ .int k n) ∧ (∀ s, a ≠ .string s) ∧ (∀ k n, a ≠ .float k n) ∧ (∀ k n m, a ≠ .complex k n m) := by
  obtain ⟨d, hd⟩ := equal_in t
  rw [hd]
  unfold nilCmp at hx
  split at hx
  · split at hx
    · rename_i ht
      obtain ⟨e, ht⟩ := isSliceT_spec ht
      split at hx
      · obtain ⟨A, c', vs, rfl, _, _, h4, _⟩ := (show RelD M _ _ from hr)
        have := h4 b hx
        refine ⟨?_, by simp, by simp, by simp, by simp, by simp, by simp⟩
        cases A <;> simp [Op.equalIn, run_und ht] at this ⊢ <;> exact this
      · injection hx with hx
        subst hx
        obtain ⟨b', c', _, rfl, _⟩ := hr
        exact ⟨by simp [Op.equalIn, run_und ht], by simp, by simp, by simp, by simp, by simp, by simp⟩
      · cases hx
    · cases hx
  · split at hx
    · rename_i ht
      obtain ⟨e, ht⟩ := isPtrT_spec ht
      split at hx <;> simp only [Option.some.injEq, reduceCtorEq] at hx <;> subst hx
      · obtain rfl : a = .pointer none := hr
        exact ⟨by simp [Op.equalIn, run_und ht], by simp, by simp, by simp, by simp, by simp, by simp⟩
      · obtain ⟨ad, rfl⟩ : ∃ ad, a = .pointer (some ad) := hr
        exact ⟨by simp [Op.equalIn, run_und ht], by simp, by simp, by simp, by simp, by simp, by simp⟩
      · obtain ⟨b', _, rfl⟩ := hr
        exact ⟨by simp [Op.equalIn, run_und ht], by simp, by simp, by simp, by simp, by simp, by simp⟩
      · obtain ⟨b', _, _, rfl, _⟩ := (show RelD M (.eptr _) a from hr)
        exact ⟨by simp [Op.equalIn, run_und ht], by simp, by simp, by simp, by simp, by simp, by simp⟩
      · obtain ⟨b', _, rfl⟩ := hr
        exact ⟨by simp [Op.equalIn, run_und ht], by simp, by simp, by simp, by simp, by simp, by simp⟩
    · cases hx
  · split at hx
    · rename_i ht
      obtain ⟨e, ht⟩ := isIfaceT_spec ht
      split at hx <;> simp only [Option.some.injEq, reduceCtorEq] at hx <;> subst hx
      · obtain rfl : a = .nilIface := hr
        exact ⟨by simp [Op.equalIn, run_und ht], by simp, by simp, by simp, by simp, by simp, by simp⟩
      · obtain ⟨u, rfl, _⟩ := (show RelD M (.iface _ _) a from hr)
        exact ⟨by simp [Op.equalIn, run_und ht], by simp, by simp, by simp, by simp, by simp, by simp⟩
    · cases hx
  · split at hx
    · rename_i ht
      obtain ⟨e, e', e'', ht⟩ := isFuncT_spec ht
      split at hx <;> simp only [Option.some.injEq, reduceCtorEq] at hx <;> subst hx
      · obtain rfl : a = .nilFunc := hr
        exact ⟨by simp [Op.equalIn, run_und ht], by simp, by simp, by simp, by simp, by simp, by simp⟩
      · obtain ⟨vs, rfl, _⟩ := hr
        exact ⟨by simp [Op.equalIn, run_und ht], by simp, by simp, by simp, by simp, by simp, by simp⟩
      · obtain rfl := hr
        exact ⟨by simp [Op.equalIn, run_und ht], by simp, by simp, by simp, by simp, by simp, by simp⟩
    · cases hx
  · cases hx
end
end Go.Proofs.Ytmacjkiamejcnaa
set_option linter.unusedVariables false
set_option linter.unusedSimpArgs false
namespace Go.Proofs.Ytmacjkiamejcnaa
open Go.RowKit

theorem bind_some_inv {α β : Type} {x : Option α} {f : α → Option β} {r : β} (h : x.bind f = some r) : ∃ a, x = some a ∧ f a = some r := by
  cases x with
  | none => cases h
  | some a => exact ⟨a, rfl, h⟩
theorem bif_inv {α : Type} {b : Bool} {x : Option α} {r : α} (h : (bif b then x else none) = some r) : b = true ∧ x = some r := by
  cases b
  · cases h
  · exact ⟨rfl, h⟩
theorem bif_inv' {α : Type} {b : Bool} {x : Option α} {r : α} (h : (bif b then none else x) = some r) : b = false ∧ x = some r := by
  cases b
  · exact ⟨rfl, h⟩
  · cases h
theorem ite_inv {α : Type} {c : Prop} [Decidable c] {x : Option α} {r : α} (h : (if c then x else none) = some r) : c ∧ x = some r := by
  split at h
  · exact ⟨by assumption, h⟩
  · cases h
theorem ite_inv' {α : Type} {c : Prop} [Decidable c] {x : Option α} {r : α} (h : (if c then none else x) = some r) : ¬ c ∧ x = some r := by
  split at h
  · cases h
  · exact ⟨by assumption, h⟩

theorem sizeOf_run {P : Program} {e : TypeId} {w : World} {i : TypeInfo} (h : P.info? e = some i) : (sizeOf e).run P w = .ok (szOf P e) w := by
  simp [sizeOf, typeInfo, h, szOf]

theorem und_isSome {P : Program} {t : TypeId} {d : TypeDesc} (h : P.underlying t = some d) : (P.info? t).isSome = true := by
  unfold Program.underlying at h
  cases hi : P.info? t with
  | none => rw [hi] at h; cases h
  | some i => rfl
theorem size_run {P : Program} {e : TypeId} (h : (P.info? e).isSome = true) (w : World) : (sizeOf e).run P w = .ok (szOf P e) w := by
  obtain ⟨i, hi⟩ := Option.isSome_iff_exists.1 h
  exact sizeOf_run hi
theorem isAgg_run {P : Program} {t : TypeId} (h : (P.info? t).isSome = true) (hu : ∃ d, P.underlying t = some d) (w : World) : (isAgg t).run P w = .ok (isAggT P t) w := by
  obtain ⟨d, hd⟩ := hu
  unfold isAgg isAggT
  simp only [Sem.run_bind, run_und hd, Result.andThen_ok, hd]
  cases d <;> rfl

theorem part_ok {P : Program} {M : Mem} {t : TypeId} {cells : List PV} {vs : List Value} {off : Nat} {v : PV} (ht : (P.info? t).isSome = true) (hu : ∃ d, P.underlying t = some d) (h : ppart P t cells off some = some v) (hr : RelL M cells vs) :
    ∃ u, (∀ w, (part t vs.toArray off).run P w = .ok u w) ∧ RelD M v u := by
  unfold ppart at h
  unfold part
  split at h
  · rename_i hag
    obtain ⟨hle, h⟩ := ite_inv h
    injection h with h
    subst h
    refine ⟨.agg ((vs.take (off + szOf P t)).drop off).toArray, fun w => ?_, ?_⟩
    · simp only [Sem.run_bind, isAgg_run ht hu, Result.andThen_ok, if_pos hag, size_run ht, Sem.run_pure]
      congr 2
      simp [List.extract_toArray, List.drop_take]
    · simp only [RelD]
      exact ⟨_, rfl, (hr.take _).drop _⟩
  · rename_i hag
    obtain ⟨x, hx, h⟩ := bind_some_inv h
    injection h with h
    subst h
    obtain ⟨u, h1, _, h3⟩ := hr.get hx
    refine ⟨u, fun w => ?_, h3⟩
    simp only [Sem.run_bind, isAgg_run ht hu, Result.andThen_ok]
    rw [if_neg hag]
    have : vs.toArray[off]? = some u := by simpa using h1
    rw [this]
    rfl

theorem eqFs_ok {P : Program} {M : Mem} {d : Nat} {g : TypeId → PV → PV → Option Bool}
    (hg : ∀ (t : TypeId) (X Y : PV) (b : Bool) (u v : Value), g t X Y = some b → RelD M X u → RelD M Y v → ∀ w, (Op.equalIn d t u v).run P w = .ok b w) {xs ys : List PV} {us vs : List Value} (hx : RelL M xs us) (hy : RelL M ys vs) :
    ∀ (fs : List Field) (b : Bool), eqFs P g xs ys fs = some b → ∀ w, (Op.eqFields d us.toArray vs.toArray fs).run P w = .ok b w
  | [], b, h, w => by
    simp only [eqFs, Option.some.injEq] at h
    subst h
    simp [Op.eqFields]
  | f :: fs, b, h, w => by
    simp only [eqFs] at h
    simp only [Op.eqFields]
    split at h
    · rename_i hn
      rw [if_pos hn]
      split at h
      · rename_i hi
        simp only [Bool.and_eq_true] at hi
        split at h
        · rename_i x y h1 h2
          split at h
          · rename_i b1 h3
            split at h
            · rename_i r h4
              injection h with h
              subst h
              obtain ⟨u, k1, k2⟩ := part_ok hi.1 (Option.isSome_iff_exists.1 hi.2) h1 hx
              obtain ⟨v, k3, k4⟩ := part_ok hi.1 (Option.isSome_iff_exists.1 hi.2) h2 hy
              have k5 := hg _ _ _ _ _ _ h3 k2 k4
              simp only [Sem.run_bind, k1, k3, k5, Result.andThen_ok]
              cases b1
              · simp
              · simp only [Bool.not_true, Bool.false_eq_true, if_false, cond_true]
                exact eqFs_ok hg hx hy fs r h4 w
            · cases h
          · cases h
        · cases h
      · cases h
    · rename_i hn
      rw [if_neg hn]
      exact eqFs_ok hg hx hy fs b h w
theorem eqP_ok {P : Program} {M : Mem} (e : Nat) : ∀ (d : Nat) (t : TypeId) (X Y : PV) (b : Bool) (u v : Value), eqP P d t X Y = some b → RelD M X u → RelD M Y v → ∀ w, (Op.equalIn (e + d) t u v).run P w = .ok b w
  | 0, _, _, _, _, _, _, h, _, _, _ => by cases h
  | d + 1, t, X, Y, b, u, v, h, hx, hy, w => by
    rw [← Nat.add_assoc]
    unfold eqP at h
    split at h
    · rename_i k0 k a k' b' ht
      obtain ⟨hk, g⟩ := ite_inv h
      injection g with g
      subst g
      subst hk
      simp only [RelD] at hx hy
      subst hx hy
      exact run_equalIn_int w (e + d) t k k0 a b' ht
    · rename_i a b' ht
      injection h with h
      subst h
      simp only [RelD] at hx hy
      subst hx hy
      exact run_equalIn_bool w (e + d) t a b' ht
    · rename_i a b' ht
      injection h with h
      subst h
      simp only [RelD] at hx hy
      subst hx hy
      rw [run_equalIn_string w (e + d) t _ _ ht]
      simp [ByteArray.toList_eq]
    · rename_i fs xs ys ht
      split at h
      · cases h
      · rename_i hs
        simp only [RelD] at hx hy
        obtain ⟨us, rfl, hx⟩ := hx
        obtain ⟨vs, rfl, hy⟩ := hy
        have hf : P.fieldsOf t = fs := by unfold Program.fieldsOf; rw [ht]
        rw [run_equalIn_struct w (e + d) t _ _ (by rw [hf]; exact ht) (by simpa using hs), hf]
        exact eqFs_ok (fun t X Y b u v h1 h2 h3 w => eqP_ok e d t X Y b u v h1 h2 h3 w) hx hy fs.toList b h w
    · cases h
theorem eqGuard_agg {P : Program} {w : World} {op : BinOp} {t : TypeId} {x y : Operand} {xs ys : Array Value} (h : P.eqGuardType P.depth t = false) : (eqGuard op t x y (.agg xs) (.agg ys)).run P w = .ok () w := by
  unfold eqGuard
  cases op <;> simp [h]
end Go.Proofs.Ytmacjkiamejcnaa
set_option linter.unusedVariables false
set_option linter.unusedSimpArgs false
namespace Go.Proofs.Ytmacjkiamejcnaa
open Go.RowKit

theorem binOp_eq_nil {P : Program} {w : World} {t : TypeId} {a c : Value} {b : Bool} (h : (Op.equal t a c).run P w = .ok b w) (h1 : ∀ k n, a ≠ .int k n) (h2 : ∀ s, a ≠ .string s) (h3 : ∀ k n, a ≠ .float k n) (h4 : ∀ k n m, a ≠ .complex k n m) :
    (binOp .eql t a c).run P w = .ok (.bool b) w ∧ (binOp .neq t a c).run P w = .ok (.bool (!b)) w := by
  cases a <;> first
    | exact (h1 _ _ rfl).elim
    | exact (h2 _ rfl).elim
    | exact (h3 _ _ rfl).elim
    | exact (h4 _ _ _ rfl).elim
    | (constructor <;> simp [binOp, h])

theorem pbin_ok {P : Program} {w : World} {M : Mem} {β : Nat → Option Nat} {op : BinOp} {t : TypeId} {ox oy : Operand} {X Y v : PV} {a b : Value} (h : pbin P op t ox oy X Y some = some v) (hx : RelS M β X a) (hy : RelS M β Y b) (hc : ∀ c, oy = .const c → b = c) :
    ∃ u, (do eqGuard op t ox oy a b; binOp op t a b : Sem Value).run P w = .ok u w ∧ RelS M β v u := by
  unfold pbin at h
  split at h
  · rename_i kx a' ky b'
    obtain rfl := rel_int hx
    obtain rfl := rel_int hy
    have hg : (eqGuard op t ox oy (.int kx a') (.int ky b')).run P w = .ok () w := eqGuard_other (by simp) (by simp)
    split at h
    · obtain ⟨hb, h⟩ := bif_inv' h
      injection h with h
      subst h
      have hb' : ¬ b' < 0 := by simpa using hb
      exact ⟨_, by simp [hg, binOp, Op.shift, hb'], rfl⟩
    · obtain ⟨hb, h⟩ := bif_inv' h
      injection h with h
      subst h
      have hb' : ¬ b' < 0 := by simpa using hb
      exact ⟨_, by simp [hg, binOp, Op.shift, hb'], rfl⟩
    · rename_i hs hr
      obtain ⟨hk, h'⟩ := ite_inv h
      clear h
      subst hk
      obtain ⟨u, h1, h2⟩ := pint_ok (P := P) (w := w) h' t hs hr
      exact ⟨u, by simp [hg, h1], h2 M β⟩
  · rename_i a' b'
    obtain rfl := rel_str hx
    obtain rfl := rel_str hy
    have hg : (eqGuard op t ox oy (.string ⟨a'.toArray⟩) (.string ⟨b'.toArray⟩)).run P w = .ok () w := eqGuard_other (by simp) (by simp)
    obtain ⟨u, h1, h2⟩ := pstr_ok (P := P) (w := w) h t
    exact ⟨u, by simp [hg, h1], h2 M β⟩
  · rename_i a' b'
    obtain rfl := rel_bool hx
    obtain rfl := rel_bool hy
    have hg : (eqGuard op t ox oy (.bool a') (.bool b')).run P w = .ok () w := eqGuard_other (by simp) (by simp)
    obtain ⟨ht, h⟩ := ite_inv h
    have ht := isBoolT_spec ht
    obtain ⟨d, hd⟩ := equal_in t
    have he : (Op.equal t (.bool a') (.bool b')).run P w = .ok (a' == b') w := by rw [hd]; simp [Op.equalIn, run_und ht]
    have := binOp_eq_nil he (by simp) (by simp) (by simp) (by simp)
    split at h
    · injection h with h; subst h; exact ⟨_, by simp only [Sem.run_bind, hg, Result.andThen_ok]; exact this.1, rfl⟩
    · injection h with h; subst h; exact ⟨_, by simp only [Sem.run_bind, hg, Result.andThen_ok]; exact this.2, rfl⟩
    · cases h
  · rename_i xs ys
    split at h
    · cases h
    · rename_i hgd
      have hgd : P.eqGuardType P.depth t = false := by simpa using hgd
      have hx' : RelD M (.agg xs) a := hx
      have hy' : RelD M (.agg ys) b := hy
      have key : ∀ bb, eqP P 20 t (.agg xs) (.agg ys) = some bb → (eqGuard op t ox oy a b).run P w = .ok () w ∧ (binOp .eql t a b).run P w = .ok (.bool bb) w ∧ (binOp .neq t a b).run P w = .ok (.bool (!bb)) w := by
        intro bb hbb
        have he := eqP_ok 9980 20 t _ _ bb a b hbb hx' hy' w
        simp only [RelD] at hx' hy'
        obtain ⟨us, rfl, _⟩ := hx'
        obtain ⟨vs, rfl, _⟩ := hy'
        have := binOp_eq_nil (P := P) (w := w) (t := t) (a := .agg us.toArray) (c := .agg vs.toArray) (b := bb) he (by simp) (by simp) (by simp) (by simp)
        exact ⟨eqGuard_agg hgd, this.1, this.2⟩
      split at h
      · obtain ⟨bb, hbb, h⟩ := bind_some_inv h
        injection h with h; subst h
        obtain ⟨k0, k1, k2⟩ := key bb hbb
        exact ⟨_, by simp only [Sem.run_bind, k0, Result.andThen_ok]; exact k1, rfl⟩
      · obtain ⟨bb, hbb, h⟩ := bind_some_inv h
        injection h with h; subst h
        obtain ⟨k0, k1, k2⟩ := key bb hbb
        exact ⟨_, by simp only [Sem.run_bind, k0, Result.andThen_ok]; exact k2, rfl⟩
      · cases h
  · split at h
    · rename_i c
      have hbc := hc c rfl
      subst hbc
      have key : ∀ bb, nilCmp P t X b = some bb → (eqGuard op t ox (.const b) a b).run P w = .ok () w ∧ (binOp .eql t a b).run P w = .ok (.bool bb) w ∧ (binOp .neq t a b).run P w = .ok (.bool (!bb)) w := by
        intro bb hbb
        obtain ⟨h1, h2, h3, h4, h5, h6, h7⟩ := nil_ok (w := w) hbb hx
        obtain ⟨k1, k2⟩ := binOp_eq_nil h1 h4 h5 h6 h7
        exact ⟨eqGuard_other (fun _ _ => ⟨b, rfl⟩) (fun xs _ e _ => h3 xs e), k1, k2⟩
      split at h
      · obtain ⟨bb, hbb, h⟩ := bind_some_inv h
        injection h with h; subst h
        obtain ⟨k0, k1, k2⟩ := key bb hbb
        exact ⟨_, by simp only [Sem.run_bind, k0, Result.andThen_ok]; exact k1, rfl⟩
      · obtain ⟨bb, hbb, h⟩ := bind_some_inv h
        injection h with h; subst h
        obtain ⟨k0, k1, k2⟩ := key bb hbb
        exact ⟨_, by simp only [Sem.run_bind, k0, Result.andThen_ok]; exact k2, rfl⟩
      · cases h
    · cases h

section
variable {en : Env} {NG : Nat} {W : World → Prop} {st : St} {o : Oper}

theorem sim_binOp {op : BinOp} {t : TypeId} {x y : Operand} {yt : TypeId} (ho : o.op = .binOp op t x y yt) {act : PAct} (h : presolve en st o some = some act) : Sim en NG W st o act := by
  simp only [presolve, ho] at h
  rw [pbin_nat] at h
  obtain ⟨v, hv, h⟩ := bind_some_inv h
  injection h with h
  subst h
  refine sim_same fun X a M β κ hI hG _ => ?_
  obtain ⟨u, h1, h2⟩ := pbin_ok (w := M.w) hv (hI.ev hG t x).1 (hI.ev hG t y).1 (fun c hc => by subst hc; rfl)
  refine ⟨u, ?_, h2, .inl rfl⟩
  simp only [execOp, ho]
  rw [Sem.run_bind, h1]
  rfl

theorem pun_ok {P : Program} {w : World} {M : Mem} {β : Nat → Option Nat} {op : UnOp} {X v : PV} {a : Value} (h : pun op X some = some v) (hx : RelS M β X a) : ∃ u, (Op.unary op a).run P w = .ok u w ∧ RelS M β v u := by
  unfold pun at h
  split at h <;> simp only [Option.some.injEq, reduceCtorEq] at h <;> subst h
  · obtain rfl := rel_int hx
    exact ⟨_, by simp [Op.unary, Op.intArith], rfl⟩
  · obtain rfl := rel_int hx
    exact ⟨_, by simp [Op.unary, Op.intBits], rfl⟩
  · obtain rfl := rel_bool hx
    exact ⟨_, by simp [Op.unary], rfl⟩
theorem sim_unOp {op : UnOp} {t : TypeId} {x : Operand} (ho : o.op = .unOp op t x) {act : PAct} (h : presolve en st o some = some act) : Sim en NG W st o act := by
  simp only [presolve, ho] at h
  rw [pun_nat] at h
  obtain ⟨v, hv, h⟩ := bind_some_inv h
  injection h with h
  subst h
  refine sim_same fun X a M β κ hI hG _ => ?_
  obtain ⟨u, h1, h2⟩ := pun_ok (P := en.P) (w := M.w) hv (hI.ev hG t x).1
  exact ⟨u, by simp [execOp, ho, h1], h2, .inl rfl⟩

/-! ### slices, fields, indexes -/
theorem pbound_ok {P : Program} {w : World} {X : PV} {m k : Nat} {a : Value} {M : Mem} {β : Nat → Option Nat} (h : pbound X m some = some k) (hx : RelS M β X a) (y : Nat) (hy : m ≤ y) (code : BoundsCode) : (Instr.sliceBound a y code).run P w = .ok k w ∧ k ≤ m := by
  unfold pbound at h
  split at h
  · obtain rfl := rel_int hx
    rename_i kk i
    obtain ⟨hb, h⟩ := bif_inv h
    injection h with h
    simp at hb
    subst h
    refine ⟨?_, by omega⟩
    have h1 : 0 ≤ i ∧ i ≤ (y : Int) := by omega
    simp [Instr.sliceBound, asIntOf, h1]
  · cases h

end

theorem sb_none {P : Program} {w : World} {lo' hi' : Option Value} {b : Bool} {n c l h : Nat} (hhi : ∀ v, hi' = some v → ∀ code, (Instr.sliceBound v c code).run P w = .ok h w) (hhi0 : hi' = none → h = n)
    (hlo : ∀ v, lo' = some v → ∀ code, (Instr.sliceBound v h code).run P w = .ok l w) (hlo0 : lo' = none → l = 0) : (Instr.sliceBounds b n c lo' hi' none).run P w = .ok (l, h, c) w := by
  cases lo' with
  | none =>
    cases hi' with
    | none => simp [Instr.sliceBounds, hhi0 rfl, hlo0 rfl]
    | some v => simp [Instr.sliceBounds, hhi v rfl, hlo0 rfl]
  | some u =>
    cases hi' with
    | none => have := hhi0 rfl; subst this; simp [Instr.sliceBounds, hlo u rfl]
    | some v => simp [Instr.sliceBounds, hhi v rfl, hlo u rfl]
theorem sb_some {P : Program} {w : World} {lo' : Option Value} {v x : Value} {b : Bool} {n c l h m : Nat} (hmx : ∀ code, (Instr.sliceBound x c code).run P w = .ok m w) (hhi : ∀ code, (Instr.sliceBound v m code).run P w = .ok h w)
    (hlo : ∀ v, lo' = some v → ∀ code, (Instr.sliceBound v h code).run P w = .ok l w) (hlo0 : lo' = none → l = 0) : (Instr.sliceBounds b n c lo' (some v) (some x)).run P w = .ok (l, h, m) w := by
  cases lo' with
  | none => simp [Instr.sliceBounds, hmx, hhi, hlo0 rfl]
  | some u => simp [Instr.sliceBounds, hmx, hhi, hlo u rfl]

section
variable {en : Env} {NG : Nat} {W : World → Prop} {st : St} {o : Oper}
/-- an operand's bound -/
theorem op_bound {X : Cx} {a : Act} {M : Mem} {β κ : Nat → Option Nat} (hI : Inv NG X st a M β κ) (hG : GOK en X.M0) {y : Option Operand} {d m k c : Nat} (hmc : m ≤ c)
    (h : pboundO (y.map fun y => (ev en st 0 y).1) d m some = some k) : (∀ v, (y.map a.eval) = some v → ∀ code, (Instr.sliceBound v c code).run en.P M.w = .ok k M.w) ∧ ((y.map a.eval) = none → k = d) ∧ (k ≤ m ∨ k = d) := by
  cases y with
  | none =>
    simp only [Option.map_none, pboundO, Option.some.injEq] at h
    exact ⟨by simp, fun _ => h.symm, .inr h.symm⟩
  | some y =>
    simp only [Option.map_some, pboundO] at h
    have := fun code => pbound_ok (P := en.P) (w := M.w) h (hI.ev hG 0 y).1 c hmc code
    refine ⟨fun v hv code => ?_, by simp, .inl (this .index).2⟩
    simp only [Option.map_some, Option.some.injEq] at hv
    rw [← hv]
    exact (this code).1

theorem str_extract (s : List UInt8) (l h : Nat) : (⟨s.toArray⟩ : ByteArray).extract l h = ⟨((s.take h).drop l).toArray⟩ := by
  rw [ByteArray.extract_mk, List.drop_take]

theorem szOf_run {P : Program} {e : TypeId} {w : World} {n : Nat} (h : szOf P e = n) (hp : 0 < n) : (sizeOf e).run P w = .ok n w := by
  unfold szOf at h
  cases hi : P.info? e with
  | none => rw [hi] at h; simp at h; omega
  | some i => rw [hi] at h; simp at h; simp [sizeOf, typeInfo, hi, h]
theorem addr_add (b o k : Nat) : (⟨b, o, none⟩ : Addr).add k = ⟨b, o + k, none⟩ := by
  unfold Addr.add
  split
  · rename_i h; subst h; rfl
  · rfl

/-- a piece of a slice -/
theorem rel_piece {M : Mem} {nl : Option Bool} {sz n : Nat} {cells : List PV} {A : Option Addr} {c l h m : Nat} (hr : RelD M (.sl nl sz n cells) (.slice A n c)) (hlh : l ≤ h) (hhn : h ≤ n) (hhm : h ≤ m) (hmc : m ≤ c) :
    RelD M (.sl nl sz (h - l) ((cells.take (h * sz)).drop (l * sz))) (.slice (if m = l then A else A.map (·.add (l * sz))) (h - l) (m - l)) := by
  simp only [RelD] at hr ⊢
  obtain ⟨A', c', vs, he, h1, h2, h3, h4, h5, h6, h7⟩ := hr
  injection he with e1 e2 e3
  subst e1; subst e3
  have hle : h * sz ≤ cells.length := by rw [h5]; exact Nat.mul_le_mul_right _ hhn
  have hll : l * sz ≤ h * sz := Nat.mul_le_mul_right _ hlh
  refine ⟨_, _, (vs.take (h * sz)).drop (l * sz), rfl, by omega, by omega, ?_, ?_, ?_, (h6.take _).drop _, ?_⟩
  · intro b hb
    rw [← h3 b hb]
    split
    · rfl
    · cases A <;> rfl
  · intro hn
    split at hn
    · omega
    · have : A = none := by cases A <;> simp_all
      have := h4 this
      omega
  · rw [List.length_drop, List.length_take, Nat.min_eq_left hle, ← Nat.sub_mul]
  · rcases h7 with h7 | ⟨b, o, e, h7⟩
    · exact .inl (by rw [h7]; simp)
    · by_cases hml : m = l
      · left
        have hl : h = l := by omega
        rw [hl]
        simp
      · right
        refine ⟨b, o + l * sz, ?_, (h7.take _).drop _⟩
        rw [if_neg hml, e]
        simp only [Option.map_some, addr_add]

theorem sim_slice {t : TypeId} {x : Operand} {lo hi mx : Option Operand} (ho : o.op = .slice t x lo hi mx) (hinf : ∀ e, en.P.underlying t = some (.slice e) → (en.P.info? e).isSome = true) {act : PAct} (h : presolve en st o some = some act) : Sim en NG W st o act := by
  simp only [presolve, ho] at h
  rw [pslice_nat] at h
  obtain ⟨v, hv, h⟩ := bind_some_inv h
  injection h with h
  subst h
  refine sim_same fun X a M β κ hI hG _ => ?_
  have hx := (hI.ev hG t x).1
  unfold pslice at hv
  split at hv
  · rename_i s ht hs
    rw [hs] at hx
    have hx := rel_str hx
    cases mx with
    | some m => simp at hv
    | none =>
      simp only [Option.map_none] at hv
      rw [pboundO_nat] at hv
      obtain ⟨hh, k1, hv⟩ := bind_some_inv hv
      rw [pboundO_nat] at hv
      obtain ⟨ll, k2, hv⟩ := bind_some_inv hv
      injection hv with hv
      subst hv
      obtain ⟨a1, a2, a3⟩ := op_bound hI hG (Nat.le_refl _) k1
      obtain ⟨b1, b2, _⟩ := op_bound hI hG (Nat.le_refl _) k2
      have hb := sb_none (b := false) (n := s.length) a1 a2 b1 b2
      refine ⟨.string ((⟨s.toArray⟩ : ByteArray).extract ll hh), ?_, ?_, .inl rfl⟩
      · have e : (⟨s.toArray⟩ : ByteArray).size = s.length := by simp [ByteArray.size]
        simp [execOp, ho, hx, Instr.sliceAt, Instr.slice, run_und ht, e, hb]
      · show RelD M (.str _) _
        simp only [RelD, str_extract]
  · rename_i e nl sz n cells ht hs
    rw [hs] at hx
    obtain ⟨A, c, hAc⟩ : ∃ A c, a.eval x = .slice A n c := by
      have hx' : RelD M (.sl nl sz n cells) (a.eval x) := hx
      simp only [RelD] at hx'
      obtain ⟨A, c, _, e, _⟩ := hx'
      exact ⟨A, c, e⟩
    have hx' : RelD M (.sl nl sz n cells) (.slice A n c) := by rw [← hAc]; exact hx
    have hnc : n ≤ c := by
      simp only [RelD] at hx'
      obtain ⟨A', c', vs, he, h1, _⟩ := hx'
      injection he with _ _ e3
      omega
    obtain ⟨hsz, hv⟩ := ite_inv hv
    obtain ⟨i, hi'⟩ := Option.isSome_iff_exists.1 (hinf e ht)
    have hsize := fun w => (sizeOf_run (w := w) hi').trans (by rw [hsz])
    cases mx with
    | none =>
      simp only [Option.map_none] at hv
      rw [pboundO_nat] at hv
      obtain ⟨hh, k1, hv⟩ := bind_some_inv hv
      rw [pboundO_nat] at hv
      obtain ⟨ll, k2, hv⟩ := bind_some_inv hv
      injection hv with hv
      subst hv
      obtain ⟨a1, a2, a3⟩ := op_bound hI hG hnc k1
      obtain ⟨b1, b2, b3⟩ := op_bound hI hG (Nat.le_refl _) k2
      have hb := sb_none (b := true) (n := n) a1 a2 b1 b2
      have hhn : hh ≤ n := by omega
      refine ⟨.slice (if c = ll then A else A.map (·.add (ll * sz))) (hh - ll) (c - ll), ?_, RelS.of_data (rel_piece hx' (by omega) hhn (by omega) (Nat.le_refl _)), .inl rfl⟩
      simp [execOp, ho, hAc, Instr.sliceAt, Instr.slice, run_und ht, hb, hsize]
    | some m =>
      simp only [Option.map_some] at hv
      rw [pbound_nat] at hv
      obtain ⟨mm, k0, hv⟩ := bind_some_inv hv
      rw [pboundO_nat] at hv
      obtain ⟨hh, k1, hv⟩ := bind_some_inv hv
      rw [pboundO_nat] at hv
      obtain ⟨ll, k2, hv⟩ := bind_some_inv hv
      injection hv with hv
      subst hv
      have c1 := fun code => pbound_ok (P := en.P) (w := M.w) k0 (hI.ev hG 0 m).1 c hnc code
      cases hi with
      | none => simp [pboundO, pbound] at k1
      | some hi =>
        obtain ⟨a1, a2, a3⟩ := op_bound (y := some hi) hI hG (Nat.le_refl _) k1
        obtain ⟨b1, b2, b3⟩ := op_bound hI hG (Nat.le_refl _) k2
        have hmn := (c1 .index).2
        have hb := sb_some (b := true) (n := n) (fun cd => (c1 cd).1) (a1 (a.eval hi) rfl) b1 b2
        have hhm : hh ≤ mm := by omega
        refine ⟨.slice (if mm = ll then A else A.map (·.add (ll * sz))) (hh - ll) (mm - ll), ?_, RelS.of_data (rel_piece hx' (by omega) (by omega) hhm (by omega)), ?_⟩
        · simp [execOp, ho, hAc, Instr.sliceAt, Instr.slice, run_und ht, hb, hsize]
        · by_cases e : hh = mm
          · subst e
            exact .inr ⟨_, _, _, _, rfl, .inl ⟨(if hh = ll then A else A.map (·.add (ll * sz))), hh - ll, rfl⟩⟩
          · left; simp [e]
  · rename_i e id off sz n ht hs
    rw [hs] at hx
    simp only [RelS] at hx
    obtain ⟨b, c, hβ, hAc, hnc, hcm, hsize0⟩ := hx
    obtain ⟨hsz, hv⟩ := ite_inv hv
    obtain ⟨i, hi'⟩ := Option.isSome_iff_exists.1 (hinf e ht)
    have hsize := fun w => (sizeOf_run (w := w) hi').trans (by rw [hsz])
    cases mx with
    | some m => simp at hv
    | none =>
      simp only [Option.map_none] at hv
      rw [pboundO_nat] at hv
      obtain ⟨hh, k1, hv⟩ := bind_some_inv hv
      rw [pboundO_nat] at hv
      obtain ⟨ll, k2, hv⟩ := bind_some_inv hv
      obtain ⟨hl, hv⟩ := bif_inv hv
      injection hv with hv
      subst hv
      simp only [Bool.or_eq_true, decide_eq_true_eq] at hl
      obtain ⟨a1, a2, a3⟩ := op_bound hI hG hnc k1
      obtain ⟨b1, b2, b3⟩ := op_bound hI hG (Nat.le_refl _) k2
      have hb := sb_none (b := true) (n := n) a1 a2 b1 b2
      have hhn : hh ≤ n := by omega
      refine ⟨.slice (if c = ll then some ⟨b, off, none⟩ else (some (⟨b, off, none⟩ : Addr)).map (·.add (ll * sz))) (hh - ll) (c - ll), ?_, ?_, .inl rfl⟩
      · simp [execOp, ho, hAc, Instr.sliceAt, Instr.slice, run_und ht, hb, hsize]
      · have e1 : (if c = ll then some (⟨b, off, none⟩ : Addr) else (some (⟨b, off, none⟩ : Addr)).map (·.add (ll * sz))) = some ⟨b, off + ll * sz, none⟩ := by
          split
          · have : ll = 0 := by omega
            rw [this]; simp
          · simp [addr_add]
        rw [e1]
        simp only [RelS]
        have hle : ll ≤ c := by omega
        have e2 : off + ll * sz + (c - ll) * sz = off + c * sz := by rw [Nat.add_assoc, ← Nat.add_mul]; congr 2; omega
        exact ⟨b, c - ll, hβ, rfl, by omega, by omega, by rw [e2]; exact hsize0⟩
  · cases hv
end
end Go.Proofs.Ytmacjkiamejcnaa
set_option linter.unusedVariables false
set_option linter.unusedSimpArgs false
namespace Go.Proofs.Ytmacjkiamejcnaa
open Go.RowKit

structure TypesOK (P : Program) (t : TypeId) : Prop where
  ok : typeOK P t = true
theorem TypesOK.sl {P : Program} {t : TypeId} (h : TypesOK P t) (e : TypeId) (he : P.underlying t = some (.slice e)) : (P.info? e).isSome = true := by
  have := h.ok
  simp only [typeOK, he] at this
  obtain ⟨d, hd⟩ := Option.isSome_iff_exists.1 this
  exact und_isSome hd
theorem TypesOK.ar {P : Program} {t : TypeId} (h : TypesOK P t) (n : Nat) (e : TypeId) (he : P.underlying t = some (.array n e)) : (P.info? e).isSome = true := by
  have := h.ok
  simp only [typeOK, he] at this
  obtain ⟨d, hd⟩ := Option.isSome_iff_exists.1 this
  exact und_isSome hd
theorem TypesOK.ar_un {P : Program} {t : TypeId} (h : TypesOK P t) (n : Nat) (e : TypeId) (he : P.underlying t = some (.array n e)) : ∃ d, P.underlying e = some d := by
  have := h.ok
  simp only [typeOK, he] at this
  exact Option.isSome_iff_exists.1 this
theorem TypesOK.st_un {P : Program} {t : TypeId} (h : TypesOK P t) (fs : Array Field) (he : P.underlying t = some (.struct fs)) (f : Field) (hf : f ∈ fs) : ∃ d, P.underlying f.type = some d := by
  have := h.ok
  simp only [typeOK, he] at this
  rw [Array.all_eq_true_iff_forall_mem] at this
  exact Option.isSome_iff_exists.1 (this f hf)
theorem TypesOK.st {P : Program} {t : TypeId} (h : TypesOK P t) (fs : Array Field) (he : P.underlying t = some (.struct fs)) (f : Field) (hf : f ∈ fs) : (P.info? f.type).isSome = true := by
  obtain ⟨d, hd⟩ := h.st_un fs he f hf
  exact und_isSome hd
theorem TypesOK.un {P : Program} {t : TypeId} (h : TypesOK P t) : ∃ d, P.underlying t = some d := by
  have := h.ok
  unfold typeOK at this
  cases hd : P.underlying t with
  | none => rw [hd] at this; cases this
  | some d => exact ⟨d, rfl⟩

section
variable {en : Env} {NG : Nat} {W : World → Prop} {st : St} {o : Oper}

theorem pbytes_ok {M : Mem} : ∀ {cells : List PV} {vs : List Value} {l : List UInt8}, pbytes cells = some l → RelL M cells vs → ∃ ns : List Int, vs = ns.map (Value.int .u8) ∧ l = ns.map fun n => UInt8.ofNat n.toNat
  | [], vs, l, h, hr => by
    simp only [pbytes, Option.some.injEq] at h
    simp only [RelL] at hr
    subst h; subst hr
    exact ⟨[], rfl, rfl⟩
  | x :: xs, vs, l, h, hr => by
    simp only [pbytes] at h
    obtain ⟨n, h1, h⟩ := bind_some_inv h
    obtain ⟨l', h2, h⟩ := bind_some_inv h
    injection h with h
    subst h
    simp only [RelL] at hr
    obtain ⟨u, us, rfl, _, h3, h4⟩ := hr
    obtain ⟨ns, rfl, rfl⟩ := pbytes_ok h2 h4
    cases x <;> simp only [PV.asInt, reduceCtorEq] at h1
    obtain ⟨rfl, h1⟩ := ite_inv h1
    injection h1 with h1
    subst h1
    exact ⟨_ :: ns, by rw [show u = .int .u8 _ from h3]; rfl, rfl⟩

theorem addr_add' (b o j : Nat) : (⟨b, o, none⟩ : Addr).add j = ⟨b, o + j, none⟩ := addr_add b o j

/-- bytes to a string -/
theorem run_bytes_string {P : Program} {M : Mem} {nl : Option Bool} {n : Nat} {cells : List PV} {l : List UInt8} {A : Option Addr} {c : Nat} (h : pbytes cells = some l) (hr : RelD M (.sl nl 1 n cells) (.slice A n c)) :
    (Conv.bytesToString (.slice A n c)).run P M.w = .ok (.string ⟨l.toArray⟩) M.w := by
  simp only [RelD] at hr
  obtain ⟨A', c', vs, he, h1, h2, h3, h4, h5, h6, h7⟩ := hr
  injection he with e1 e2 e3
  subst e1; subst e3
  obtain ⟨ns, rfl, rfl⟩ := pbytes_ok h h6
  have hlen : ns.length = n := by have := h6.length; simp at this; omega
  cases A with
  | none =>
    have : c = 0 := h4 rfl
    have : n = 0 := by omega
    subst this
    have : ns = [] := List.eq_nil_of_length_eq_zero hlen
    subst this
    rfl
  | some ad =>
    have hl : (loadCells ad n).run P M.w = .ok (ns.map (Value.int .u8)).toArray M.w := by
      rcases h7 with h7 | ⟨b, o, e, h7⟩
      · have : ns = [] := by simpa using h7
        subst this
        simp at hlen
        subst hlen
        rfl
      · injection e with e
        subst e
        have := run_loadCells_list (P := P) M.w ⟨b, o, none⟩ (ns.map (Value.int .u8)) (fun j v hj => by rw [addr_add]; exact (h7 j v hj).1)
        simpa [hlen] using this
    rw [run_bytesToString M.w ad n c ns hl, foldl_push_bytes]
    congr 2
    apply ByteArray.ext
    simp

theorem bvs_rel (M : Mem) : ∀ s : List UInt8, RelL M (s.map bytePV) (s.map fun b => .int .u8 b.toNat)
  | [] => rfl
  | b :: s => ⟨_, _, rfl, rfl, rfl, bvs_rel M s⟩

/-- a new block of cells that stay -/
def Mem.lay (M : Mem) (w' : World) (g n : Nat) : Mem := ⟨w', fun b => if b = g then n else M.U b, M.y⟩
theorem Move.lay {M : Mem} {w' : World} (hb : Below M.w.heap.size M.w w') {g : Nat} (hg : M.w.heap.size ≤ g) (n : Nat) : Move M (M.lay w' g n) none :=
  Move.mk0 hb fun b hlt => by simp only [Mem.lay]; rw [if_neg (by omega)]

theorem below_alloc {M : Mem} {w1 : World} (hb : Below M.w.heap.size M.w w1) (x : Obj) : Below M.w.heap.size M.w (w1.alloc x) := hb.alloc hb.size x
theorem cells_new {M : Mem} {w1 : World} {arr : Array Value} {e : TypeId} {fr : Nat × Nat} {vs : List Value} (harr : ∀ (j : Nat) (u : Value), vs[j]? = some u → arr[j]? = some u) : CellsAt (M.lay (w1.alloc (.cells arr e fr)) w1.heap.size vs.length) w1.heap.size 0 vs := by
  intro j u hu
  have hlt : j < vs.length := (List.getElem?_eq_some_iff.1 hu).1
  refine ⟨?_, by simp [Mem.lay]; exact hlt⟩
  show (w1.alloc _).cell? _ = _
  rw [cell_of_row _ _ _ arr e fr (heap_alloc_new w1 _), Nat.zero_add]
  exact harr j u hu
/-- a new block that reads as a slice -/
theorem rel_new {M : Mem} {w1 : World} (hb : Below M.w.heap.size M.w w1) {arr : Array Value} {e : TypeId} {fr : Nat × Nat} {sz n cap : Nat} {cells : List PV} {vs : List Value} (hr : RelL M cells vs) (hlen : cells.length = n * sz) (hnc : n ≤ cap) (hcm : cap ≤ maxLen)
    (harr : ∀ (j : Nat) (u : Value), vs[j]? = some u → arr[j]? = some u) : RelD (M.lay (w1.alloc (.cells arr e fr)) w1.heap.size vs.length) (.sl (some false) sz n cells) (.slice (some ⟨w1.heap.size, 0, none⟩) n cap) := by
  have hm : M.le (M.lay (w1.alloc (.cells arr e fr)) w1.heap.size vs.length) := (Move.lay (below_alloc hb _) hb.size _).le
  simp only [RelD]
  exact ⟨_, _, vs, rfl, hnc, hcm, by simp, by simp, hlen, hr.mono' hm, .inr ⟨_, 0, rfl, cells_new harr⟩⟩

theorem run_string_bytes {P : Program} {M : Mem} {s d e : TypeId} (l : List UInt8) (hs : P.underlying s = some .string) (hd : P.underlying d = some (.slice e)) (he : P.underlying e = some (.int .u8)) (hl : l.length ≤ maxLen) :
    ∃ v M', (convert s d (.string ⟨l.toArray⟩)).run P M.w = .ok v M'.w ∧ Move M M' none ∧ RelD M' (.sl (some false) 1 l.length (l.map bytePV)) v := by
  have hr := run_bytes_of_string (P := P) M.w s d e ⟨l.toArray⟩ hs hd he
  have hz : (⟨l.toArray⟩ : ByteArray).size = l.length := by simp [ByteArray.size]
  rw [hz] at hr
  have hb : Below M.w.heap.size M.w M.w.drew := (Below.refl _ _).drew
  exact ⟨_, M.lay _ M.w.drew.heap.size (l.map fun b => Value.int .u8 b.toNat).length, hr, Move.lay (below_alloc hb _) (Nat.le_refl _) _,
    rel_new hb (bvs_rel M l) (by simp) (grownCap_ge _ _ _ _) (grownCap_le_maxLen _ _ _ _ hl) (fun j u hu => by
      have hlt : j < l.length := by have := (List.getElem?_eq_some_iff.1 hu).1; simpa using this
      simp only [bytesRow]
      rw [Array.getElem?_append_left (by simpa using hlt)]
      simpa using hu)⟩

theorem sim_convert {s d : TypeId} {x : Operand} (ho : o.op = .convert s d x) {act : PAct} (h : presolve en st o some = some act) : Sim en NG W st o act := by
  simp only [presolve, ho] at h
  rw [pconv_nat] at h
  obtain ⟨v, hv, h⟩ := bind_some_inv h
  injection h with h
  subst h
  unfold pconv at hv
  split at hv
  · rename_i k0 k k' n h1 h2 hx
    injection hv with hv
    subst hv
    refine sim_same fun X a M β κ hI hG _ => ?_
    have hx' := (hI.ev hG s x).1
    rw [hx] at hx'
    have hx' := rel_int hx'
    exact ⟨.int k (k.wrap n), by simp [execOp, ho, hx', convert, run_und h1, run_und h2, Conv.intToInt], rfl, .inl rfl⟩
  · rename_i s' h1 h2 hx
    injection hv with hv
    subst hv
    refine sim_same fun X a M β κ hI hG _ => ?_
    have hx' := (hI.ev hG s x).1
    rw [hx] at hx'
    have hx'' := rel_str hx'
    exact ⟨_, by simp [execOp, ho, hx'', convert, run_und h1, run_und h2], rfl, .inl rfl⟩
  · rename_i e s' h1 h2 hx
    split at hv
    · rename_i he
      obtain ⟨hsz, hv⟩ := ite_inv hv
      obtain ⟨hl, hv⟩ := bif_inv hv
      injection hv with hv
      subst hv
      refine sim_val fun X a M β κ hI hG _ => ?_
      have hx' := (hI.ev hG s x).1
      rw [hx] at hx'
      have hx'' := rel_str hx'
      obtain ⟨v, M', k1, k2, k3⟩ := run_string_bytes (P := en.P) (M := M) s' h1 h2 he (by have := of_decide_eq_true hl; exact this)
      exact ⟨v, M', by simp [execOp, ho, hx'', k1], k2, RelS.of_data k3, .inl rfl⟩
    · cases hv
  · rename_i e nl sz n cells h1 h2 hx
    split at hv
    · rename_i he
      obtain ⟨hsz, hv⟩ := ite_inv hv
      subst hsz
      obtain ⟨l, hl, hv⟩ := bind_some_inv hv
      injection hv with hv
      subst hv
      refine sim_same fun X a M β κ hI hG _ => ?_
      have hx' := (hI.ev hG s x).1
      rw [hx] at hx'
      have hx2 : RelD M (.sl nl 1 n cells) (a.eval x) := hx'
      have hx3 := hx2
      simp only [RelD] at hx3
      obtain ⟨A, c, _, hAc, _⟩ := hx3
      rw [hAc] at hx2
      have := run_bytes_string (P := en.P) hl hx2
      exact ⟨_, by simp [execOp, ho, hAc, convert, run_und h1, run_und h2, run_und he, this], rfl, .inl rfl⟩
    · cases hv
  · cases hv
/-! ### parts of aggregates -/
theorem und_of_info {P : Program} {t : TypeId} (h : (P.info? t).isSome = true) (hn : ∀ n u s z b p a f zz c m, P.info? t = some ⟨.named n u, s, z, b, p, a, f, zz, c, m⟩ → (P.info? u).isSome = true) : ∃ d, P.underlying t = some d := by
  obtain ⟨i, hi⟩ := Option.isSome_iff_exists.1 h
  unfold Program.underlying
  obtain ⟨d, s, z, b, p, a, f, zz, c, m⟩ := i
  cases d with
  | named n u =>
    have := hn _ _ _ _ _ _ _ _ _ _ _ hi
    obtain ⟨j, hj⟩ := Option.isSome_iff_exists.1 this
    exact ⟨j.desc, by rw [hi]; simp [hj]⟩
  | _ => exact ⟨_, by rw [hi]⟩
end
end Go.Proofs.Ytmacjkiamejcnaa
set_option linter.unusedVariables false
set_option linter.unusedSimpArgs false
namespace Go.Proofs.Ytmacjkiamejcnaa
open Go.RowKit

section
variable {en : Env} {NG : Nat} {W : World → Prop} {st : St} {o : Oper}

theorem rel_agg {M : Mem} {β : Nat → Option Nat} {cs : List PV} {v : Value} (h : RelS M β (.agg cs) v) : ∃ vs, v = .agg vs.toArray ∧ RelL M cs vs := by
  have h : RelD M (.agg cs) v := h
  simpa only [RelD] using h

theorem rel_agp {M : Mem} {β : Nat → Option Nat} {cs : List PV} {v : Value} (h : RelS M β (.agp cs) v) : ∃ vs, v = .agg vs.toArray ∧ (∀ u ∈ vs, u.oneCell' = true) ∧ RelCs M β cs vs := by
  simpa only [RelS] using h
theorem RelCs.drop {M : Mem} {β : Nat → Option Nat} : ∀ {xs : List PV} {vs : List Value} (k : Nat), RelCs M β xs vs → RelCs M β (xs.drop k) (vs.drop k)
  | xs, vs, 0, h => h
  | [], vs, k + 1, h => by simp only [RelCs] at h; subst h; simp only [List.drop_nil, RelCs]
  | x :: xs, vs, k + 1, h => by
    simp only [RelCs] at h
    obtain ⟨u, us, rfl, _, h⟩ := h
    exact h.drop k
theorem RelCs.take {M : Mem} {β : Nat → Option Nat} : ∀ {xs : List PV} {vs : List Value} (k : Nat), RelCs M β xs vs → RelCs M β (xs.take k) (vs.take k)
  | xs, vs, 0, h => by simp only [List.take_zero, RelCs]
  | [], vs, k + 1, h => by simp only [RelCs] at h; subst h; simp only [List.take_nil, RelCs]
  | x :: xs, vs, k + 1, h => by
    simp only [RelCs] at h
    obtain ⟨u, us, rfl, h1, h⟩ := h
    simp only [List.take_succ_cons, RelCs]
    exact ⟨u, us.take k, rfl, h1, h.take k⟩
theorem relCs_L {M : Mem} {β : Nat → Option Nat} : ∀ {xs : List PV} {vs : List Value}, RelCs M β xs vs → xs.all PV.data = true → (∀ u ∈ vs, u.oneCell' = true) → RelL M xs vs
  | [], vs, h, _, _ => by simp only [RelCs] at h; subst h; simp only [RelL]
  | x :: xs, vs, h, hd, h1 => by
    simp only [RelCs] at h
    obtain ⟨u, us, rfl, h2, h⟩ := h
    simp only [List.all_cons, Bool.and_eq_true] at hd
    simp only [RelL]
    exact ⟨u, us, rfl, h1 u (by simp), h2.data hd.1, relCs_L h hd.2 fun w hw => h1 w (by simp [hw])⟩
theorem aggP_ok {M : Mem} {β : Nat → Option Nat} {cs : List PV} {vs : List Value} (h0 : ∀ u ∈ vs, u.oneCell' = true) (h : RelCs M β cs vs) : RelS M β (aggP cs) (.agg vs.toArray) := by
  unfold aggP
  split
  · rename_i hd
    refine RelS.of_data ?_
    simp only [RelD]
    exact ⟨vs, rfl, relCs_L h hd h0⟩
  · simp only [RelS]
    exact ⟨vs, rfl, h0, h⟩
theorem partP_ok {P : Program} {M : Mem} {β : Nat → Option Nat} {t : TypeId} {cells : List PV} {vs : List Value} {off : Nat} {v : PV} (ht : (P.info? t).isSome = true) (hu : ∃ d, P.underlying t = some d) (h : ppartP P t cells off some = some v) (h0 : ∀ u ∈ vs, u.oneCell' = true) (hr : RelCs M β cells vs) :
    ∃ u, (∀ w, (part t vs.toArray off).run P w = .ok u w) ∧ RelS M β v u := by
  unfold ppartP at h
  unfold part
  split at h
  · rename_i hag
    obtain ⟨hle, h⟩ := ite_inv h
    injection h with h
    subst h
    refine ⟨.agg ((vs.take (off + szOf P t)).drop off).toArray, fun w => ?_, ?_⟩
    · simp only [Sem.run_bind, isAgg_run ht hu, Result.andThen_ok, if_pos hag, size_run ht, Sem.run_pure]
      congr 2
      simp [List.extract_toArray, List.drop_take]
    · exact aggP_ok (fun u hu => h0 u (List.mem_of_mem_take (List.mem_of_mem_drop hu))) ((hr.take _).drop _)
  · rename_i hag
    obtain ⟨x, hx, h⟩ := bind_some_inv h
    injection h with h
    subst h
    obtain ⟨u, h1, h3⟩ := hr.get hx
    refine ⟨u, fun w => ?_, h3⟩
    simp only [Sem.run_bind, isAgg_run ht hu, Result.andThen_ok]
    rw [if_neg hag]
    have : vs.toArray[off]? = some u := by simpa using h1
    rw [this]
    rfl
theorem fieldsOf_spec {P : Program} {t : TypeId} {f : Nat} {fd : Field} (h : (fieldsOf P t).bind (·[f]?) = some fd) : ∃ fs, P.underlying t = some (.struct fs) ∧ fs[f]? = some fd := by
  unfold fieldsOf at h
  split at h
  · rename_i fs hfs
    exact ⟨fs, hfs, by simpa using h⟩
  · simp at h

theorem sim_field {t : TypeId} (hT : TypesOK en.P t) {x : Operand} {f : Nat} (ho : o.op = .field t x f) {act : PAct} (h : presolve en st o some = some act) : Sim en NG W st o act := by
  simp only [presolve, ho] at h
  split at h
  · rename_i fd cs hf hx
    rw [ppart_nat] at h
    obtain ⟨v, hv, h⟩ := bind_some_inv h
    injection h with h
    subst h
    refine sim_same fun X a M β κ hI hG _ => ?_
    obtain ⟨fs, hfs, hfd⟩ := fieldsOf_spec hf
    have hi := hT.st fs hfs fd (Array.mem_of_getElem? hfd)
    have hx' := (hI.ev hG t x).1
    rw [hx] at hx'
    obtain ⟨vs, he, hr⟩ := rel_agg hx'
    obtain ⟨u, h1, h2⟩ := part_ok hi (hT.st_un fs hfs fd (Array.mem_of_getElem? hfd)) hv hr
    exact ⟨u, by simp [execOp, ho, Instr.field, run_und hfs, hfd, he, asAgg, h1], RelS.of_data h2, .inl rfl⟩
  · rename_i fd cs hf hx
    rw [ppartP_nat] at h
    obtain ⟨v, hv, h⟩ := bind_some_inv h
    injection h with h
    subst h
    refine sim_same fun X a M β κ hI hG _ => ?_
    obtain ⟨fs, hfs, hfd⟩ := fieldsOf_spec hf
    have hi := hT.st fs hfs fd (Array.mem_of_getElem? hfd)
    have hx' := (hI.ev hG t x).1
    rw [hx] at hx'
    obtain ⟨vs, he, h0, hr⟩ := rel_agp hx'
    obtain ⟨u, h1, h2⟩ := partP_ok hi (hT.st_un fs hfs fd (Array.mem_of_getElem? hfd)) hv h0 hr
    exact ⟨u, by simp [execOp, ho, Instr.field, run_und hfs, hfd, he, asAgg, h1], h2, .inl rfl⟩
  · cases h

theorem index_in {i : Int} {n : Nat} (h : (decide (0 ≤ i) && decide (i < (n : Int))) = true) : 0 ≤ i ∧ i < (n : Int) := by simpa using h

theorem sim_index {t : TypeId} (hT : TypesOK en.P t) {x y : Operand} (ho : o.op = .index t x y) {act : PAct} (h : presolve en st o some = some act) : Sim en NG W st o act := by
  simp only [presolve, ho] at h
  split at h
  · rename_i s k i ht hx hy
    obtain ⟨hb, h⟩ := bif_inv h
    obtain ⟨c, hc, h⟩ := bind_some_inv h
    injection h with h
    subst h
    have hb := index_in hb
    refine sim_same fun X a M β κ hI hG _ => ?_
    have hx' := (hI.ev hG t x).1
    have hy' := (hI.ev hG 0 y).1
    rw [hx] at hx'
    rw [hy] at hy'
    have hx' := rel_str hx'
    have hy' := rel_int hy'
    have hg : (⟨s.toArray⟩ : ByteArray)[i.toNat]? = some c := by
      have hlt : i.toNat < s.length := (List.getElem?_eq_some_iff.1 hc).1
      rw [getElem?_pos (⟨s.toArray⟩ : ByteArray) i.toNat (show i.toNat < (⟨s.toArray⟩ : ByteArray).size by simpa [ByteArray.size] using hlt)]
      rw [List.getElem?_eq_getElem hlt] at hc
      injection hc with hc
      rw [← hc]
      rfl
    exact ⟨_, by simp [execOp, ho, hx', hy', Instr.index, asIntOf, run_und ht, hb.1, hg], rfl, .inl rfl⟩
  · rename_i n e cs k i ht hx hy
    obtain ⟨hb, h⟩ := bif_inv h
    rw [ppart_nat] at h
    obtain ⟨v, hv, h⟩ := bind_some_inv h
    injection h with h
    subst h
    have hb := index_in hb
    refine sim_same fun X a M β κ hI hG _ => ?_
    have hx' := (hI.ev hG t x).1
    have hy' := (hI.ev hG 0 y).1
    rw [hx] at hx'
    rw [hy] at hy'
    obtain ⟨vs, he, hr⟩ := rel_agg hx'
    have hy' := rel_int hy'
    have hi := hT.ar n e ht
    obtain ⟨u, h1, h2⟩ := part_ok hi (hT.ar_un n e ht) hv hr
    exact ⟨u, by simp [execOp, ho, he, hy', Instr.index, asIntOf, run_und ht, hb, size_run hi, h1], RelS.of_data h2, .inl rfl⟩
  · cases h

theorem rel_eptr {M : Mem} {β : Nat → Option Nat} {cs : List PV} {v : Value} (h : RelS M β (.eptr cs) v) : ∃ b o vs, v = .pointer (some ⟨b, o, none⟩) ∧ RelL M cs vs ∧ CellsAt M b o vs := (show RelD M (.eptr cs) v from h)
theorem rel_ptr {M : Mem} {β : Nat → Option Nat} {id off : Nat} {v : Value} (h : RelS M β (.ptr id off) v) : ∃ b, β id = some b ∧ v = .pointer (some ⟨b, off, none⟩) := h
theorem rel_optr {M : Mem} {β : Nat → Option Nat} {d i off : Nat} {v : Value} (h : RelS M β (.optr d i off) v) : ∃ b, M.y.γ d i = some b ∧ v = .pointer (some ⟨b, off, none⟩) := h

theorem sim_fieldAddr {t : TypeId} (hT : TypesOK en.P t) {x : Operand} {f : Nat} (ho : o.op = .fieldAddr t x f) {act : PAct} (h : presolve en st o some = some act) : Sim en NG W st o act := by
  simp only [presolve, ho] at h
  split at h
  · rename_i fd id off hf hx
    obtain ⟨hz, h⟩ := ite_inv' h
    injection h with h
    subst h
    refine sim_same fun X a M β κ hI hG _ => ?_
    obtain ⟨fs, hfs, hfd⟩ := fieldsOf_spec hf
    have hi := hT.st fs hfs fd (Array.mem_of_getElem? hfd)
    have hx' := (hI.ev hG t x).1
    rw [hx] at hx'
    obtain ⟨b, hb, he⟩ := rel_ptr hx'
    exact ⟨_, by simp [execOp, ho, Instr.fieldAt, run_und hfs, hfd, he, Instr.sureAddr, fieldPlace, size_run hi, hz, addr_add], ⟨b, hb, rfl⟩, .inl rfl⟩
  · rename_i fd cs hf hx
    obtain ⟨hz, h⟩ := ite_inv' h
    injection h with h
    subst h
    refine sim_same fun X a M β κ hI hG _ => ?_
    obtain ⟨fs, hfs, hfd⟩ := fieldsOf_spec hf
    have hi := hT.st fs hfs fd (Array.mem_of_getElem? hfd)
    have hx' := (hI.ev hG t x).1
    rw [hx] at hx'
    obtain ⟨b, off, vs, he, hr, hc⟩ := rel_eptr hx'
    exact ⟨_, by simp [execOp, ho, Instr.fieldAt, run_und hfs, hfd, he, Instr.sureAddr, fieldPlace, size_run hi, hz, addr_add], ⟨b, off + fd.offset, _, rfl, hr.drop _, hc.drop _⟩, .inl rfl⟩
  · rename_i fd dd id off hf hx
    obtain ⟨hz, h⟩ := ite_inv' h
    injection h with h
    subst h
    refine sim_same fun X a M β κ hI hG _ => ?_
    obtain ⟨fs, hfs, hfd⟩ := fieldsOf_spec hf
    have hi := hT.st fs hfs fd (Array.mem_of_getElem? hfd)
    have hx' := (hI.ev hG t x).1
    rw [hx] at hx'
    obtain ⟨b, hb, he⟩ := rel_optr hx'
    exact ⟨_, by simp [execOp, ho, Instr.fieldAt, run_und hfs, hfd, he, Instr.sureAddr, fieldPlace, size_run hi, hz, addr_add], ⟨b, hb, rfl⟩, .inl rfl⟩
  · cases h

theorem sim_indexAddr {t : TypeId} (hT : TypesOK en.P t) {x y : Operand} (ho : o.op = .indexAddr t x y) {act : PAct} (h : presolve en st o some = some act) : Sim en NG W st o act := by
  simp only [presolve, ho] at h
  split at h
  · rename_i e nl sz n cells k i ht hx hy
    obtain ⟨hs, h⟩ := ite_inv h
    obtain ⟨hb, h⟩ := bif_inv h
    injection h with h
    subst h
    have hb := index_in hb
    simp only [Bool.and_eq_true, beq_iff_eq, decide_eq_true_eq] at hs
    refine sim_same fun X a M β κ hI hG _ => ?_
    have hx' := (hI.ev hG t x).1
    have hy' := (hI.ev hG 0 y).1
    rw [hx] at hx'
    rw [hy] at hy'
    have hy' := rel_int hy'
    have hx' : RelD M _ _ := hx'
    simp only [RelD] at hx'
    obtain ⟨A, c, vs, he, h1, h2, h3, h4, h5, h6, h7⟩ := hx'
    have hi := hT.sl e ht
    have hlt : i.toNat < n := by omega
    have hpos : 0 < vs.length := by rw [← h6.length, h5]; exact Nat.mul_pos (by omega) hs.2
    rcases h7 with h7 | ⟨b, off, hA, h7⟩
    · rw [h7] at hpos; simp at hpos
    subst hA
    exact ⟨_, by simp [execOp, ho, he, hy', Instr.indexAt, asIntOf, run_und ht, hb, size_run hi, addr_add, hs.1], ⟨b, off + i.toNat * sz, _, rfl, (h6.drop _).take _, (h7.drop _).take _⟩, .inl rfl⟩
  · rename_i e id off sz n k i ht hx hy
    obtain ⟨hs, h⟩ := ite_inv h
    obtain ⟨hb, h⟩ := bif_inv h
    injection h with h
    subst h
    have hb := index_in hb
    simp only [Bool.and_eq_true, beq_iff_eq, decide_eq_true_eq] at hs
    refine sim_same fun X a M β κ hI hG _ => ?_
    have hx' := (hI.ev hG t x).1
    have hy' := (hI.ev hG 0 y).1
    rw [hx] at hx'
    rw [hy] at hy'
    have hy' := rel_int hy'
    simp only [RelS] at hx'
    obtain ⟨b, c, hβ, he, _⟩ := hx'
    have hi := hT.sl e ht
    exact ⟨_, by simp [execOp, ho, he, hy', Instr.indexAt, asIntOf, run_und ht, hb, size_run hi, addr_add, hs.1], ⟨b, hβ, rfl⟩, .inl rfl⟩
  · rename_i n e id off k i ht hx hy
    obtain ⟨hb, h⟩ := bif_inv h
    injection h with h
    subst h
    have hb := index_in hb
    refine sim_same fun X a M β κ hI hG _ => ?_
    have hx' := (hI.ev hG t x).1
    have hy' := (hI.ev hG 0 y).1
    rw [hx] at hx'
    rw [hy] at hy'
    have hy' := rel_int hy'
    obtain ⟨b, hbb, he⟩ := rel_ptr hx'
    have hi := hT.ar n e ht
    exact ⟨_, by simp [execOp, ho, he, hy', Instr.indexAt, Instr.sureAddr, asIntOf, run_und ht, hb, size_run hi, addr_add], ⟨b, hbb, rfl⟩, .inl rfl⟩
  · rename_i n e cs k i ht hx hy
    obtain ⟨hb, h⟩ := bif_inv h
    injection h with h
    subst h
    have hb := index_in hb
    refine sim_same fun X a M β κ hI hG _ => ?_
    have hx' := (hI.ev hG t x).1
    have hy' := (hI.ev hG 0 y).1
    rw [hx] at hx'
    rw [hy] at hy'
    have hy' := rel_int hy'
    obtain ⟨b, off, vs, he, hr, hc⟩ := rel_eptr hx'
    have hi := hT.ar n e ht
    exact ⟨_, by simp [execOp, ho, he, hy', Instr.indexAt, Instr.sureAddr, asIntOf, run_und ht, hb, size_run hi, addr_add], ⟨b, off + i.toNat * szOf en.P e, _, rfl, hr.drop _, hc.drop _⟩, .inl rfl⟩
  · cases h

theorem refine1_ok {t : CT} {x y : PV} (h : refine1 t x some = some y) : y = x := by
  cases t <;> simp only [refine1] at h
  case int k => obtain ⟨n, h1, h⟩ := bind_some_inv h; injection h with h; subst h; cases x <;> simp only [PV.asInt, reduceCtorEq] at h1; obtain ⟨e, h2⟩ := ite_inv h1; injection h2 with h2; rw [h2, e]
  case bool => obtain ⟨n, h1, h⟩ := bind_some_inv h; injection h with h; subst h; cases x <;> simp only [PV.asBool, reduceCtorEq, Option.some.injEq] at h1; rw [h1]
  case str => obtain ⟨n, h1, h⟩ := bind_some_inv h; injection h with h; subst h; cases x <;> simp only [PV.asStr, reduceCtorEq, Option.some.injEq] at h1; rw [h1]
  case sl sz => obtain ⟨n, h1, h⟩ := bind_some_inv h; injection h with h; subst h; cases x <;> simp only [PV.asSl, reduceCtorEq] at h1; obtain ⟨e, h2⟩ := ite_inv h1; injection h2 with h2; rw [← h2, e]
  all_goals (obtain ⟨_, h⟩ := ite_inv h; injection h with h; exact h.symm)
theorem refineL_ok : ∀ {ts : List CT} {xs ys : List PV}, refineL ts xs some = some ys → ys = xs.take ts.length
  | [], xs, ys, h => by simp only [refineL, Option.some.injEq] at h; subst h; rfl
  | t :: ts, xs, ys, h => by
    simp only [refineL] at h
    obtain ⟨x, hx, h⟩ := bind_some_inv h
    rw [refine1_nat] at h
    obtain ⟨y, hy, h⟩ := bind_some_inv h
    rw [refineL_nat] at h
    obtain ⟨zs, hz, h⟩ := bind_some_inv h
    injection h with h
    subst h
    rw [refine1_ok hy, refineL_ok hz]
    cases xs with
    | nil => simp at hx
    | cons a l => simp at hx; subst hx; rfl
theorem eload_some {b : Bool} {ts : List CT} {xs r : List PV} (h : eload b ts xs some = some r) : refineL ts xs some = some r := by
  unfold eload at h
  cases b with
  | false => exact h
  | true =>
    simp only [if_true] at h
    split at h
    · obtain ⟨x, h1, h⟩ := bind_some_inv h
      obtain ⟨es, h2, h⟩ := bind_some_inv h
      have hx : x = .eptr es := by
        unfold PV.asE at h2
        split at h2
        · injection h2 with h2; rw [h2]
        · cases h2
      subst hx
      simp only [refineL, h1, Option.bind_some]
      exact h
    · cases h
theorem refineL_len : ∀ {ts : List CT} {xs ys : List PV}, refineL ts xs some = some ys → ts.length ≤ xs.length
  | [], xs, ys, h => Nat.zero_le _
  | t :: ts, xs, ys, h => by
    simp only [refineL] at h
    obtain ⟨x, hx, h⟩ := bind_some_inv h
    rw [refine1_nat] at h
    obtain ⟨y, hy, h⟩ := bind_some_inv h
    rw [refineL_nat] at h
    obtain ⟨zs, hz, h⟩ := bind_some_inv h
    have := refineL_len hz
    cases xs with
    | nil => simp at hx
    | cons a l => simp at this ⊢; exact this

/-- a load from cells that are known -/
theorem run_loadVar {P : Program} {w : World} {t : TypeId} {b off : Nat} {vs : List Value} (hi : (P.info? t).isSome = true) (hu : ∃ d, P.underlying t = some d) (hlen : szOf P t = vs.length) (h : ∀ j u, vs[j]? = some u → w.cell? ⟨b, off + j, none⟩ = some u) (h1 : isAggT P t = false → vs.length = 1) :
    (loadVar t ⟨b, off, none⟩).run P w = .ok (if isAggT P t then .agg vs.toArray else vs.headD undef) w := by
  unfold loadVar
  simp only [Sem.run_bind, isAgg_run hi hu, Result.andThen_ok]
  cases hag : isAggT P t
  · simp only [Bool.false_eq_true, if_false]
    have := h1 hag
    match vs, this with
    | [u], _ =>
      have := h 0 u rfl
      simp only [Nat.add_zero] at this
      simp [run_load, this]
  · simp only [if_true, Sem.run_bind, size_run hi, Result.andThen_ok, hlen]
    rw [run_loadCells_list (P := P) w ⟨b, off, none⟩ vs (fun j v hj => by rw [addr_add]; exact h j v hj)]
    rfl

theorem sim_load_e {t : TypeId} (hT : TypesOK en.P t) {x : Operand} (ho : o.op = .load t x) (hti : (en.P.info? t).isSome = true) {cs : List PV} (hx : (ev en st t x).1 = .eptr cs) {act : PAct} (h : presolve en st o some = some act) : Sim en NG W st o act := by
  simp only [presolve, ho, hx] at h
  obtain ⟨hsz, h⟩ := ite_inv h
  rw [eload_nat] at h
  obtain ⟨r, hr, h⟩ := bind_some_inv h
  have hr := eload_some hr
  have e1 := refineL_ok hr
  have e2 := refineL_len hr
  have key : ∀ {X : Cx} {a : Act} {M : Mem} {β κ : Nat → Option Nat}, Inv NG X st a M β κ → GOK en X.M0 → ∃ b off vs, a.eval x = .pointer (some ⟨b, off, none⟩) ∧ RelL M r vs ∧ vs.length = szOf en.P t ∧ ∀ j u, vs[j]? = some u → M.w.cell? ⟨b, off + j, none⟩ = some u := by
    intro X a M β κ hI hG
    have hx' := (hI.ev hG t x).1
    rw [hx] at hx'
    obtain ⟨b, off, vs, he, hrl, hc⟩ := rel_eptr hx'
    refine ⟨b, off, vs.take (tysOf en.P t).length, he, by rw [e1]; exact hrl.take _, ?_, fun j u hj => ((hc.take _) j u hj).1⟩
    rw [List.length_take, ← hrl.length, ← hsz]
    exact Nat.min_eq_left e2
  split at h
  · rename_i hag
    injection h with h
    subst h
    refine sim_same fun X a M β κ hI hG _ => ?_
    obtain ⟨b, off, vs, he, h1, h2, h3⟩ := key hI hG
    have hl := run_loadVar (P := en.P) (w := M.w) hti (hT.un) h2.symm h3 (by simp [hag])
    refine ⟨.agg vs.toArray, by simp [execOp, ho, Instr.loadAt, he, Instr.sureAddr, hl, hag], ?_, .inl rfl⟩
    show RelD M (.agg r) _
    simp only [RelD]
    exact ⟨vs, rfl, h1⟩
  · rename_i hag
    split at h
    · injection h with h
      subst h
      refine sim_same fun X a M β κ hI hG _ => ?_
      obtain ⟨b, off, vs, he, h1, h2, h3⟩ := key hI hG
      simp only [RelL] at h1
      obtain ⟨u, us, rfl, k1, k2, rfl⟩ := h1
      have hl := run_loadVar (P := en.P) (w := M.w) hti (hT.un) h2.symm h3 (by simp)
      exact ⟨u, by simp [execOp, ho, Instr.loadAt, he, Instr.sureAddr, hl, hag], RelS.of_data k2, .inl rfl⟩
    · cases h

theorem sim_extract {x : Operand} {i : Nat} (ho : o.op = .extract x i) {act : PAct} (h : presolve en st o some = some act) : Sim en NG W st o act := by
  simp only [presolve, ho] at h
  split at h
  · rename_i vs hx
    obtain ⟨v, hv, h⟩ := bind_some_inv h
    obtain ⟨hd, h⟩ := ite_inv h
    injection h with h
    subst h
    refine sim_same fun X a M β κ hI hG _ => ?_
    have hx' := (hI.ev hG 0 x).1
    rw [hx] at hx'
    have hx' : RelD M _ _ := hx'
    simp only [RelD] at hx'
    obtain ⟨us, he, hr⟩ := hx'
    obtain ⟨u, h1, h2⟩ := hr.get hv
    have : us.toArray[i]? = some u := by simpa using h1
    exact ⟨u, by simp [execOp, ho, Instr.extract, he, h1], RelS.of_data h2, .inl rfl⟩
  · rename_i vs hx
    obtain ⟨v, hv, h⟩ := bind_some_inv h
    injection h with h
    subst h
    refine sim_same fun X a M β κ hI hG _ => ?_
    have hx' := (hI.ev hG 0 x).1
    rw [hx] at hx'
    simp only [RelS] at hx'
    obtain ⟨us, he, hr⟩ := hx'
    obtain ⟨u, h1, h2⟩ := hr.get hv
    exact ⟨u, by simp [execOp, ho, Instr.extract, he, h1], h2, .inl rfl⟩
  · cases h

theorem isIfaceT_false {P : Program} {t : TypeId} (h : ¬ isIfaceT P t = true) {d : TypeDesc} (hd : P.underlying t = some d) : ∀ m, d ≠ .interface m := by
  intro m e
  subst e
  exact h (by unfold isIfaceT; rw [hd])
theorem sim_makeInterface {t : TypeId} (hT : TypesOK en.P t) {x : Operand} (ho : o.op = .makeInterface t x) (hti : (en.P.info? t).isSome = true) {act : PAct} (h : presolve en st o some = some act) : Sim en NG W st o act := by
  simp only [presolve, ho] at h
  obtain ⟨hni, h⟩ := ite_inv' h
  obtain ⟨hd, h⟩ := ite_inv h
  injection h with h
  subst h
  refine sim_same fun X a M β κ hI hG _ => ?_
  have hx' := (hI.ev hG t x).1.data hd
  obtain ⟨d, hdd⟩ := hT.un
  have hne := isIfaceT_false hni hdd
  refine ⟨.iface t (a.eval x), ?_, ?_, .inl rfl⟩
  · simp only [execOp, ho, Instr.makeInterface, Sem.run_bind, run_und hdd, Result.andThen_ok]
    cases d <;> first | rfl | exact (hne _ rfl).elim
  · show RelD M (.iface _ _) _
    simp only [RelD]
    exact ⟨_, rfl, hx'⟩

theorem sim_nilCheck {x : Operand} (ho : o.op = .nilCheck x) {act : PAct} (h : presolve en st o some = some act) : Sim en NG W st o act := by
  simp only [presolve, ho] at h
  split at h
  · rename_i id off c hx
    injection h with h
    subst h
    refine sim_same fun X a M β κ hI hG _ => ?_
    have hx' := (hI.ev hG 0 x).1
    rw [hx] at hx'
    obtain ⟨b, hb, he⟩ := rel_ptr hx'
    exact ⟨_, by simp [execOp, ho, he], ⟨b, hb, rfl⟩, .inl rfl⟩
  · rename_i cs c hx
    injection h with h
    subst h
    refine sim_same fun X a M β κ hI hG _ => ?_
    have hx' := (hI.ev hG 0 x).1
    rw [hx] at hx'
    obtain ⟨b, off, vs, he, h1, h2⟩ := rel_eptr hx'
    exact ⟨_, by simp [execOp, ho, he], ⟨b, off, vs, rfl, h1, h2⟩, .inl rfl⟩
  · rename_i f cs c hx
    injection h with h
    subst h
    refine sim_same fun X a M β κ hI hG _ => ?_
    have hx' := (hI.ev hG 0 x).1
    rw [hx] at hx'
    obtain ⟨vs, he, h1⟩ := hx'
    exact ⟨_, by simp [execOp, ho, he], ⟨vs, rfl, h1⟩, .inl rfl⟩
  · rename_i c hx
    injection h with h
    subst h
    refine sim_same fun X a M β κ hI hG _ => ?_
    have hx' := (hI.ev hG 0 x).1
    rw [hx] at hx'
    have he : a.eval x = .func (.yield M.y.l) #[] #[] := hx'
    exact ⟨_, by simp [execOp, ho, he], rfl, .inl rfl⟩
  · rename_i d i off c hx
    injection h with h
    subst h
    refine sim_same fun X a M β κ hI hG _ => ?_
    have hx' := (hI.ev hG 0 x).1
    rw [hx] at hx'
    obtain ⟨b, hb, he⟩ := rel_optr hx'
    exact ⟨_, by simp [execOp, ho, he], ⟨b, hb, rfl⟩, .inl rfl⟩
  · cases h
theorem sim_makeFunc {fn : Fn} {first caps : Array Operand} (ho : o.op = .makeFunc fn first caps) {act : PAct} (h : presolve en st o some = some act) : Sim en NG W st o act := by
  simp only [presolve, ho] at h
  split at h
  · rename_i f
    obtain ⟨hf, h⟩ := ite_inv h
    injection h with h
    subst h
    refine sim_same fun X a M β κ hI hG _ => ?_
    have e0 : first = #[] := by simpa using hf
    refine ⟨.func (.func f) #[] (caps.map a.eval), by simp [execOp, ho, Instr.makeFunc, e0], ?_, .inl rfl⟩
    simp only [RelS]
    refine ⟨caps.toList.map a.eval, by have : caps.map a.eval = (caps.toList.map a.eval).toArray := by (apply Array.ext'; simp)
                                       rw [this], ?_⟩
    refine RelCs.of_get (by simp) fun j x u hx hu => ?_
    rw [List.getElem?_map] at hx hu
    obtain ⟨y, hy, rfl⟩ := Option.map_eq_some_iff.1 hx
    rw [hy] at hu
    simp only [Option.map_some, Option.some.injEq] at hu
    rw [← hu]
    exact (hI.ev hG 0 y).1
  · cases h
end
end Go.Proofs.Ytmacjkiamejcnaa
