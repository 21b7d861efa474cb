/-
  Parts of aggregates; equality of structs.
-/
import Derived.Test.YtllpobcecingiaaGreatDoorPo
import Derived.Laws.StructEq
set_option linter.unusedVariables false
set_option linter.unusedSimpArgs false
namespace Go.Proofs.YtllpobcecingiaaGreatDoor
open Go.RowKit

theorem bind_some_inv {α β : Type} {x : Option α} {f : α → Option β} {r : β} (h : x.bind f = some r) : ∃ a, x = some a ∧ f a = some r := by
  cases x with
  | none => cases h
  | some a => exact ⟨a, rfl, h⟩
theorem bif_inv {α : Type} {b : Bool} {x : Option α} {r : α} (h : (bif b then x else none) = some r) : b = true ∧ x = some r := by
  cases b
  · cases h
  · exact ⟨rfl, h⟩
theorem bif_inv' {α : Type} {b : Bool} {x : Option α} {r : α} (h : (bif b then none else x) = some r) : b = false ∧ x = some r := by
  cases b
  · exact ⟨rfl, h⟩
  · cases h
theorem ite_inv {α : Type} {c : Prop} [Decidable c] {x : Option α} {r : α} (h : (if c then x else none) = some r) : c ∧ x = some r := by
  split at h
  · exact ⟨by assumption, h⟩
  · cases h
theorem ite_inv' {α : Type} {c : Prop} [Decidable c] {x : Option α} {r : α} (h : (if c then none else x) = some r) : ¬ c ∧ x = some r := by
  split at h
  · cases h
  · exact ⟨by assumption, h⟩

theorem sizeOf_run {P : Program} {e : TypeId} {w : World} {i : TypeInfo} (h : P.info? e = some i) : (sizeOf e).run P w = .ok (szOf P e) w := by
  simp [sizeOf, typeInfo, h, szOf]

theorem und_isSome {P : Program} {t : TypeId} {d : TypeDesc} (h : P.underlying t = some d) : (P.info? t).isSome = true := by
  unfold Program.underlying at h
  cases hi : P.info? t with
  | none => rw [hi] at h; cases h
  | some i => rfl
theorem size_run {P : Program} {e : TypeId} (h : (P.info? e).isSome = true) (w : World) : (sizeOf e).run P w = .ok (szOf P e) w := by
  obtain ⟨i, hi⟩ := Option.isSome_iff_exists.1 h
  exact sizeOf_run hi
theorem isAgg_run {P : Program} {t : TypeId} (h : (P.info? t).isSome = true) (hu : ∃ d, P.underlying t = some d) (w : World) : (isAgg t).run P w = .ok (isAggT P t) w := by
  obtain ⟨d, hd⟩ := hu
  unfold isAgg isAggT
  simp only [Sem.run_bind, run_und hd, Result.andThen_ok, hd]
  cases d <;> rfl

theorem part_ok {P : Program} {M : Mem} {t : TypeId} {cells : List PV} {vs : List Value} {off : Nat} {v : PV} (ht : (P.info? t).isSome = true) (hu : ∃ d, P.underlying t = some d) (h : ppart P t cells off some = some v) (hr : RelL M cells vs) :
    ∃ u, (∀ w, (part t vs.toArray off).run P w = .ok u w) ∧ RelD M v u := by
  unfold ppart at h
  unfold part
  split at h
  · rename_i hag
    obtain ⟨hle, h⟩ := ite_inv h
    injection h with h
    subst h
    refine ⟨.agg ((vs.take (off + szOf P t)).drop off).toArray, fun w => ?_, ?_⟩
    · simp only [Sem.run_bind, isAgg_run ht hu, Result.andThen_ok, if_pos hag, size_run ht, Sem.run_pure]
      congr 2
      simp [List.extract_toArray, List.drop_take]
    · simp only [RelD]
      exact ⟨_, rfl, (hr.take _).drop _⟩
  · rename_i hag
    obtain ⟨x, hx, h⟩ := bind_some_inv h
    injection h with h
    subst h
    obtain ⟨u, h1, _, h3⟩ := hr.get hx
    refine ⟨u, fun w => ?_, h3⟩
    simp only [Sem.run_bind, isAgg_run ht hu, Result.andThen_ok]
    rw [if_neg hag]
    have : vs.toArray[off]? = some u := by simpa using h1
    rw [this]
    rfl

theorem eqFs_ok {P : Program} {M : Mem} {d : Nat} {g : TypeId → PV → PV → Option Bool}
    (hg : ∀ (t : TypeId) (X Y : PV) (b : Bool) (u v : Value), g t X Y = some b → RelD M X u → RelD M Y v → ∀ w, (Op.equalIn d t u v).run P w = .ok b w) {xs ys : List PV} {us vs : List Value} (hx : RelL M xs us) (hy : RelL M ys vs) :
    ∀ (fs : List Field) (b : Bool), eqFs P g xs ys fs = some b → ∀ w, (Op.eqFields d us.toArray vs.toArray fs).run P w = .ok b w
  | [], b, h, w => by
    simp only [eqFs, Option.some.injEq] at h
    subst h
    simp [Op.eqFields]
  | f :: fs, b, h, w => by
    simp only [eqFs] at h
    simp only [Op.eqFields]
    split at h
    · rename_i hn
      rw [if_pos hn]
      split at h
      · rename_i hi
        simp only [Bool.and_eq_true] at hi
        split at h
        · rename_i x y h1 h2
          split at h
          · rename_i b1 h3
            split at h
            · rename_i r h4
              injection h with h
              subst h
              obtain ⟨u, k1, k2⟩ := part_ok hi.1 (Option.isSome_iff_exists.1 hi.2) h1 hx
              obtain ⟨v, k3, k4⟩ := part_ok hi.1 (Option.isSome_iff_exists.1 hi.2) h2 hy
              have k5 := hg _ _ _ _ _ _ h3 k2 k4
              simp only [Sem.run_bind, k1, k3, k5, Result.andThen_ok]
              cases b1
              · simp
              · simp only [Bool.not_true, Bool.false_eq_true, if_false, cond_true]
                exact eqFs_ok hg hx hy fs r h4 w
            · cases h
          · cases h
        · cases h
      · cases h
    · rename_i hn
      rw [if_neg hn]
      exact eqFs_ok hg hx hy fs b h w
theorem eqP_ok {P : Program} {M : Mem} (e : Nat) : ∀ (d : Nat) (t : TypeId) (X Y : PV) (b : Bool) (u v : Value), eqP P d t X Y = some b → RelD M X u → RelD M Y v → ∀ w, (Op.equalIn (e + d) t u v).run P w = .ok b w
  | 0, _, _, _, _, _, _, h, _, _, _ => by cases h
  | d + 1, t, X, Y, b, u, v, h, hx, hy, w => by
    rw [← Nat.add_assoc]
    unfold eqP at h
    split at h
    · rename_i k0 k a k' b' ht
      obtain ⟨hk, g⟩ := ite_inv h
      injection g with g
      subst g
      subst hk
      simp only [RelD] at hx hy
      subst hx hy
      exact run_equalIn_int w (e + d) t k k0 a b' ht
    · rename_i a b' ht
      injection h with h
      subst h
      simp only [RelD] at hx hy
      subst hx hy
      exact run_equalIn_bool w (e + d) t a b' ht
    · rename_i a b' ht
      injection h with h
      subst h
      simp only [RelD] at hx hy
      subst hx hy
      rw [run_equalIn_string w (e + d) t _ _ ht]
      simp [ByteArray.toList_eq]
    · rename_i fs xs ys ht
      split at h
      · cases h
      · rename_i hs
        simp only [RelD] at hx hy
        obtain ⟨us, rfl, hx⟩ := hx
        obtain ⟨vs, rfl, hy⟩ := hy
        have hf : P.fieldsOf t = fs := by unfold Program.fieldsOf; rw [ht]
        rw [run_equalIn_struct w (e + d) t _ _ (by rw [hf]; exact ht) (by simpa using hs), hf]
        exact eqFs_ok (fun t X Y b u v h1 h2 h3 w => eqP_ok e d t X Y b u v h1 h2 h3 w) hx hy fs.toList b h w
    · cases h
theorem eqGuard_agg {P : Program} {w : World} {op : BinOp} {t : TypeId} {x y : Operand} {xs ys : Array Value} (h : P.eqGuardType P.depth t = false) : (eqGuard op t x y (.agg xs) (.agg ys)).run P w = .ok () w := by
  unfold eqGuard
  cases op <;> simp [h]

end Go.Proofs.YtllpobcecingiaaGreatDoor
