/-
  Each operation, part 6: build, slices that are built or made, append, len, max, min, calls.
-/
import Derived.Test.YtllpobcecingiaaGreatDoorPk
set_option linter.unusedVariables false
set_option linter.unusedSimpArgs false
namespace Go.Proofs.YtllpobcecingiaaGreatDoor
open Go.RowKit

section
variable {en : Env} {NG : Nat} {W : World → Prop} {st : St} {o : Oper}

theorem mapM_run {P : Program} {w : World} {α β : Type} (f : α → Sem β) (g : α → β) : ∀ l : List α, (∀ x ∈ l, (f x).run P w = .ok (g x) w) → (l.mapM f).run P w = .ok (l.map g) w
  | [], _ => rfl
  | x :: l, h => by
    simp only [List.mapM_cons, Sem.run_bind, h x (by simp), Result.andThen_ok, mapM_run f g l (fun y hy => h y (by simp [hy])), Sem.run_pure, List.map_cons]
theorem amapM_run {P : Program} {w : World} {α β : Type} (f : α → Sem β) (g : α → β) (l : Array α) (h : ∀ x ∈ l, (f x).run P w = .ok (g x) w) : (l.mapM f).run P w = .ok (l.map g) w := by
  rw [Array.mapM_eq_mapM_toList]
  simp only [Sem.run_map, mapM_run f g l.toList (fun x hx => h x (by simpa using hx)), Result.andThen_ok]
  congr 1
  apply Array.ext'
  simp

theorem sim_build {t : TypeId} (hT : TypesOK en.P t) {parts : Array (Nat × Operand)} (ho : o.op = .build t parts) {act : PAct} (h : presolve en st o some = some act) : Sim en NG W st o act := by
  simp only [presolve, ho] at h
  split at h
  · rename_i z hz
    obtain ⟨i, zv, hi, hzv, hsz, hr⟩ := zeroPV_ok hz
    split at h
    · rename_i fs hfs
      split at h
      · rename_i ps hps
        split at h
        · rename_i cs hcs
          injection h with h
          subst h
          refine sim_same fun M0 a M β κ hI hG _ => ?_
          obtain ⟨h1, h2⟩ := parts_ok hI hG _ _ hps
          obtain ⟨new, k1, k2⟩ := fill_ok (P := en.P) (w := M.w) (M := M) (place := fun i => (fs.map fun f => (f.offset, szOf en.P f.type))[i]?) _ ps z cs zv.cells hcs (hr M) h1 (fun k i v off xs a b => by
            obtain ⟨⟨t', e⟩, r⟩ := h2 k i v off xs a b
            refine ⟨?_, r⟩
            rw [Array.getElem?_map]
            rcases hf : fs[i]? with _ | f
            · rw [hf] at e; simp at e
            · rw [hf] at e
              simp only [Option.map_some, Option.some.injEq, Prod.mk.injEq] at e ⊢
              exact ⟨e.1, e.2.1⟩)
          refine ⟨.agg new, ?_, ?_, .inl rfl⟩
          · have hm := amapM_run (P := en.P) (w := M.w) (fun f : Field => (do pure (f.offset, ← sizeOf f.type) : Sem (Nat × Nat))) (fun f => (f.offset, szOf en.P f.type)) fs (fun f hf => by simp [size_run (hT.st fs hfs f hf)])
            simp only [execOp, ho, Instr.build, Sem.run_bind, zero_run hi hzv, Result.andThen_ok, run_und hfs]
            rw [hm]
            simp only [Result.andThen_ok]
            have e : (parts.map fun x => (x.1, a.eval x.2)).toList = parts.toList.map fun p => (p.1, a.eval p.2) := by simp
            have k1' := k1
            rw [← e] at k1'
            rw [k1']
            rfl
          · show RelD M (.agg cs) _
            simp only [RelD]
            exact ⟨new.toList, by simp, k2⟩
        · cases h
      · cases h
    · rename_i n e he
      split at h
      · rename_i ps hps
        split at h
        · rename_i cs hcs
          injection h with h
          subst h
          refine sim_same fun M0 a M β κ hI hG _ => ?_
          obtain ⟨h1, h2⟩ := parts_ok hI hG _ _ hps
          obtain ⟨new, k1, k2⟩ := fill_ok (P := en.P) (w := M.w) (M := M) (place := fun i => some (i * szOf en.P e, szOf en.P e)) _ ps z cs zv.cells hcs (hr M) h1 (fun k i v off xs a b => by
            obtain ⟨⟨t', e⟩, r⟩ := h2 k i v off xs a b
            simp only [Option.some.injEq, Prod.mk.injEq] at e ⊢
            exact ⟨⟨e.1, e.2.1⟩, r⟩)
          refine ⟨.agg new, ?_, ?_, .inl rfl⟩
          · simp only [execOp, ho, Instr.build, Sem.run_bind, zero_run hi hzv, Result.andThen_ok, run_und he, size_run (hT.ar n e he)]
            have e : (parts.map fun x => (x.1, a.eval x.2)).toList = parts.toList.map fun p => (p.1, a.eval p.2) := by simp
            have k1' := k1
            rw [← e] at k1'
            rw [k1']
            rfl
          · show RelD M (.agg cs) _
            simp only [RelD]
            exact ⟨new.toList, by simp, k2⟩
        · cases h
      · cases h
    · cases h
  · cases h

/-! ### slices that are built -/
theorem elemT_spec {P : Program} {t e : TypeId} (h : elemT P t = some e) : P.underlying t = some (.slice e) := by
  unfold elemT at h
  split at h
  · injection h with h; subst h; assumption
  · cases h
theorem RelL.rep {M : Mem} {z : List PV} {zs : List Value} (h : RelL M z zs) : ∀ n, RelL M (List.replicate n z).flatten (List.replicate n zs).flatten
  | 0 => rfl
  | n + 1 => by
    simp only [List.replicate_succ, List.flatten_cons]
    exact h.append (h.rep n)
theorem getElem_bang {α : Type} [Inhabited α] (a : Array α) (i : Nat) (h : i < a.size) : a[i]! = a[i] := by simp [h]
theorem rep_flat (zs : Array Value) (h0 : 0 < zs.size) : ∀ n, ((Array.range (n * zs.size)).map fun i => zs[i % zs.size]!).toList = (List.replicate n zs.toList).flatten
  | 0 => by simp
  | n + 1 => by
    rw [List.replicate_succ', List.flatten_append, ← rep_flat zs h0 n]
    apply List.ext_getElem?
    intro i
    simp only [Array.toList_map, Array.toList_range, List.flatten_cons, List.flatten_nil, List.append_nil]
    by_cases hi : i < n * zs.size
    · rw [List.getElem?_append_left (by simpa using hi)]
      simp [hi, List.getElem?_range, Nat.lt_of_lt_of_le hi (Nat.mul_le_mul_right _ (Nat.le_succ n))]
    · rw [List.getElem?_append_right (by simpa using hi)]
      simp only [List.length_map, List.length_range]
      by_cases hj : i < (n + 1) * zs.size
      · have hmod : i % zs.size = i - n * zs.size := by
          have : i = (i - n * zs.size) + n * zs.size := by omega
          rw [this, Nat.add_mul_mod_self_right, Nat.mod_eq_of_lt (by rw [Nat.succ_mul] at hj; omega)]
          omega
        have hlt : i - n * zs.size < zs.size := by rw [Nat.succ_mul] at hj; omega
        simp only [List.getElem?_map, List.getElem?_range hj, Option.map_some]
        rw [hmod, getElem_bang _ _ hlt]
        simp [hlt]
      · have h2 : zs.toList.length ≤ i - n * zs.size := by rw [Nat.succ_mul] at hj; simp; omega
        rw [List.getElem?_eq_none h2, List.getElem?_eq_none (by simpa using hj)]

theorem sim_buildSlice {t : TypeId} (hT : TypesOK en.P t) {len : Nat} {parts : Array (Nat × Operand)} (ho : o.op = .buildSlice t len parts) {act : PAct} (h : presolve en st o some = some act) : Sim en NG W st o act := by
  simp only [presolve, ho] at h
  split at h
  · rename_i e he
    have he := elemT_spec he
    have hie := hT.sl e he
    obtain ⟨hle, h⟩ := ite_inv h
    split at h
    · rename_i z hz
      obtain ⟨i, zv, hi, hzv, hsz, hr⟩ := zeroPV_ok hz
      obtain ⟨hzl, h⟩ := ite_inv h
      simp only [Bool.and_eq_true, beq_iff_eq, decide_eq_true_eq] at hzl
      have hzs : zv.cells.size = szOf en.P e := by rw [← hsz]; simp [szOf, hi]
      split at h
      · rename_i ps hps
        split at h
        · rename_i cs hcs
          injection h with h
          subst h
          refine sim_val fun M0 a M β κ hI hG _ => ?_
          obtain ⟨h1, h2⟩ := parts_ok hI hG _ _ hps
          have hz0 := (hr M).rep len
          rw [← rep_flat zv.cells (by omega) len] at hz0
          obtain ⟨new, k1, k2⟩ := fill_ok (P := en.P) (w := M.w) (M := M) (place := fun i => some (i * szOf en.P e, szOf en.P e)) _ ps _ cs _ hcs hz0 h1 (fun k i v off xs a b => by
            obtain ⟨⟨t', e⟩, r⟩ := h2 k i v off xs a b
            simp only [Option.some.injEq, Prod.mk.injEq] at e ⊢
            exact ⟨⟨e.1, e.2.1⟩, r⟩)
          have hfl : ∀ (ps : List (Nat × List PV)) (c d : List PV), pfill c ps = some d → d.length = c.length := by
            intro ps
            induction ps with
            | nil => intro c d h; simp only [pfill, Option.some.injEq] at h; rw [h]
            | cons p ps ih =>
              intro c d h
              obtain ⟨off, xs⟩ := p
              simp only [pfill] at h
              obtain ⟨hle, h⟩ := ite_inv h
              rw [ih _ _ h]
              simp
              omega
          have hcl : cs.length = len * szOf en.P e := by
            rw [hfl _ _ _ hcs, hz0.length]
            simp [hzs]
          have hcap : len ≤ maxLen := by
            have : len * 1 ≤ len * szOf en.P e := Nat.mul_le_mul_left _ hzl.2
            simp only [maxLen]
            omega
          have hrel := rel_new (M := M) (w1 := M.w) (Below.refl _ _) (arr := new) (e := e) (fr := (0, 0)) (sz := szOf en.P e) (n := len) (cap := len) k2 hcl (Nat.le_refl _) hcap (fun j u hu => by simpa using hu)
          refine ⟨_, M.lay (M.w.alloc (.cells new e)) M.w.heap.size new.toList.length, ?_, Move.lay (below_alloc (Below.refl _ _) _) (Nat.le_refl _) _, RelS.of_data hrel, .inr ⟨_, _, _, _, rfl, .inl ⟨_, _, rfl⟩⟩⟩
          have e24 : ¬ (len * szOf en.P e > 2 ^ 24) := by omega
          have e' : (parts.map fun x => (x.1, a.eval x.2)).toList = parts.toList.map fun p => (p.1, a.eval p.2) := by simp
          rw [← e'] at k1
          by_cases h0 : len * szOf en.P e = 0
          · have k0 : Array.map (fun x => (#[] : Array Value)[x % (#[] : Array Value).size]!) (Array.range (len * szOf en.P e)) = (Array.range (len * zv.cells.size)).map fun i => zv.cells[i % zv.cells.size]! := by
              rw [hzs, h0]
              simp
            simp only [execOp, ho, Instr.buildSlice, Sem.run_bind, run_und he, Result.andThen_ok, size_run hie, if_neg e24, Sem.run_pure, if_pos h0]
            rw [k0, k1]
            simp [newRow, Mem.lay]
          · have k0 : Array.map (fun x => zv.cells[x % zv.cells.size]!) (Array.range (len * szOf en.P e)) = (Array.range (len * zv.cells.size)).map fun i => zv.cells[i % zv.cells.size]! := by
              rw [hzs]
            simp only [execOp, ho, Instr.buildSlice, Sem.run_bind, run_und he, Result.andThen_ok, size_run hie, if_neg e24, Sem.run_pure, if_neg h0, zero_run hi hzv]
            rw [k0, k1]
            simp [newRow, Mem.lay]
        · cases h
      · cases h
    · cases h
  · cases h
end

end Go.Proofs.YtllpobcecingiaaGreatDoor
