/-
  Each operation: what the evaluator's act says of it, the machine does. Part 4: fields, indexes, places, loads from protected places, tuples, interfaces, len, max, min.
-/
import Derived.Test.YtllpobcecingiaaGreatDoorPo3
set_option linter.unusedVariables false
set_option linter.unusedSimpArgs false
namespace Go.Proofs.YtllpobcecingiaaGreatDoor
open Go.RowKit

section
variable {en : Env} {NG : Nat} {W : World → Prop} {st : St} {o : Oper}

theorem rel_agg {M : Mem} {β : Nat → Option Nat} {cs : List PV} {v : Value} (h : RelS M β (.agg cs) v) : ∃ vs, v = .agg vs.toArray ∧ RelL M cs vs := by
  have h : RelD M (.agg cs) v := h
  simpa only [RelD] using h

theorem fieldsOf_spec {P : Program} {t : TypeId} {f : Nat} {fd : Field} (h : (fieldsOf P t).bind (·[f]?) = some fd) : ∃ fs, P.underlying t = some (.struct fs) ∧ fs[f]? = some fd := by
  unfold fieldsOf at h
  split at h
  · rename_i fs hfs
    exact ⟨fs, hfs, by simpa using h⟩
  · simp at h

theorem sim_field {t : TypeId} (hT : TypesOK en.P t) {x : Operand} {f : Nat} (ho : o.op = .field t x f) {act : PAct} (h : presolve en st o some = some act) : Sim en NG W st o act := by
  simp only [presolve, ho] at h
  split at h
  · rename_i fd cs hf hx
    rw [ppart_nat] at h
    obtain ⟨v, hv, h⟩ := bind_some_inv h
    injection h with h
    subst h
    refine sim_same fun M0 a M β κ hI hG _ => ?_
    obtain ⟨fs, hfs, hfd⟩ := fieldsOf_spec hf
    have hi := hT.st fs hfs fd (Array.mem_of_getElem? hfd)
    have hx' := (hI.ev hG t x).1
    rw [hx] at hx'
    obtain ⟨vs, he, hr⟩ := rel_agg hx'
    obtain ⟨u, h1, h2⟩ := part_ok hi (hT.st_un fs hfs fd (Array.mem_of_getElem? hfd)) hv hr
    exact ⟨u, by simp [execOp, ho, Instr.field, run_und hfs, hfd, he, asAgg, h1], RelS.of_data h2, .inl rfl⟩
  · cases h

theorem index_in {i : Int} {n : Nat} (h : (decide (0 ≤ i) && decide (i < (n : Int))) = true) : 0 ≤ i ∧ i < (n : Int) := by simpa using h

theorem sim_index {t : TypeId} (hT : TypesOK en.P t) {x y : Operand} (ho : o.op = .index t x y) {act : PAct} (h : presolve en st o some = some act) : Sim en NG W st o act := by
  simp only [presolve, ho] at h
  split at h
  · rename_i s k i ht hx hy
    obtain ⟨hb, h⟩ := bif_inv h
    obtain ⟨c, hc, h⟩ := bind_some_inv h
    injection h with h
    subst h
    have hb := index_in hb
    refine sim_same fun M0 a M β κ hI hG _ => ?_
    have hx' := (hI.ev hG t x).1
    have hy' := (hI.ev hG 0 y).1
    rw [hx] at hx'
    rw [hy] at hy'
    have hx' := rel_str hx'
    have hy' := rel_int hy'
    have hg : (⟨s.toArray⟩ : ByteArray)[i.toNat]? = some c := by
      have hlt : i.toNat < s.length := (List.getElem?_eq_some_iff.1 hc).1
      rw [getElem?_pos (⟨s.toArray⟩ : ByteArray) i.toNat (show i.toNat < (⟨s.toArray⟩ : ByteArray).size by simpa [ByteArray.size] using hlt)]
      rw [List.getElem?_eq_getElem hlt] at hc
      injection hc with hc
      rw [← hc]
      rfl
    exact ⟨_, by simp [execOp, ho, hx', hy', Instr.index, asIntOf, run_und ht, hb.1, hg], rfl, .inl rfl⟩
  · rename_i n e cs k i ht hx hy
    obtain ⟨hb, h⟩ := bif_inv h
    rw [ppart_nat] at h
    obtain ⟨v, hv, h⟩ := bind_some_inv h
    injection h with h
    subst h
    have hb := index_in hb
    refine sim_same fun M0 a M β κ hI hG _ => ?_
    have hx' := (hI.ev hG t x).1
    have hy' := (hI.ev hG 0 y).1
    rw [hx] at hx'
    rw [hy] at hy'
    obtain ⟨vs, he, hr⟩ := rel_agg hx'
    have hy' := rel_int hy'
    have hi := hT.ar n e ht
    obtain ⟨u, h1, h2⟩ := part_ok hi (hT.ar_un n e ht) hv hr
    exact ⟨u, by simp [execOp, ho, he, hy', Instr.index, asIntOf, run_und ht, hb, size_run hi, h1], RelS.of_data h2, .inl rfl⟩
  · cases h

theorem rel_eptr {M : Mem} {β : Nat → Option Nat} {cs : List PV} {v : Value} (h : RelS M β (.eptr cs) v) : ∃ b o vs, v = .pointer (some ⟨b, o, none⟩) ∧ RelL M cs vs ∧ CellsAt M b o vs := h
theorem rel_ptr {M : Mem} {β : Nat → Option Nat} {id off : Nat} {v : Value} (h : RelS M β (.ptr id off) v) : ∃ b, β id = some b ∧ v = .pointer (some ⟨b, off, none⟩) := h

theorem sim_fieldAddr {t : TypeId} (hT : TypesOK en.P t) {x : Operand} {f : Nat} (ho : o.op = .fieldAddr t x f) {act : PAct} (h : presolve en st o some = some act) : Sim en NG W st o act := by
  simp only [presolve, ho] at h
  split at h
  · rename_i fd id off hf hx
    obtain ⟨hz, h⟩ := ite_inv' h
    injection h with h
    subst h
    refine sim_same fun M0 a M β κ hI hG _ => ?_
    obtain ⟨fs, hfs, hfd⟩ := fieldsOf_spec hf
    have hi := hT.st fs hfs fd (Array.mem_of_getElem? hfd)
    have hx' := (hI.ev hG t x).1
    rw [hx] at hx'
    obtain ⟨b, hb, he⟩ := rel_ptr hx'
    exact ⟨_, by simp [execOp, ho, Instr.fieldAt, run_und hfs, hfd, he, Instr.sureAddr, fieldPlace, size_run hi, hz, addr_add], ⟨b, hb, rfl⟩, .inl rfl⟩
  · rename_i fd cs hf hx
    obtain ⟨hz, h⟩ := ite_inv' h
    injection h with h
    subst h
    refine sim_same fun M0 a M β κ hI hG _ => ?_
    obtain ⟨fs, hfs, hfd⟩ := fieldsOf_spec hf
    have hi := hT.st fs hfs fd (Array.mem_of_getElem? hfd)
    have hx' := (hI.ev hG t x).1
    rw [hx] at hx'
    obtain ⟨b, off, vs, he, hr, hc⟩ := rel_eptr hx'
    exact ⟨_, by simp [execOp, ho, Instr.fieldAt, run_und hfs, hfd, he, Instr.sureAddr, fieldPlace, size_run hi, hz, addr_add], ⟨b, off + fd.offset, _, rfl, hr.drop _, hc.drop _⟩, .inl rfl⟩
  · cases h

theorem sim_indexAddr {t : TypeId} (hT : TypesOK en.P t) {x y : Operand} (ho : o.op = .indexAddr t x y) {act : PAct} (h : presolve en st o some = some act) : Sim en NG W st o act := by
  simp only [presolve, ho] at h
  split at h
  · rename_i e nl sz n cells k i ht hx hy
    obtain ⟨hs, h⟩ := ite_inv h
    obtain ⟨hb, h⟩ := bif_inv h
    injection h with h
    subst h
    have hb := index_in hb
    simp only [Bool.and_eq_true, beq_iff_eq, decide_eq_true_eq] at hs
    refine sim_same fun M0 a M β κ hI hG _ => ?_
    have hx' := (hI.ev hG t x).1
    have hy' := (hI.ev hG 0 y).1
    rw [hx] at hx'
    rw [hy] at hy'
    have hy' := rel_int hy'
    have hx' : RelD M _ _ := hx'
    simp only [RelD] at hx'
    obtain ⟨A, c, vs, he, h1, h2, h3, h4, h5, h6, h7⟩ := hx'
    have hi := hT.sl e ht
    have hlt : i.toNat < n := by omega
    have hpos : 0 < vs.length := by rw [← h6.length, h5]; exact Nat.mul_pos (by omega) hs.2
    rcases h7 with h7 | ⟨b, off, hA, h7⟩
    · rw [h7] at hpos; simp at hpos
    subst hA
    exact ⟨_, by simp [execOp, ho, he, hy', Instr.indexAt, asIntOf, run_und ht, hb, size_run hi, addr_add, hs.1], ⟨b, off + i.toNat * sz, _, rfl, (h6.drop _).take _, (h7.drop _).take _⟩, .inl rfl⟩
  · rename_i n e id off k i ht hx hy
    obtain ⟨hb, h⟩ := bif_inv h
    injection h with h
    subst h
    have hb := index_in hb
    refine sim_same fun M0 a M β κ hI hG _ => ?_
    have hx' := (hI.ev hG t x).1
    have hy' := (hI.ev hG 0 y).1
    rw [hx] at hx'
    rw [hy] at hy'
    have hy' := rel_int hy'
    obtain ⟨b, hbb, he⟩ := rel_ptr hx'
    have hi := hT.ar n e ht
    exact ⟨_, by simp [execOp, ho, he, hy', Instr.indexAt, Instr.sureAddr, asIntOf, run_und ht, hb, size_run hi, addr_add], ⟨b, hbb, rfl⟩, .inl rfl⟩
  · rename_i n e cs k i ht hx hy
    obtain ⟨hb, h⟩ := bif_inv h
    injection h with h
    subst h
    have hb := index_in hb
    refine sim_same fun M0 a M β κ hI hG _ => ?_
    have hx' := (hI.ev hG t x).1
    have hy' := (hI.ev hG 0 y).1
    rw [hx] at hx'
    rw [hy] at hy'
    have hy' := rel_int hy'
    obtain ⟨b, off, vs, he, hr, hc⟩ := rel_eptr hx'
    have hi := hT.ar n e ht
    exact ⟨_, by simp [execOp, ho, he, hy', Instr.indexAt, Instr.sureAddr, asIntOf, run_und ht, hb, size_run hi, addr_add], ⟨b, off + i.toNat * szOf en.P e, _, rfl, hr.drop _, hc.drop _⟩, .inl rfl⟩
  · cases h

theorem refine1_ok {t : CT} {x y : PV} (h : refine1 t x some = some y) : y = x := by
  cases t <;> simp only [refine1] at h
  case int k => obtain ⟨n, h1, h⟩ := bind_some_inv h; injection h with h; subst h; cases x <;> simp only [PV.asInt, reduceCtorEq] at h1; obtain ⟨e, h2⟩ := ite_inv h1; injection h2 with h2; rw [h2, e]
  case bool => obtain ⟨n, h1, h⟩ := bind_some_inv h; injection h with h; subst h; cases x <;> simp only [PV.asBool, reduceCtorEq, Option.some.injEq] at h1; rw [h1]
  case str => obtain ⟨n, h1, h⟩ := bind_some_inv h; injection h with h; subst h; cases x <;> simp only [PV.asStr, reduceCtorEq, Option.some.injEq] at h1; rw [h1]
  case sl sz => obtain ⟨n, h1, h⟩ := bind_some_inv h; injection h with h; subst h; cases x <;> simp only [PV.asSl, reduceCtorEq] at h1; obtain ⟨e, h2⟩ := ite_inv h1; injection h2 with h2; rw [← h2, e]
  all_goals (obtain ⟨_, h⟩ := ite_inv h; injection h with h; exact h.symm)
theorem refineL_ok : ∀ {ts : List CT} {xs ys : List PV}, refineL ts xs some = some ys → ys = xs.take ts.length
  | [], xs, ys, h => by simp only [refineL, Option.some.injEq] at h; subst h; rfl
  | t :: ts, xs, ys, h => by
    simp only [refineL] at h
    obtain ⟨x, hx, h⟩ := bind_some_inv h
    rw [refine1_nat] at h
    obtain ⟨y, hy, h⟩ := bind_some_inv h
    rw [refineL_nat] at h
    obtain ⟨zs, hz, h⟩ := bind_some_inv h
    injection h with h
    subst h
    rw [refine1_ok hy, refineL_ok hz]
    cases xs with
    | nil => simp at hx
    | cons a l => simp at hx; subst hx; rfl
theorem refineL_len : ∀ {ts : List CT} {xs ys : List PV}, refineL ts xs some = some ys → ts.length ≤ xs.length
  | [], xs, ys, h => Nat.zero_le _
  | t :: ts, xs, ys, h => by
    simp only [refineL] at h
    obtain ⟨x, hx, h⟩ := bind_some_inv h
    rw [refine1_nat] at h
    obtain ⟨y, hy, h⟩ := bind_some_inv h
    rw [refineL_nat] at h
    obtain ⟨zs, hz, h⟩ := bind_some_inv h
    have := refineL_len hz
    cases xs with
    | nil => simp at hx
    | cons a l => simp at this ⊢; exact this

/-- a load from cells that are known -/
theorem run_loadVar {P : Program} {w : World} {t : TypeId} {b off : Nat} {vs : List Value} (hi : (P.info? t).isSome = true) (hu : ∃ d, P.underlying t = some d) (hlen : szOf P t = vs.length) (h : ∀ j u, vs[j]? = some u → w.cell? ⟨b, off + j, none⟩ = some u) (h1 : isAggT P t = false → vs.length = 1) :
    (loadVar t ⟨b, off, none⟩).run P w = .ok (if isAggT P t then .agg vs.toArray else vs.headD undef) w := by
  unfold loadVar
  simp only [Sem.run_bind, isAgg_run hi hu, Result.andThen_ok]
  cases hag : isAggT P t
  · simp only [Bool.false_eq_true, if_false]
    have := h1 hag
    match vs, this with
    | [u], _ =>
      have := h 0 u rfl
      simp only [Nat.add_zero] at this
      simp [run_load, this]
  · simp only [if_true, Sem.run_bind, size_run hi, Result.andThen_ok, hlen]
    rw [run_loadCells_list (P := P) w ⟨b, off, none⟩ vs (fun j v hj => by rw [addr_add]; exact h j v hj)]
    rfl

theorem sim_load_e {t : TypeId} (hT : TypesOK en.P t) {x : Operand} (ho : o.op = .load t x) (hti : (en.P.info? t).isSome = true) {cs : List PV} (hx : (ev en st t x).1 = .eptr cs) {act : PAct} (h : presolve en st o some = some act) : Sim en NG W st o act := by
  simp only [presolve, ho, hx] at h
  obtain ⟨hsz, h⟩ := ite_inv h
  rw [refineL_nat] at h
  obtain ⟨r, hr, h⟩ := bind_some_inv h
  have e1 := refineL_ok hr
  have e2 := refineL_len hr
  have key : ∀ {M0 : Mem} {a : Act} {M : Mem} {β κ : Nat → Option Nat}, Inv NG M0 st a M β κ → GOK en M0 → ∃ b off vs, a.eval x = .pointer (some ⟨b, off, none⟩) ∧ RelL M r vs ∧ vs.length = szOf en.P t ∧ ∀ j u, vs[j]? = some u → M.w.cell? ⟨b, off + j, none⟩ = some u := by
    intro M0 a M β κ hI hG
    have hx' := (hI.ev hG t x).1
    rw [hx] at hx'
    obtain ⟨b, off, vs, he, hrl, hc⟩ := rel_eptr hx'
    refine ⟨b, off, vs.take (tysOf en.P t).length, he, by rw [e1]; exact hrl.take _, ?_, fun j u hj => ((hc.take _) j u hj).1⟩
    rw [List.length_take, ← hrl.length, ← hsz]
    exact Nat.min_eq_left e2
  split at h
  · rename_i hag
    injection h with h
    subst h
    refine sim_same fun M0 a M β κ hI hG _ => ?_
    obtain ⟨b, off, vs, he, h1, h2, h3⟩ := key hI hG
    have hl := run_loadVar (P := en.P) (w := M.w) hti (hT.un) h2.symm h3 (by simp [hag])
    refine ⟨.agg vs.toArray, by simp [execOp, ho, Instr.loadAt, he, Instr.sureAddr, hl, hag], ?_, .inl rfl⟩
    show RelD M (.agg r) _
    simp only [RelD]
    exact ⟨vs, rfl, h1⟩
  · rename_i hag
    split at h
    · injection h with h
      subst h
      refine sim_same fun M0 a M β κ hI hG _ => ?_
      obtain ⟨b, off, vs, he, h1, h2, h3⟩ := key hI hG
      simp only [RelL] at h1
      obtain ⟨u, us, rfl, k1, k2, rfl⟩ := h1
      have hl := run_loadVar (P := en.P) (w := M.w) hti (hT.un) h2.symm h3 (by simp)
      exact ⟨u, by simp [execOp, ho, Instr.loadAt, he, Instr.sureAddr, hl, hag], RelS.of_data k2, .inl rfl⟩
    · cases h

theorem sim_extract {x : Operand} {i : Nat} (ho : o.op = .extract x i) {act : PAct} (h : presolve en st o some = some act) : Sim en NG W st o act := by
  simp only [presolve, ho] at h
  split at h
  · rename_i vs hx
    obtain ⟨v, hv, h⟩ := bind_some_inv h
    obtain ⟨hd, h⟩ := ite_inv h
    injection h with h
    subst h
    refine sim_same fun M0 a M β κ hI hG _ => ?_
    have hx' := (hI.ev hG 0 x).1
    rw [hx] at hx'
    have hx' : RelD M _ _ := hx'
    simp only [RelD] at hx'
    obtain ⟨us, he, hr⟩ := hx'
    obtain ⟨u, h1, h2⟩ := hr.get hv
    have : us.toArray[i]? = some u := by simpa using h1
    exact ⟨u, by simp [execOp, ho, Instr.extract, he, h1], RelS.of_data h2, .inl rfl⟩
  · cases h

theorem isIfaceT_false {P : Program} {t : TypeId} (h : ¬ isIfaceT P t = true) {d : TypeDesc} (hd : P.underlying t = some d) : ∀ m, d ≠ .interface m := by
  intro m e
  subst e
  exact h (by unfold isIfaceT; rw [hd])
theorem sim_makeInterface {t : TypeId} (hT : TypesOK en.P t) {x : Operand} (ho : o.op = .makeInterface t x) (hti : (en.P.info? t).isSome = true) {act : PAct} (h : presolve en st o some = some act) : Sim en NG W st o act := by
  simp only [presolve, ho] at h
  obtain ⟨hni, h⟩ := ite_inv' h
  obtain ⟨hd, h⟩ := ite_inv h
  injection h with h
  subst h
  refine sim_same fun M0 a M β κ hI hG _ => ?_
  have hx' := (hI.ev hG t x).1.data hd
  obtain ⟨d, hdd⟩ := hT.un
  have hne := isIfaceT_false hni hdd
  refine ⟨.iface t (a.eval x), ?_, ?_, .inl rfl⟩
  · simp only [execOp, ho, Instr.makeInterface, Sem.run_bind, run_und hdd, Result.andThen_ok]
    cases d <;> first | rfl | exact (hne _ rfl).elim
  · show RelD M (.iface _ _) _
    simp only [RelD]
    exact ⟨_, rfl, hx'⟩

theorem sim_nilCheck {x : Operand} (ho : o.op = .nilCheck x) {act : PAct} (h : presolve en st o some = some act) : Sim en NG W st o act := by
  simp only [presolve, ho] at h
  split at h
  · rename_i id off c hx
    injection h with h
    subst h
    refine sim_same fun M0 a M β κ hI hG _ => ?_
    have hx' := (hI.ev hG 0 x).1
    rw [hx] at hx'
    obtain ⟨b, hb, he⟩ := rel_ptr hx'
    exact ⟨_, by simp [execOp, ho, he], ⟨b, hb, rfl⟩, .inl rfl⟩
  · rename_i cs c hx
    injection h with h
    subst h
    refine sim_same fun M0 a M β κ hI hG _ => ?_
    have hx' := (hI.ev hG 0 x).1
    rw [hx] at hx'
    obtain ⟨b, off, vs, he, h1, h2⟩ := rel_eptr hx'
    exact ⟨_, by simp [execOp, ho, he], ⟨b, off, vs, rfl, h1, h2⟩, .inl rfl⟩
  · rename_i f cs c hx
    injection h with h
    subst h
    refine sim_same fun M0 a M β κ hI hG _ => ?_
    have hx' := (hI.ev hG 0 x).1
    rw [hx] at hx'
    obtain ⟨vs, he, h1⟩ := hx'
    exact ⟨_, by simp [execOp, ho, he], ⟨vs, rfl, h1⟩, .inl rfl⟩
  · cases h
end

end Go.Proofs.YtllpobcecingiaaGreatDoor
