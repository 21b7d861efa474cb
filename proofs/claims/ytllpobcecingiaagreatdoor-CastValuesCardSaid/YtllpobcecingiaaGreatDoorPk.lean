/-
  Each operation, part 5: boxes, aggregates and slices that are built, make, append, the other built-in functions.
-/
import Derived.Test.YtllpobcecingiaaGreatDoorPj
set_option linter.unusedVariables false
set_option linter.unusedSimpArgs false
namespace Go.Proofs.YtllpobcecingiaaGreatDoor
open Go.RowKit

section
variable {en : Env} {NG : Nat} {W : World → Prop} {st : St} {o : Oper}

/-! ### boxes -/
theorem sim_mk {cs : List TV} (h : ∀ (M0 : Mem) (a : Act) (M : Mem) (β κ : Nat → Option Nat), Inv NG M0 st a M β κ → GOK en M0 → W M0.w →
    ∃ arr e, (execOp a.eval o).run en.P M.w = .ok (.value (.pointer (some ⟨M.w.heap.size, 0, none⟩))) (M.w.alloc (.cells arr e)) ∧ BoxOK M κ cs arr.toList) : Sim en NG W st o (.mk cs) := by
  intro M0 a M β κ hI hG hW st' hst next Q hn
  obtain ⟨arr, e, h1, h2⟩ := h M0 a M β κ hI hG hW
  simp only [papply] at hst
  split at hst
  · rename_i d hd
    split at hst
    · rename_i hbx
      injection hst with hst
      subst hst
      have hm : Move M (M.lay (M.w.alloc (.cells arr e)) M.w.heap.size 0) none := Move.lay (below_alloc (Below.refl _ _) _) (Nat.le_refl _) 0
      refine wp_value h1 (hn _ (M.lay (M.w.alloc (.cells arr e)) M.w.heap.size 0) (fun id => if id = d then some M.w.heap.size else β id) κ ?_)
      rw [hd]
      exact (hI.grow hm).addBox (e := e) (arr := arr) (heap_alloc_new M.w _) (by simp [Mem.lay]) hI.below.size (fun c hc => by have := hI.khigh c _ hc; omega) (fun id hb => by have := hI.box_lt hb; omega) hbx (h2.move hm (fun _ _ _ => by simp))
    · cases hst
  · cases hst

theorem newVar_run {P : Program} {t : TypeId} {v : Value} {w : World} : (newVar t v).run P w = .ok ⟨w.heap.size, 0, none⟩ (w.alloc (.cells v.cells t)) := by
  simp [newVar, newRow]
theorem zero_run {P : Program} {t : TypeId} {i : TypeInfo} {z : Value} (hi : P.info? t = some i) (hz : i.zero = some z) (w : World) : (zeroValue t).run P w = .ok z w := by
  simp [zeroValue, typeInfo, hi, hz]

theorem sim_alloc {t : TypeId} (ho : o.op = .alloc t) {act : PAct} (h : presolve en st o some = some act) : Sim en NG W st o act := by
  simp only [presolve, ho] at h
  split at h
  · rename_i cs hcs
    injection h with h
    subst h
    obtain ⟨i, z, hi, hz, _, hr⟩ := zeroPV_ok hcs
    refine sim_mk fun M0 a M β κ hI hG _ => ⟨z.cells, t, ?_, BoxOK.of_rel (hr M)⟩
    simp [execOp, ho, Instr.alloc, zero_run hi hz, newVar_run]
  · cases h
theorem sim_box {t : TypeId} {x : Operand} (ho : o.op = .box t x) {act : PAct} (h : presolve en st o some = some act) : Sim en NG W st o act := by
  simp only [presolve, ho] at h
  split at h
  · rename_i cs hcs
    obtain ⟨hd, h⟩ := ite_inv h
    injection h with h
    subst h
    refine sim_mk fun M0 a M β κ hI hG _ => ⟨(a.eval x).cells, t, ?_, pcells_ok hcs hd (hI.ev hG t x).1 (hI.ev hG t x).2⟩
    simp [execOp, ho, Instr.box, newVar_run]
  · cases h

theorem BoxOK.splice {M : Mem} {κ : Nat → Option Nat} {cs ds : List TV} {arr new : List Value} (h : BoxOK M κ cs arr) (k : BoxOK M κ ds new) {off : Nat} (hle : off + ds.length ≤ cs.length) :
    BoxOK M κ (cs.take off ++ ds ++ cs.drop (off + ds.length)) (arr.take off ++ new ++ arr.drop (off + new.length)) := by
  have e1 := h.1
  have e2 := k.1
  refine ⟨by simp; omega, fun j x hx => ?_⟩
  have l1 : (cs.take off).length = off := by rw [List.length_take]; omega
  have l2 : (arr.take off).length = off := by rw [List.length_take]; omega
  by_cases c1 : j < off
  · rw [List.append_assoc, List.getElem?_append_left (by omega), List.getElem?_take_of_lt c1] at hx
    obtain ⟨u, hu, r⟩ := h.2 j x hx
    exact ⟨u, by rw [List.append_assoc, List.getElem?_append_left (by omega), List.getElem?_take_of_lt c1]; exact hu, r⟩
  · by_cases c2 : j < off + ds.length
    · rw [List.append_assoc, List.getElem?_append_right (by omega), List.getElem?_append_left (by omega), l1] at hx
      obtain ⟨u, hu, r⟩ := k.2 _ x hx
      exact ⟨u, by rw [List.append_assoc, List.getElem?_append_right (by omega), List.getElem?_append_left (by omega), l2]; exact hu, r⟩
    · rw [List.append_assoc, List.getElem?_append_right (by omega), List.getElem?_append_right (by omega), l1, List.getElem?_drop] at hx
      obtain ⟨u, hu, r⟩ := h.2 _ x hx
      refine ⟨u, ?_, r⟩
      rw [List.append_assoc, List.getElem?_append_right (by omega), List.getElem?_append_right (by omega), l2, List.getElem?_drop, ← hu]
      congr 1
      omega

theorem sim_store {t : TypeId} (hT : TypesOK en.P t) {x y : Operand} (ho : o.op = .store t x y) (hti : (en.P.info? t).isSome = true) {act : PAct} (h : presolve en st o some = some act) : Sim en NG W st o act := by
  simp only [presolve, ho] at h
  split at h
  · rename_i id off cs hx hy
    obtain ⟨hd, h⟩ := ite_inv h
    injection h with h
    subst h
    simp only [Bool.and_eq_true, beq_iff_eq, decide_eq_true_eq] at hd
    intro M0 a M β κ hI hG hW st' hst next Q hn
    simp only [papply] at hst
    split at hst
    · rename_i cs0 hbx hdst
      obtain ⟨hle, hst⟩ := ite_inv hst
      injection hst with hst
      subst hst
      have hx' := (hI.ev hG t x).1
      rw [hx] at hx'
      obtain ⟨b, hb, he⟩ := rel_ptr hx'
      obtain ⟨cs1, arr, e, k1, k2, k3, k4, k5⟩ := hI.box id b hb
      rw [hbx] at k1
      injection k1 with k1
      injection k1 with k1
      subst k1
      have hc := pcells_ok hy hd.2 (hI.ev hG t y).1 (hI.ev hG t y).2
      have hcl := hc.1
      have hsz : (a.eval y).cells.size = szOf en.P t := by rw [← hd.1]; simpa using hcl.symm
      have hfit : off + 0 + (a.eval y).cells.toList.length ≤ arr.size := by have := k3.1; simp at hcl this ⊢; omega
      have hrun := run_storeCells_at en.P b off e (a.eval y).cells.toList 0 arr M.w k2 hfit hc.rel.one
      simp only [Nat.add_zero] at hrun
      refine wp_none (w' := M.w.setRow b (arr.toList.take off ++ (a.eval y).cells.toList ++ arr.toList.drop (off + (a.eval y).cells.toList.length)).toArray) ?_ ?_
      · simp [execOp, ho, Instr.storeAt, he, Instr.sureAddr, storeVar, size_run hti, hsz, hrun]
      · rw [hdst]
        exact hn _ _ _ _ (hI.setBox hb k2 (by have := k3.1; simp at hcl this hfit ⊢; omega) (k3.splice hc hle))
    · cases hst
  · cases h

theorem BoxOK.piece {M : Mem} {κ : Nat → Option Nat} {cs : List TV} {arr : List Value} (h : BoxOK M κ cs arr) (off n : Nat) : RelL M (((cs.take (off + n)).drop off).map (·.1)) ((arr.take (off + n)).drop off) := by
  have := (h.rel.take (off + n)).drop off
  rwa [← List.map_take, ← List.map_drop] at this

theorem sim_load_b {t : TypeId} (hT : TypesOK en.P t) {x : Operand} (ho : o.op = .load t x) (hti : (en.P.info? t).isSome = true) (hone : isAggT en.P t = false → szOf en.P t = 1) {id off : Nat} (hx : (ev en st t x).1 = .ptr id off) {act : PAct} (h : presolve en st o some = some act) : Sim en NG W st o act := by
  simp only [presolve, ho, hx] at h
  injection h with h
  subst h
  intro M0 a M β κ hI hG hW st' hst next Q hn
  simp only [papply, actVal] at hst
  obtain ⟨yv, hst2, he0⟩ := Option.map_eq_some_iff.1 hst
  clear hst
  subst he0
  have hst := hst2
  clear hst2
  split at hst
  · rename_i cs hbx
    have hx' := (hI.ev hG t x).1
    rw [hx] at hx'
    obtain ⟨b, hb, he⟩ := rel_ptr hx'
    obtain ⟨cs1, arr, e, k1, k2, k3, k4, k5⟩ := hI.box id b hb
    rw [hbx] at k1
    injection k1 with k1
    injection k1 with k1
    subst k1
    have hcell : ∀ n j u, ((arr.toList.take (off + n)).drop off)[j]? = some u → M.w.cell? ⟨b, off + j, none⟩ = some u := by
      intro n j u hu
      rw [cell_of_row _ _ _ arr e (0, 0) k2]
      rw [List.getElem?_drop, List.getElem?_take] at hu
      split at hu
      · simpa using hu
      · cases hu
    cases hag : isAggT en.P t
    · rw [hag] at hst
      simp only [Bool.false_eq_true, if_false] at hst
      obtain ⟨u, h1, h2, h3, h4⟩ := k3.2 off yv hst
      · have hl := run_loadVar (P := en.P) (w := M.w) (t := t) (b := b) (off := off) (vs := [u]) hti (hT.un) (by rw [hone hag]; rfl) (fun j u' hj => by
          cases j with
          | zero => simp at hj; subst hj; rw [Nat.add_zero, cell_of_row _ _ _ arr e (0, 0) k2]; simpa using h1
          | succ j => simp at hj) (fun _ => rfl)
        exact wp_value (v := u) (w' := M.w) (by simp [execOp, ho, Instr.loadAt, he, Instr.sureAddr, hl, hag]) (hn _ M β κ (hI.put o.dst (RelS.of_data h3) h4))
    · rw [hag] at hst
      simp only [if_true] at hst
      obtain ⟨hle, hst⟩ := ite_inv hst
      injection hst with hst
      subst hst
      have hr := k3.piece off (szOf en.P t)
      have hl := run_loadVar (P := en.P) (w := M.w) hti (hT.un) (b := b) (off := off) (vs := (arr.toList.take (off + szOf en.P t)).drop off) (by have := k3.1; simp at this ⊢; omega) (hcell _) (by simp [hag])
      refine wp_value (v := .agg ((arr.toList.take (off + szOf en.P t)).drop off).toArray) (w' := M.w) (by simp [execOp, ho, Instr.loadAt, he, Instr.sureAddr, hl, hag]) (hn _ M β κ (hI.put o.dst (x := (.agg _, 0)) ?_ (.inl rfl)))
      show RelD M (.agg _) _
      simp only [RelD]
      exact ⟨_, rfl, hr⟩
  · cases hst

theorem sim_load {t : TypeId} (hT : TypesOK en.P t) {x : Operand} (ho : o.op = .load t x) (hti : (en.P.info? t).isSome = true) (hone : isAggT en.P t = false → szOf en.P t = 1) {act : PAct} (h : presolve en st o some = some act) : Sim en NG W st o act := by
  rcases hx : (ev en st t x).1 with _ | _ | _ | _ | _ | _ | _ | _ | _ | _ | _ | _ | ⟨id, off⟩ | cs | _
  case ptr => exact sim_load_b hT ho hti hone hx h
  case eptr => exact sim_load_e hT ho hti hx h
  all_goals (simp only [presolve, ho, hx, reduceCtorEq] at h)

/-! ### what is built of parts -/
theorem RelL.splice {M : Mem} {cs ds : List PV} {arr new : List Value} (h : RelL M cs arr) (k : RelL M ds new) {off : Nat} : RelL M (cs.take off ++ ds ++ cs.drop (off + ds.length)) (arr.take off ++ new ++ arr.drop (off + new.length)) := by
  rw [k.length]
  exact ((h.take _).append k).append (h.drop _)

theorem fill_one (off : Nat) : ∀ (cs : List Value) (arr : Array Value) (j : Nat), off + j + cs.length ≤ arr.size → (cs.zipIdx j).foldl (fun a (p : Value × Nat) => a.setIfInBounds (off + p.2) p.1) arr = (arr.toList.take (off + j) ++ cs ++ arr.toList.drop (off + j + cs.length)).toArray
  | [], arr, j, _ => by simp
  | c :: cs, arr, j, h => by
    simp only [List.zipIdx_cons, List.foldl_cons]
    rw [fill_one off cs _ (j + 1) (by simp at h ⊢; omega)]
    simp only [List.length_cons] at h
    have hlt : off + j < arr.size := by omega
    congr 1
    rw [Array.toList_setIfInBounds, show off + (j + 1) = off + j + 1 by omega]
    rw [List.take_set, List.drop_set, if_pos (by omega)]
    have e : (arr.toList.take (off + j + 1)).set (off + j) c = arr.toList.take (off + j) ++ [c] := by
      rw [List.take_succ_eq_append_getElem (by simpa using hlt), List.set_append_right _ _ (by simp; omega)]
      simp [Nat.min_eq_left (Nat.le_of_lt hlt)]
    rw [e]
    simp only [List.append_assoc, List.singleton_append, List.length_cons]
    congr 3
    omega

theorem fill_ok {P : Program} {w : World} {M : Mem} {place : Nat → Option (Nat × Nat)} : ∀ (vals : List (Nat × Value)) (ps : List (Nat × List PV)) (cells out : List PV) (arr : Array Value),
    pfill cells ps = some out → RelL M cells arr.toList → vals.length = ps.length →
    (∀ (k i : Nat) (v : Value) (off : Nat) (xs : List PV), vals[k]? = some (i, v) → ps[k]? = some (off, xs) → place i = some (off, xs.length) ∧ RelL M xs v.cells.toList) →
    ∃ new, Instr.fill place arr vals = some new ∧ RelL M out new.toList
  | [], [], cells, out, arr, h, hr, _, _ => by
    simp only [pfill, Option.some.injEq] at h
    subst h
    exact ⟨arr, rfl, hr⟩
  | [], _ :: _, _, _, _, _, _, hl, _ => by simp at hl
  | _ :: _, [], _, _, _, _, _, hl, _ => by simp at hl
  | (i, v) :: vals, (off, xs) :: ps, cells, out, arr, h, hr, hl, hp => by
    simp only [pfill] at h
    obtain ⟨hle, h⟩ := ite_inv h
    obtain ⟨h1, h2⟩ := hp 0 i v off xs rfl rfl
    have e1 := hr.length
    have e2 := h2.length
    simp only [Array.length_toList] at e1 e2
    have hf := fill_one off v.cells.toList arr 0 (by simp; omega)
    simp only [Nat.add_zero] at hf
    have hr' := hr.splice h2 (off := off)
    obtain ⟨new, k1, k2⟩ := fill_ok (P := P) (w := w) (place := place) vals ps _ out (arr.toList.take off ++ v.cells.toList ++ arr.toList.drop (off + v.cells.toList.length)).toArray h (by simpa using hr') (by simpa using hl) (fun k i v off xs a b => hp (k + 1) i v off xs a b)
    refine ⟨new, ?_, k2⟩
    simp only [Instr.fill, h1]
    rw [if_neg (by simp; omega)]
    have hz : v.cells.zipIdx.foldl (fun (cs : Array Value) (x : Value × Nat) => cs.setIfInBounds (off + x.2) x.1) arr = (v.cells.toList.zipIdx 0).foldl (fun a (p : Value × Nat) => a.setIfInBounds (off + p.2) p.1) arr := by
      rw [← Array.foldl_toList, Array.toList_zipIdx]
    rw [hz, hf]
    exact k1

theorem parts_ok {M0 : Mem} {a : Act} {M : Mem} {β κ : Nat → Option Nat} (hI : Inv NG M0 st a M β κ) (hG : GOK en M0) {place : Nat → Option (Nat × Nat × TypeId)} : ∀ (parts : List (Nat × Operand)) (ps : List (Nat × List PV)), pbuildParts en st place parts = some ps →
    (parts.map fun p => (p.1, a.eval p.2)).length = ps.length ∧ ∀ (k i : Nat) (v : Value) (off : Nat) (xs : List PV), (parts.map fun p => (p.1, a.eval p.2))[k]? = some (i, v) → ps[k]? = some (off, xs) → (∃ t, place i = some (off, xs.length, t)) ∧ RelL M xs v.cells.toList
  | [], ps, h => by
    simp only [pbuildParts, Option.some.injEq] at h
    subst h
    exact ⟨rfl, fun k i v off xs h => by simp at h⟩
  | (i, x) :: parts, ps, h => by
    simp only [pbuildParts] at h
    split at h
    · rename_i off sz t hpl
      split at h
      · rename_i cs hcs
        obtain ⟨hd, h⟩ := ite_inv h
        simp only [Bool.and_eq_true, beq_iff_eq, decide_eq_true_eq] at hd
        rcases hp : pbuildParts en st place parts with _ | ps'
        · rw [hp] at h; simp at h
        · rw [hp] at h
          simp only [Option.map_some, Option.some.injEq] at h
          subst h
          obtain ⟨h1, h2⟩ := parts_ok hI hG parts ps' hp
          refine ⟨by simpa using h1, fun k i' v off' xs hk hp' => ?_⟩
          cases k with
          | zero =>
            simp at hk hp'
            obtain ⟨rfl, rfl⟩ := hk
            obtain ⟨rfl, rfl⟩ := hp'
            exact ⟨⟨t, by rw [hpl]; simp [hd.1]⟩, (pcells_ok hcs hd.2 (hI.ev hG t x).1 (hI.ev hG t x).2).rel⟩
          | succ k => exact h2 k i' v off' xs (by simpa using hk) (by simpa using hp')
      · cases h
    · cases h
end

end Go.Proofs.YtllpobcecingiaaGreatDoor
