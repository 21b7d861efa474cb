/-
  From what a law's function computes to what a call of it does, with slices among its arguments.
-/
import Derived.Test.YtclhnfalebiieaaDoorKz
import Derived.Test.YtclhnfalebiieaaDoorOpenVals
set_option linter.unusedVariables false
set_option linter.unusedSimpArgs false
set_option maxRecDepth 100000
namespace Go.Proofs.YtclhnfalebiieaaDoor
open Go.ChangeShapes Go.WideShapes Go.ChangeAt Go.RowKit Go.Deep

theorem longB_not' {l : List Val} (h : longB l = false) : l.length ≤ 20 ∧ ∀ x ∈ l, x.s.length ≤ 500 := by
  simp only [longB, Bool.or_eq_false_iff, List.any_eq_false, decide_eq_true_eq, decide_eq_false_iff_not] at h
  exact ⟨by omega, fun x hx => by have := h.2 x hx; omega⟩
theorem law_run {NG : Nat} {W : World → Prop} (hW : WOK NG W) {l : List (FuncId × PFn)} (hl : AllOK NG W l) {f : FuncId} {fn : Func} (hf : Tryd.prog.funcs[f]? = some fn) {h : Hints} {fuel : Nat} {w : World} {U : Nat → Nat} {xs : List PV} {vs : List Value}
    (hw : W w) (hng : NG ≤ w.heap.size) (hr : RelT ⟨w, U⟩ xs vs) (hrun : prun (en l) h fuel false fn xs = some (.bool true)) :
    Calls Tryd.prog f vs.toArray w fun e w' => e = .returned (.bool true) ∧ Below w.heap.size w w' := by
  refine (run_ok (env_ok hW hl) hf (M := ⟨w, U⟩) hw hng (fun g cs hg => by cases hg) hr hrun).mono ?_
  rintro e w' ⟨v, rfl, U', hm, hv, _⟩
  simp only [RelD] at hv
  subst hv
  exact ⟨rfl, hm.os, hm.tape, hm.output, hm.size, fun b hb => (hm.block b hb (by simp)).1⟩
theorem open_c0 {H : Type} {enc : TypeId × Value → H} {P : Program} {W : World} {base : Nat} {sp : Nat → Bool} {held : Bool} {t e : TypeId} {A : Option Addr} {n c : Nat} {d : DataW H} {ps : List MemPlace}
    (ht : P.underlying t = some (.slice e)) (hd : DataW.Trod enc P W base sp held t (.slice A n c) d ps) : A = none → c = 0 := by
  intro hA
  obtain ⟨fuel, hf⟩ := hd
  rcases open_slice ht hf with ⟨h, hx⟩ | ⟨a, len, cap, m, k, D, Pl, hcs, _⟩
  · simp [Value.cells] at h
    exact h.2.2
  · simp [Value.cells] at hcs
    rw [hcs.1] at hA
    cases hA
theorem sl_rel {w : World} {size n c : Nat} {A : Option Addr} {cells : List PV} {us : List Value} (h : Sl w size A n c us) (h0 : A = none → c = 0) (hr : ∀ M : Mem, RelL M cells us) :
    ∃ B, ∀ U : Nat → Nat, (∀ b, B ≤ U b) → RelD ⟨w, U⟩ (.sl none size n cells) (.slice A n c) := by
  have hlen : cells.length = n * size := (hr ⟨w, fun _ => 0⟩).length.trans h.len
  by_cases hn : n = 0
  · subst hn
    refine ⟨0, fun U _ => ?_⟩
    simp only [RelD]
    have : us = [] := List.length_eq_zero_iff.1 (by rw [h.len]; omega)
    exact ⟨A, c, us, rfl, Nat.zero_le _, h.cm, fun b hb => (by cases hb), h0, hlen, hr _, Or.inl this⟩
  · obtain ⟨b, o, rfl, _, hc⟩ := h.at_ (by omega)
    refine ⟨o + us.length, fun U hU => ?_⟩
    simp only [RelD]
    refine ⟨_, c, us, rfl, h.nc, h.cm, fun b hb => (by cases hb), h0, hlen, hr _, Or.inr ⟨b, o, rfl, fun j u hu => ⟨hc j u hu, ?_⟩⟩⟩
    have := (List.getElem?_eq_some_iff.1 hu).1
    have hb := hU b
    show o + j < U b
    omega
theorem rel_vals (M : Mem) : ∀ (vs : List Val), RelL M (valsC vs) (vcs vs)
  | [] => rfl
  | v :: vs => by
    show RelL M (.int .i64 v.kind :: .int .i64 v.n :: .int .i64 v.scale :: .str v.s :: valsC vs) (.int .i64 v.kind :: .int .i64 v.n :: .int .i64 v.scale :: .string ⟨v.s.toArray⟩ :: vcs vs)
    simp only [RelL, RelD]
    exact ⟨_, _, rfl, rfl, rfl, _, _, rfl, rfl, rfl, _, _, rfl, rfl, rfl, _, _, rfl, rfl, rfl, rel_vals M vs⟩
theorem sl_len1 {w : World} {A : Option Addr} {n c : Nat} {l : List UInt8} (h : Sl w 1 A n c (bvs l)) : n = l.length := by have := h.len; rw [bvs_length] at this; omega
theorem sl_len4 {w : World} {A : Option Addr} {n c : Nat} {l : List Val} (h : Sl w 4 A n c (vcs l)) : n = l.length := by have := h.len; rw [vcs_length] at this; omega
/-! ## KeysPuts -/
theorem kp_loop (fu : Nat) (n0 : Option Bool) (vs : List Val) (h64 : ∀ x ∈ vs, x.in64) (hl : vs.length ≤ 20) (hs : ∀ v ∈ vs, v.s.length ≤ 500) : ∀ (k i n : Nat) (n4 : Option Bool) (acc : List Val), i + k = vs.length → k < n → acc = (vs.take i).map Go.Proofs.YtclhnfalebiieaaDoor.plain →
    kpLoop fu n (frKp n0 vs.length (valsC vs) none (encs vs).length (bC (encs vs)) n4 acc.length (valsC acc) n0 vs.length (valsC vs) (vs.length : Int) (i : Int)) = some (.bool true)
  | k, i, 0, _, _, _, h, _ => by omega
  | 0, i, n + 1, n4, acc, hi, hn, ha => by
    unfold kpLoop
    have he := encs_length vs
    rw [loopF_succ, kp_step, cond_f (decide_eq_false (by omega)), getO_eq (by omega), getV_encs vs h64, pbytes_bC]
    simp only [Option.bind_some]
    rw [rputO_eq (by omega) (fun v hv => by have := hs v hv; omega)]
    simp only [beq_self_eq_true, Option.isSome_some, Bool.and_self, cond_true, Option.getD_some]
    rw [sameO_eq (by simp; omega), ha, List.take_of_length_le (by omega), decide_eq_true rfl]
  | k + 1, i, n + 1, n4, acc, hi, hn, ha => by
    unfold kpLoop
    have hc := List.getElem?_eq_getElem (l := vs) (i := i) (by omega)
    have hsv := hs vs[i] (List.getElem_mem _)
    have hal : acc.length = i := by rw [ha, List.length_map, List.length_take]; omega
    have ih := kp_loop fu n0 vs h64 hl hs k (i + 1) n (n4.map (· && false)) (acc ++ [Go.Proofs.YtclhnfalebiieaaDoor.plain vs[i]]) (by omega) (by omega) (by rw [ha, List.take_add_one, hc, List.map_append]; rfl)
    unfold kpLoop at ih
    rw [List.length_append] at ih
    rw [loopF_succ, kp_step, cond_t (decide_eq_true (by omega)), ixV_eq hc, plainO, cond_t (decide_eq_true (by omega)), roomV_eq (by omega), wrapI_of (by omega) (by omega), plainA_cs, valsC_snoc]
    exact ih
theorem keysPutsLaw (W : World) (A : Option Addr) (n c : Nat) (l : List Val) (hs : Sl W 4 A n c (vcs l)) (h0 : A = none → c = 0) (h64 : ∀ x ∈ l, x.in64) (hT : Tabs W) :
    Calls Tryd.prog 3 #[.slice A n c] W fun e W' => e = .returned (.bool true) ∧ Below W.heap.size W W' := by
  obtain ⟨B, hB⟩ := sl_rel hs h0 (fun M => rel_vals M l)
  obtain rfl := sl_len4 hs
  refine law_run (vs := [.slice A l.length c]) (xs := [.sl none 4 l.length (valsC l)]) (U := fun _ => B) (fuel := l.length + 1) (h := hKp) wokk ok_lKp Tryd.func3 hT (tabs_size hT) ⟨_, _, rfl, hB _ (fun _ => Nat.le_refl _), rfl⟩ ?_
  refine (kp_raw _ none _ _).trans ?_
  rw [longO_eq]
  rcases hlo : longB l with _ | _
  · obtain ⟨h1, h2⟩ := longB_not' hlo
    rw [cond_false, putO_eq (by omega)]
    exact kp_loop _ none l h64 h1 h2 l.length 0 _ (some true) [] (by omega) (by omega) rfl
  · rfl
end Go.Proofs.YtclhnfalebiieaaDoor
