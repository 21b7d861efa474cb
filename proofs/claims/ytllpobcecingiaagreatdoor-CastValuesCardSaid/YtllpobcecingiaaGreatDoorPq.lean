/-
  Each operation, part 8: built-in functions, calls; and all operations together.
-/
import Derived.Test.YtllpobcecingiaaGreatDoorPm
set_option linter.unusedVariables false
set_option linter.unusedSimpArgs false
namespace Go.Proofs.YtllpobcecingiaaGreatDoor
open Go.RowKit

/-! ## what may be called -/
def CallTo (P : Program) (f : FuncId) (vs : Array Value) (w : World) (R : Value → World → Prop) : Prop :=
  (∃ v w', (callFunc f vs).run P w = .ok (.value v) w' ∧ R v w') ∨ ((callFunc f vs).run P w = .ok (.enter f vs) w ∧ Calls P f vs w fun e w' => ∃ v, e = .returned v ∧ R v w')
structure FnOK (en : Env) (NG : Nat) (W : World → Prop) (f : FuncId) (fn : PFn) : Prop where
  nat : fn.nat
  call : ∀ (M : Mem) (xs : List PV) (vs : List Value) (r : PV), W M.w → NG ≤ M.w.heap.size → GOK en M → RelT M xs vs → fn.F xs (R := PV) some = some r →
    CallTo en.P f vs.toArray M.w fun v w' => ∃ U', Move M ⟨w', U'⟩ none ∧ RelD ⟨w', U'⟩ r v ∧ (fn.own = true → ∃ nl sz n cells, r = .sl nl sz n cells ∧ (Free v ∨ ∃ g, M.w.heap.size ≤ g ∧ OwnAt ⟨w', U'⟩ g sz v))
structure EnvOK (en : Env) (NG : Nat) (W : World → Prop) : Prop where
  fns : ∀ f fn, en.E f = some fn → FnOK en NG W f fn
  mixed : en.P.follows .mixedOrders = true
  world : ∀ w w', (∀ b, b < NG → w'.heap[b]? = w.heap[b]?) → W w → W w'

section
variable {en : Env} {NG : Nat} {W : World → Prop} {st : St} {o : Oper}

theorem args_ok {M0 : Mem} {a : Act} {M : Mem} {β κ : Nat → Option Nat} (hI : Inv NG M0 st a M β κ) (hG : GOK en M0) : ∀ (l : List Operand) (ts : List TypeId), (argTVs en st l ts).length = l.length ∧
    ∀ (k : Nat) (x : TV), (argTVs en st l ts)[k]? = some x → ∃ y, l[k]? = some y ∧ RelS M β x.1 (a.eval y) ∧ TagOK M κ x.1 x.2 (a.eval y)
  | [], ts => ⟨rfl, fun k x h => by simp [argTVs] at h⟩
  | y :: l, ts => by
    obtain ⟨h1, h2⟩ := args_ok hI hG l ts.tail
    refine ⟨by simp [argTVs, h1], fun k x h => ?_⟩
    cases k with
    | zero => simp [argTVs] at h; subst h; exact ⟨y, rfl, hI.ev hG _ y⟩
    | succ k => exact h2 k x (by simpa [argTVs] using h)
theorem args_rel {M0 : Mem} {a : Act} {M : Mem} {β κ : Nat → Option Nat} (hI : Inv NG M0 st a M β κ) (hG : GOK en M0) : ∀ (l : List Operand) (ts : List TypeId), allData (argTVs en st l ts) = true → RelT M ((argTVs en st l ts).map (·.1)) (l.map a.eval)
  | [], _, _ => rfl
  | y :: l, ts, h => by
    simp only [argTVs, allData, List.all_cons, Bool.and_eq_true] at h
    exact ⟨_, _, rfl, (hI.ev hG _ y).1.data h.1, args_rel hI hG l ts.tail (by simpa [allData] using h.2)⟩

theorem resolve_builtin {P : Program} {ρ : Operand → Value} {c : Call} {t : TypeId} {b : Builtin} (hc : c.callee = .builtin b) : ∃ cs, ∀ w, (do let d ← resolve ρ c t; invoke d.target d.args : Sem Next).run P w = (builtin b c.argTypes t cs (c.args.map ρ)).run P w :=
  ⟨_, fun w => by simp only [resolve, hc, Sem.run_bind, Sem.run_pure, Result.andThen_ok, invoke]; rfl⟩
theorem resolve_func {P : Program} {ρ : Operand → Value} {c : Call} {t : TypeId} {x : Operand} {f : FuncId} (hc : c.callee = .value x) (hx : ρ x = .func (.func f) #[] #[]) (w : World) : (do let d ← resolve ρ c t; invoke d.target d.args : Sem Next).run P w = (callFunc f (c.args.map ρ)).run P w := by
  simp [resolve, hc, invoke, Deferred.ofValue, hx]

theorem list2 {α β : Type} {l : List α} {f : List α → List β} (hl : (f l).length = l.length) {x y : β} (h : f l = [x, y]) : ∃ a b, l = [a, b] := by
  rw [h] at hl
  match l, hl with
  | [a, b], _ => exact ⟨a, b, rfl⟩
theorem list1 {α β : Type} {l : List α} {f : List α → List β} (hl : (f l).length = l.length) {x : β} (h : f l = [x]) : ∃ a, l = [a] := by
  rw [h] at hl
  match l, hl with
  | [a], _ => exact ⟨a, rfl⟩
theorem args_len (l : List Operand) : ∀ ts, (argTVs en st l ts).length = l.length := by
  induction l with
  | nil => intro ts; rfl
  | cons y l ih => intro ts; simp [argTVs, ih]

theorem arr_toList {α : Type} {a : Array α} {l : List α} (h : a.toList = l) : a = l.toArray := by rw [← h]

theorem sim_builtin {c : Call} (hT : ∀ t, c.argTypes[0]? = some t → TypesOK en.P t) (ho : o.op = .call c) {b : Builtin} (hc : c.callee = .builtin b) {act : PAct} (h : presolve en st o some = some act) : Sim en NG W st o act := by
  simp only [presolve, ho, hc] at h
  unfold pbuiltin at h
  split at h
  · rename_i x hxs
    obtain ⟨y, hy⟩ := list1 (f := fun l => argTVs en st l c.argTypes.toList) (args_len _ _) hxs
    have hargs := arr_toList hy
    have key : ∀ {M0 : Mem} {a : Act} {M : Mem} {β κ : Nat → Option Nat}, Inv NG M0 st a M β κ → GOK en M0 → RelS M β x.1 (a.eval y) := by
      intro M0 a M β κ hI hG
      rw [hy] at hxs
      simp only [argTVs, List.cons.injEq, and_true] at hxs
      rw [← hxs]
      exact (hI.ev hG _ y).1
    have hrun : ∀ {a : Act} {M : Mem}, ∃ cs, (execOp a.eval o).run en.P M.w = ((builtin .len c.argTypes o.type cs (c.args.map a.eval)).run en.P M.w) := by
      intro a M
      obtain ⟨cs, h⟩ := resolve_builtin (P := en.P) (ρ := a.eval) (t := o.type) hc
      exact ⟨cs, by rw [← h M.w]; simp only [execOp, ho]⟩
    split at h
    · rename_i s ht hx
      injection h with h
      subst h
      refine sim_same fun M0 a M β κ hI hG _ => ?_
      have hx' := key hI hG
      rw [hx] at hx'
      have hx' := rel_str hx'
      obtain ⟨t, ht1, ht2⟩ := bind_some_inv ht
      obtain ⟨cs', hrun⟩ := hrun (a := a) (M := M)
      refine ⟨_, ?_, rfl, .inl rfl⟩
      rw [hrun, hargs]
      have hsz : (⟨s.toArray⟩ : ByteArray).size = s.length := by simp [ByteArray.size]
      simp [builtin, Builtin.len_, ht1, run_und ht2, hx', goInt, hsz]
    · rename_i e nl sz n cells ht hx
      injection h with h
      subst h
      refine sim_same fun M0 a M β κ hI hG _ => ?_
      have hx' : RelD M (.sl nl sz n cells) (a.eval y) := by have := key hI hG; rw [hx] at this; exact this
      simp only [RelD] at hx'
      obtain ⟨A, cc, vs, he, _⟩ := hx'
      obtain ⟨t, ht1, ht2⟩ := bind_some_inv ht
      obtain ⟨cs', hrun⟩ := hrun (a := a) (M := M)
      refine ⟨_, ?_, rfl, .inl rfl⟩
      rw [hrun, hargs]
      simp [builtin, Builtin.len_, ht1, run_und ht2, he, goInt]
    · rename_i _ _ n e ht
      injection h with h
      subst h
      refine sim_same fun M0 a M β κ hI hG _ => ?_
      obtain ⟨t, ht1, ht2⟩ := bind_some_inv ht
      obtain ⟨cs', hrun⟩ := hrun (a := a) (M := M)
      refine ⟨_, ?_, rfl, .inl rfl⟩
      rw [hrun, hargs]
      simp [builtin, Builtin.len_, ht1, run_und ht2, goInt]
    · cases h
  · rename_i x y hxs
    obtain ⟨u, v, huv⟩ := list2 (f := fun l => argTVs en st l c.argTypes.toList) (args_len _ _) hxs
    have hargs := arr_toList huv
    split at h
    · rename_i k a' k' b' hx hy
      injection h with h
      subst h
      refine sim_same fun M0 a M β κ hI hG _ => ?_
      rw [huv] at hxs
      simp only [argTVs, List.cons.injEq, and_true] at hxs
      have h1 := (hI.ev hG (c.argTypes.toList.headD 0) u).1
      have h2 := (hI.ev hG (c.argTypes.toList.tail.headD 0) v).1
      rw [hxs.1, hx] at h1
      rw [hxs.2, hy] at h2
      have h1 := rel_int h1
      have h2 := rel_int h2
      obtain ⟨cs', hrun⟩ := resolve_builtin (P := en.P) (ρ := a.eval) (t := o.type) hc
      refine ⟨_, ?_, rfl, .inl rfl⟩
      simp only [execOp, ho]
      rw [hrun M.w, hargs]
      simp [builtin, Builtin.max_, Builtin.max2, h1, h2]
    · cases h
  · rename_i x y hxs
    obtain ⟨u, v, huv⟩ := list2 (f := fun l => argTVs en st l c.argTypes.toList) (args_len _ _) hxs
    have hargs := arr_toList huv
    split at h
    · rename_i k a' k' b' hx hy
      injection h with h
      subst h
      refine sim_same fun M0 a M β κ hI hG _ => ?_
      rw [huv] at hxs
      simp only [argTVs, List.cons.injEq, and_true] at hxs
      have h1 := (hI.ev hG (c.argTypes.toList.headD 0) u).1
      have h2 := (hI.ev hG (c.argTypes.toList.tail.headD 0) v).1
      rw [hxs.1, hx] at h1
      rw [hxs.2, hy] at h2
      have h1 := rel_int h1
      have h2 := rel_int h2
      obtain ⟨cs', hrun⟩ := resolve_builtin (P := en.P) (ρ := a.eval) (t := o.type) hc
      refine ⟨_, ?_, rfl, .inl rfl⟩
      simp only [execOp, ho]
      rw [hrun M.w, hargs]
      simp [builtin, Builtin.min_, Builtin.min2, h1, h2]
    · cases h
  · rename_i s x hxs
    obtain ⟨u, v, huv⟩ := list2 (f := fun l => argTVs en st l c.argTypes.toList) (args_len _ _) hxs
    have hargs := arr_toList huv
    split at h
    · rename_i e nl sz n cells ht hs
      obtain ⟨hcond, h⟩ := ite_inv h
      simp only [Bool.and_eq_true, beq_iff_eq, decide_eq_true_eq] at hcond
      obtain ⟨⟨⟨hsz, hpos⟩, htag⟩, hzero⟩ := hcond
      split at h
      · rename_i e' nl' sz' m cells' ht' hx
        obtain ⟨hsz', h⟩ := ite_inv h
        subst hsz'
        obtain ⟨hb, h⟩ := bif_inv h
        simp only [Bool.and_eq_true, decide_eq_true_eq] at hb
        injection h with h
        subst h
        obtain ⟨t, ht1, ht2⟩ := bind_some_inv ht
        have ht2 := elemT_spec ht2
        obtain ⟨t', ht1', ht2'⟩ := bind_some_inv ht'
        refine sim_own fun M0 a M β κ hI hG _ => ?_
        rw [huv] at hxs
        simp only [argTVs, List.cons.injEq, and_true] at hxs
        have h1 := (hI.ev hG (c.argTypes.toList.headD 0) u)
        have h2 := (hI.ev hG (c.argTypes.toList.tail.headD 0) v).1
        rw [hxs.1, hs] at h1
        rw [hxs.2, hx] at h2
        obtain ⟨r, M', ex, g1, g2, g3, g4, g5⟩ := append_ok (hT t ht1) (κ := κ) (ty := o.type) ht2 ht2' hsz hpos hzero hb.1 hb.2 h1.1 h2 htag h1.2 (fun _ _ _ => trivial)
        obtain ⟨cs', hrun⟩ := resolve_builtin (P := en.P) (ρ := a.eval) (t := o.type) hc
        refine ⟨r, M', ex, ?_, g2, g3, g4, g5⟩
        simp only [execOp, ho]
        rw [hrun M.w, hargs]
        have e2 : Builtin.append_ c.argTypes o.type #[a.eval u, a.eval v] = Builtin.append_ #[t, t'] o.type #[a.eval u, a.eval v] := by
          unfold Builtin.append_
          simp only [ht1, ht1']
          rfl
        simp only [builtin, List.map_toArray, List.map_cons, List.map_nil, Sem.run_bind, e2, g1, Result.andThen_ok, Sem.run_pure]
      · cases h
    · cases h
  · cases h

theorem Inv.world {M0 : Mem} {a : Act} {M : Mem} {β κ : Nat → Option Nat} (hI : Inv NG M0 st a M β κ) (hE : EnvOK en NG W) (hW : W M0.w) : W M.w :=
  hE.world _ _ (fun b hb => hI.below.block b (Nat.lt_of_lt_of_le hb hI.ng)) hW

theorem sim_call (hE : EnvOK en NG W) {c : Call} (ho : o.op = .call c) {x : Operand} (hc : c.callee = .value x) {act : PAct} (h : presolve en st o some = some act) : Sim en NG W st o act := by
  simp only [presolve, ho, hc] at h
  split at h
  · rename_i fid hx
    split at h
    · rename_i fn hfn
      obtain ⟨hd, h⟩ := ite_inv h
      have hF := hE.fns fid fn hfn
      rw [hF.nat] at h
      obtain ⟨r, hr, h⟩ := bind_some_inv h
      intro M0 a M β κ hI hG hW st' hst next Q hn
      have hx' := (hI.ev hG 0 x).1
      rw [hx] at hx'
      obtain ⟨vs, he, hvs⟩ := hx'
      simp only [RelCs] at hvs
      subst hvs
      have hargs := args_rel hI hG c.args.toList c.argTypes.toList hd
      have hcall := hF.call M _ _ r (hI.world hE hW) (Nat.le_trans hI.ng hI.below.size) (hG.mono hI.le0) hargs hr
      have hva : (c.args.toList.map a.eval).toArray = c.args.map a.eval := by apply Array.ext'; simp
      rw [hva] at hcall
      have hrun : (execOp a.eval o).run en.P M.w = (callFunc fid (c.args.map a.eval)).run en.P M.w := by
        rw [← resolve_func (t := o.type) hc he M.w]
        simp only [execOp, ho]
      have fin : ∀ v w', (∃ U', Move M ⟨w', U'⟩ none ∧ RelD ⟨w', U'⟩ r v ∧ (fn.own = true → ∃ nl sz n cells, r = .sl nl sz n cells ∧ (Free v ∨ ∃ g, M.w.heap.size ≤ g ∧ OwnAt ⟨w', U'⟩ g sz v))) → next (a.put o.dst v) w' := by
        intro v w' ⟨U', g1, g2, g3⟩
        split at h
        · rename_i hown
          obtain ⟨nl, sz, n, cells, rfl, g6⟩ := g3 hown
          injection h with h
          subst h
          simp only [papply] at hst
          split at hst
          · rename_i d hdst
            injection hst with hst
            subst hst
            obtain ⟨κ', hI'⟩ := hI.owned (M' := ⟨w', U'⟩) (c := 0) (d := d) (ex := none) (.inl rfl) g1 g2 (by
              rcases g6 with g6 | ⟨g, g4, g5⟩
              · exact .inl g6
              · exact .inr ⟨g, g5, .inl g4⟩)
            rw [← hdst] at hI'
            exact hn _ ⟨w', U'⟩ β κ' hI'
          · cases hst
        · injection h with h
          subst h
          simp only [papply, actVal, Option.map_some, Option.some.injEq] at hst
          subst hst
          exact hn _ ⟨w', U'⟩ β κ ((hI.grow g1).put o.dst (RelS.of_data g2) (.inl rfl))
      unfold Oper.wp
      rw [hrun]
      rcases hcall with ⟨v, w', h1, h2⟩ | ⟨h1, h2⟩
      · rw [h1]
        exact fin v w' h2
      · rw [h1]
        refine h2.mono ?_
        rintro e w' ⟨v, rfl, h3⟩
        exact fin v w' h3
    · cases h
  · cases h

theorem sim_op (hE : EnvOK en NG W) (hok : opOK en.P o = true) {act : PAct} (h : presolve en st o some = some act) : Sim en NG W st o act := by
  unfold opOK at hok
  cases ho : o.op with
  | move x => exact sim_move ho h
  | assign x => exact sim_assign ho h
  | pick c x y => exact sim_pick ho h
  | alloc t => exact sim_alloc ho h
  | box t x => exact sim_box ho h
  | build t ps => rw [ho] at hok; exact sim_build ⟨hok⟩ ho h
  | buildSlice t n ps => rw [ho] at hok; exact sim_buildSlice ⟨hok⟩ ho h
  | load t x =>
    rw [ho] at hok
    simp only [Bool.and_eq_true, Bool.or_eq_true, beq_iff_eq] at hok
    have hT : TypesOK en.P t := ⟨hok.1⟩
    obtain ⟨d, hd⟩ := hT.un
    exact sim_load hT ho (und_isSome hd) (fun hn => hok.2.resolve_left (by simp [hn])) h
  | store t x y =>
    rw [ho] at hok
    have hT : TypesOK en.P t := ⟨hok⟩
    obtain ⟨d, hd⟩ := hT.un
    exact sim_store hT ho (und_isSome hd) h
  | nilCheck x => exact sim_nilCheck ho h
  | binOp op t x y yt => exact sim_binOp ho h
  | unOp op t x => exact sim_unOp ho h
  | convert s d x => exact sim_convert ho h
  | makeInterface t x =>
    rw [ho] at hok
    have hT : TypesOK en.P t := ⟨hok⟩
    obtain ⟨d, hd⟩ := hT.un
    exact sim_makeInterface hT ho (und_isSome hd) h
  | makeSlice t l c => rw [ho] at hok; exact sim_makeSlice ⟨hok⟩ ho h
  | slice t x lo hi mx => rw [ho] at hok; exact sim_slice ho (fun e he => (TypesOK.mk hok).sl e he) h
  | fieldAddr t x f => rw [ho] at hok; exact sim_fieldAddr ⟨hok⟩ ho h
  | field t x f => rw [ho] at hok; exact sim_field ⟨hok⟩ ho h
  | indexAddr t x y => rw [ho] at hok; exact sim_indexAddr ⟨hok⟩ ho h
  | index t x y => rw [ho] at hok; exact sim_index ⟨hok⟩ ho h
  | extract x i => exact sim_extract ho h
  | call c =>
    rw [ho] at hok
    cases hc : c.callee with
    | value x => exact sim_call hE ho hc h
    | builtin b => exact sim_builtin (fun t ht => ⟨by simp only [ht] at hok; exact hok⟩) ho hc h
    | invoke r m => simp [presolve, ho, hc] at h
  | _ => simp [presolve, ho] at h
end

end Go.Proofs.YtllpobcecingiaaGreatDoor
