/-
  The seat's surroundings for the evaluator: its program, no global read by the texts themselves, and how a function joins the others.
-/
import Derived.Test.YtllpobcecingiaaGreatDoorPu
import Derived.Test.YtllpobcecingiaaGreatDoorProg
import Derived.Laws.Externs
set_option linter.unusedVariables false
set_option linter.unusedSimpArgs false
namespace Go.Proofs.YtllpobcecingiaaGreatDoor
open Go.RowKit

noncomputable def en (l : List (FuncId × PFn)) : Env := ⟨Tryz.prog, fun f => l.lookup f, fun _ => none⟩
def WOK (NG : Nat) (W : World → Prop) : Prop := ∀ w w', (∀ b, b < NG → w'.heap[b]? = w.heap[b]?) → W w → W w'
/-- the function f may be called as p says -/
def FOK (NG : Nat) (W : World → Prop) (f : FuncId) (p : PFn) : Prop := FnOK (en []) NG W f p
def AllOK (NG : Nat) (W : World → Prop) (l : List (FuncId × PFn)) : Prop := ∀ p ∈ l, FOK NG W p.1 p.2
theorem allOK_nil {NG : Nat} {W : World → Prop} : AllOK NG W [] := fun _ h => by cases h
theorem allOK_cons {NG : Nat} {W : World → Prop} {f : FuncId} {p : PFn} {l : List (FuncId × PFn)} (h : FOK NG W f p) (k : AllOK NG W l) : AllOK NG W ((f, p) :: l) := fun q hq => by
  rcases List.mem_cons.1 hq with rfl | hq
  · exact h
  · exact k q hq
theorem mixed : Tryz.prog.follows .mixedOrders = true := by kernel_rfl
theorem env_ok {NG : Nat} {W : World → Prop} (hW : WOK NG W) {l : List (FuncId × PFn)} (h : AllOK NG W l) : EnvOK (en l) NG W where
  fns := fun f fn hf => let k := h (f, fn) (lookup_mem hf); ⟨k.nat, k.call⟩
  mixed := mixed
  world := hW

/-- a function of the program -/
theorem fok {NG : Nat} {W : World → Prop} (hW : WOK NG W) {l : List (FuncId × PFn)} (hl : AllOK NG W l) {f : FuncId} {fn : Func} (hf : Tryz.prog.funcs[f]? = some fn) (hb : fn.body.isSome = true) (hname : fn.name ≠ "runtime.NumGoroutine") {p : PFn} (hn : p.nat) {h : Hints}
    (hrun : ∀ xs r, p.F xs (R := PV) some = some r → ∃ fuel, prun (en l) h fuel p.own fn xs = some r) : FOK NG W f p :=
  FnOK.of_run (en := en l) (en' := en []) (env_ok hW hl) rfl rfl hf hb hname hn hrun

/-- a function that stands in the model itself -/
theorem fok_ext {NG : Nat} {W : World → Prop} {f : FuncId} {p : PFn} (hn : p.nat) (ho : p.own = false)
    (hrun : ∀ (xs : List PV) (r : PV) (M : Mem) (vs : List Value), p.F xs (R := PV) some = some r → RelT M xs vs → ∃ v, (callFunc f vs.toArray).run Tryz.prog M.w = .ok (.value v) M.w ∧ RelD M r v) : FOK NG W f p where
  nat := hn
  call := by
    intro M xs vs r hW hng hg hr hF
    obtain ⟨v, h1, h2⟩ := hrun xs r M vs hF hr
    exact .inl ⟨v, M.w, h1, M.U, Move.refl M, h2, fun h => by rw [ho] at h; cases h⟩
/-- a function whose contract is known: it returns a value and leaves what was there -/
theorem fok_calls {NG : Nat} {W : World → Prop} {f : FuncId} {fn : Func} (hf : Tryz.prog.funcs[f]? = some fn) (hb : fn.body.isSome = true) (hname : fn.name ≠ "runtime.NumGoroutine") {p : PFn} (hn : p.nat) (ho : p.own = false)
    (hrun : ∀ (xs : List PV) (r : PV) (M : Mem) (vs : List Value), W M.w → p.F xs (R := PV) some = some r → RelT M xs vs → Calls Tryz.prog f vs.toArray M.w fun e w' => ∃ v, e = .returned v ∧ Below M.w.heap.size M.w w' ∧ ∀ U', Move M ⟨w', U'⟩ none → RelD ⟨w', U'⟩ r v) : FOK NG W f p where
  nat := hn
  call := by
    intro M xs vs r hW hng hg hr hF
    have hb' : ¬ fn.body = none := by intro e; rw [e] at hb; cases hb
    refine .inr ⟨?_, (hrun xs r M vs hW hF hr).mono ?_⟩
    · show (callFunc f vs.toArray).run Tryz.prog M.w = _
      simp [callFunc, hf]
      rw [if_neg hname, if_neg hb']
    · rintro e w' ⟨v, rfl, h1, h2⟩
      exact ⟨v, rfl, M.U, Move.world h1, h2 _ (Move.world h1), fun h => by rw [ho] at h; cases h⟩

theorem relT1 {M : Mem} {x : PV} {vs : List Value} (h : RelT M [x] vs) : ∃ v, vs = [v] ∧ RelD M x v := by
  simp only [RelT] at h
  obtain ⟨u, us, rfl, h1, rfl⟩ := h
  exact ⟨u, rfl, h1⟩
theorem relT2 {M : Mem} {x y : PV} {vs : List Value} (h : RelT M [x, y] vs) : ∃ v u, vs = [v, u] ∧ RelD M x v ∧ RelD M y u := by
  simp only [RelT] at h
  obtain ⟨u, us, rfl, h1, u2, us2, rfl, h2, rfl⟩ := h
  exact ⟨u, u2, rfl, h1, h2⟩
theorem relT3 {M : Mem} {x y z : PV} {vs : List Value} (h : RelT M [x, y, z] vs) : ∃ v u t, vs = [v, u, t] ∧ RelD M x v ∧ RelD M y u ∧ RelD M z t := by
  simp only [RelT] at h
  obtain ⟨u, us, rfl, h1, u2, us2, rfl, h2, u3, us3, rfl, h3, rfl⟩ := h
  exact ⟨u, u2, u3, rfl, h1, h2, h3⟩
theorem relT_ints2 {M : Mem} {k k' : IntKind} {a b : Int} {v : Value} (h : v = .tuple #[.int k a, .int k' b]) : RelD M (.tuple [.int k a, .int k' b]) v := by
  subst h
  simp only [RelD]
  exact ⟨[_, _], rfl, _, _, rfl, rfl, _, _, rfl, rfl, rfl⟩

/-! ## loops -/
theorem loop_ind {S : Type} {kp : Option Keep} {step : St → (St → Option PV) → Option PV} (fr : S → St) (F : Nat → S → Option PV) (h0 : ∀ s, F 0 s = none)
    (hs : ∀ (K : St → Option PV) (G : S → Option PV), (∀ s, K (fr s) = G s) → ∀ n s, (∀ s, F n s = G s) → step (fr s) (fun st' => pnorm kp st' K) = F (n + 1) s) : ∀ n s, ploop kp step n (fr s) = F n s
  | 0, s => by rw [h0]; rfl
  | n + 1, s => hs (ploop kp step n) (fun s => F n s) (fun s => loop_ind fr F h0 hs n s) n s (fun _ => rfl)

end Go.Proofs.YtllpobcecingiaaGreatDoor
