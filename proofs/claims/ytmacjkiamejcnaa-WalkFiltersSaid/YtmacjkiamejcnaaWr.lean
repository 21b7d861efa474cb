/-
  Arguments that come in: slices of numbers, of texts, of a script's acts; a law's run in any environment.
-/
import Derived.Test.YtmacjkiamejcnaaUq
import Derived.ChangeArms
import Derived.Deep.Slices
set_option linter.unusedVariables false
set_option linter.unusedSimpArgs false
set_option maxRecDepth 100000
namespace Go.Proofs.Ytmacjkiamejcnaa
open Go.ChangeShapes Go.WideShapes Go.ChangeAt Go.RowKit Go.Deep

/-- cells that hold what is written, once the used room is large enough -/
def RelU (w : World) (ps : List PV) (cs : List Value) : Prop := ∃ B : Nat, ∀ U : Nat → Nat, (∀ b, B ≤ U b) → RelL (memU w U) ps cs
theorem RelU.of {w : World} {ps : List PV} {cs : List Value} (h : ∀ M, RelL M ps cs) : RelU w ps cs := ⟨0, fun U _ => h _⟩
theorem RelU.append {w : World} {ps qs : List PV} {cs ds : List Value} (h : RelU w ps cs) (k : RelU w qs ds) : RelU w (ps ++ qs) (cs ++ ds) := by
  obtain ⟨A, h⟩ := h
  obtain ⟨B, k⟩ := k
  exact ⟨max A B, fun U hU => (h U fun b => Nat.le_trans (Nat.le_max_left _ _) (hU b)).append (k U fun b => Nat.le_trans (Nat.le_max_right _ _) (hU b))⟩
theorem rows_rel {w : World} {base size : Nat} {a : Addr} {α : Type} {f : α → List PV} {Pa : α → Prop} : ∀ (k i : Nat), (∀ j, i ≤ j → j < i + k → ∃ cs', w.cells? base (a.add (j * size)) size = some cs' ∧ ∃ x, Pa x ∧ RelU w (f x) cs') →
    ∃ (l : List α) (vs : List Value), l.length = k ∧ (∀ x ∈ l, Pa x) ∧ vs.length = k * size ∧ RelU w (l.flatMap f) vs ∧ ∀ j u, vs[j]? = some u → w.cell? (a.add (i * size + j)) = some u
  | 0, i, _ => ⟨[], [], rfl, by simp, by simp, .of fun _ => rfl, by simp⟩
  | k + 1, i, h => by
    obtain ⟨cs, h1, x, px, hx⟩ := h i (Nat.le_refl _) (by omega)
    obtain ⟨l, vs, e1, e2, e3, e4, e5⟩ := rows_rel k (i + 1) (fun j h1 h2 => h j (by omega) (by omega))
    obtain ⟨_, hl, hg⟩ := World.cells?_some h1
    refine ⟨x :: l, cs ++ vs, by simp [e1], ?_, by rw [List.length_append, hl, e3, Nat.add_mul]; omega, ?_, fun j u hu => ?_⟩
    · intro y hy
      rcases List.mem_cons.1 hy with rfl | hy
      · exact px
      · exact e2 y hy
    · rw [List.flatMap_cons]
      exact hx.append e4
    · by_cases hj : j < size
      · rw [List.getElem?_append_left (by omega)] at hu
        have := hg j hj
        rw [hu, add_add] at this
        exact this
      · rw [List.getElem?_append_right (by omega), hl] at hu
        have := e5 _ u hu
        rw [Nat.add_mul, show i * size + 1 * size + (j - size) = i * size + j by omega] at this
        exact this
/-- a slice, its elements opened -/
theorem open_slR {H : Type} {enc : TypeId × Value → H} {P : Program} {w : World} {base : Nat} {sp : Nat → Bool} {held : Bool} {t e : TypeId} {fuel : Nat} {cs : List Value} {x : DataW H × List MemPlace} {α : Type} {f : α → List PV} {Pa : α → Prop} {size : Nat}
    (hs0 : 0 < size) (ht : P.underlying t = some (.slice e)) (hsz : P.cellsOf e = size) (hf : ∀ x, (f x).length = size)
    (he : ∀ n cs' y, n < fuel → DataW.trod enc P w base sp held n e cs' = some y → ∃ x, Pa x ∧ RelU w (f x) cs') (h : DataW.trod enc P w base sp held fuel t cs = some x) :
    ∃ A c, ∃ l : List α, cs = [.slice A l.length c] ∧ (∀ x ∈ l, Pa x) ∧ ∃ B : Nat, ∀ U : Nat → Nat, (∀ b, B ≤ U b) → RelD (memU w U) (.sl none size l.length (l.flatMap f)) (.slice A l.length c) := by
  have flen : ∀ l : List α, (l.flatMap f).length = l.length * size := by
    intro l
    induction l with
    | nil => simp
    | cons y l ih => rw [List.flatMap_cons, List.length_append, hf, ih, List.length_cons, Nat.add_mul]; omega
  rcases DataW.trod_slice ht h with ⟨rfl, _⟩ | ⟨a, len, cap, elems, rest, n, rfl, rfl, rfl, hb, hlc, hcm, hel0, hel, _⟩
  · refine ⟨none, 0, [], rfl, by simp, 0, fun U _ => ?_⟩
    simp only [RelD]
    exact ⟨none, 0, [], rfl, Nat.le_refl _, Nat.zero_le _, fun b hb => (by cases hb), fun _ => rfl, by simp, rfl, Or.inl rfl⟩
  · rw [hsz] at hel
    obtain ⟨l, vs, e1, e2, e3, ⟨B, e4⟩, e5⟩ := rows_rel (w := w) (base := base) (size := size) (a := a) (f := f) (Pa := Pa) len 0 (fun j _ hj => by
      have := hel j (by omega)
      rw [List.getElem?_eq_getElem (by omega)] at this
      obtain ⟨cs', h1, h2⟩ := Option.bind_eq_some_iff.1 this
      obtain ⟨x, px, hx⟩ := he n cs' _ (by omega) h2
      exact ⟨cs', h1, x, px, hx⟩)
    subst e1
    obtain ⟨b, off, spot⟩ := a
    refine ⟨_, cap, l, rfl, e2, max B (off + l.length * size), fun U hU => ?_⟩
    simp only [RelD]
    refine ⟨_, cap, vs, rfl, hlc, hcm, fun b hb => (by cases hb), fun h => (by cases h), flen l, e4 U fun b => Nat.le_trans (Nat.le_max_left _ _) (hU b), ?_⟩
    by_cases h0 : vs = []
    · exact Or.inl h0
    · have hp : 0 < vs.length := List.length_pos_iff.2 h0
      have h00 := e5 0 vs[0] (List.getElem?_eq_getElem hp)
      have hspot : spot = none := by
        have := World.cell?_spot (v := vs[0]) h00
        simpa [Addr.add] using this
      subst hspot
      refine Or.inr ⟨b, off, rfl, fun j u hu => ?_⟩
      have hj := (List.getElem?_eq_some_iff.1 hu).1
      have := e5 j u hu
      rw [Nat.zero_mul, Nat.zero_add, add_plain] at this
      refine ⟨this, ?_⟩
      have := hU b
      have := Nat.le_max_right B (off + l.length * size)
      show off + j < U b
      omega
/-- an argument that comes in -/
def ArgU (w : World) (p : PV) (v : Value) : Prop := ∃ B : Nat, ∀ U : Nat → Nat, (∀ b, B ≤ U b) → RelD (memU w U) p v
def ArgsU (w : World) (ps : List PV) (vs : List Value) : Prop := ∃ B : Nat, ∀ U : Nat → Nat, (∀ b, B ≤ U b) → RelT (memU w U) ps vs
theorem ArgsU.nil {w : World} : ArgsU w [] [] := ⟨0, fun _ _ => rfl⟩
theorem ArgsU.cons {w : World} {p : PV} {v : Value} {ps : List PV} {vs : List Value} (h : ArgU w p v) (k : ArgsU w ps vs) : ArgsU w (p :: ps) (v :: vs) := by
  obtain ⟨A, h⟩ := h
  obtain ⟨B, k⟩ := k
  exact ⟨max A B, fun U hU => ⟨_, _, rfl, h U fun b => Nat.le_trans (Nat.le_max_left _ _) (hU b), k U fun b => Nat.le_trans (Nat.le_max_right _ _) (hU b)⟩⟩
/-- a run that yields true: the call returns true and leaves all that was there -/
theorem law_runE {en : Env} (hE : EnvOK en NGt Wt) (hy : en.Y = none) (hG : ∀ g, en.G g = none) {f : FuncId} {fn : Func} (hf : en.P.funcs[f]? = some fn) {h : Hints} {fuel : Nat} {w : World} {xs : List PV} {vs : List Value}
    (hr : ArgsU w xs vs) (hrun : prun en h fuel false fn xs = some (.bool true)) : Calls en.P f vs.toArray w fun e w' => e = .returned (.bool true) ∧ Below w.heap.size w w' := by
  obtain ⟨B, hB⟩ := hr
  refine (run_ok hE hy hf (M := memU w fun _ => B) trivial (Nat.zero_le _) (fun g cs hg => by rw [hG g] at hg; cases hg) (hB _ fun _ => Nat.le_refl _) hrun).mono ?_
  rintro e w' ⟨v, rfl, U', hm, hv, _⟩
  simp only [RelD] at hv
  subst hv
  exact ⟨rfl, hm.os, hm.tape, hm.output, hm.size, fun b hb => (hm.block b hb (by simp [memU])).1⟩
theorem flat_one {α : Type} (f : α → PV) (l : List α) : (l.flatMap fun x => [f x]) = l.map f := by
  induction l with
  | nil => rfl
  | cons x l ih => rw [List.flatMap_cons, List.map_cons, ih]; rfl
/-- a slice of numbers -/
theorem open_zs {H : Type} {enc : TypeId × Value → H} {P : Program} {W W0 : World} {r : Reach} {b0 base : Nat} {sp : Nat → Bool} {held : Bool} {t e : TypeId} {k : IntKind} {v : Value} {d : DataW H} {ps : List MemPlace}
    (ht : P.underlying t = some (.slice e)) (he : P.underlying e = some (.int k)) (hc : P.cellsOf e = 1) (hval : Value.okWide P W0 r b0 t v) (hd : DataW.Trod enc P W base sp held t v d ps) :
    ∃ l : List Int, (∀ z ∈ l, (Lit.int k z).wf = true) ∧ ArgU W (.sl none 1 l.length (l.map (PV.int k))) v := by
  obtain ⟨A, n, c, rfl⟩ := okWide_slice ht hval
  obtain ⟨fuel, hf⟩ := hd
  obtain ⟨A', c', l, e, wl, B, hB⟩ := open_slR (f := fun z => [PV.int k z]) (Pa := fun z => (Lit.int k z).wf = true) (size := 1) (by omega) ht hc (fun _ => rfl) (fun n cs' y hn h => by
    obtain ⟨z, rfl, _, hz⟩ := DataW.trod_int he h
    exact ⟨z, hz, .of fun M => ⟨_, _, rfl, rfl, rfl, rfl⟩⟩) hf
  simp [Value.cells] at e
  obtain ⟨rfl, rfl, rfl⟩ := e
  rw [flat_one] at hB
  exact ⟨l, wl, B, hB⟩
/-- a slice of texts -/
theorem open_strs {H : Type} {enc : TypeId × Value → H} {P : Program} {W W0 : World} {r : Reach} {b0 base : Nat} {sp : Nat → Bool} {held : Bool} {t e : TypeId} {v : Value} {d : DataW H} {ps : List MemPlace}
    (ht : P.underlying t = some (.slice e)) (he : P.underlying e = some .string) (hc : P.cellsOf e = 1) (hval : Value.okWide P W0 r b0 t v) (hd : DataW.Trod enc P W base sp held t v d ps) :
    ∃ l : List (List UInt8), ArgU W (.sl none 1 l.length (l.map PV.str)) v := by
  obtain ⟨A, n, c, rfl⟩ := okWide_slice ht hval
  obtain ⟨fuel, hf⟩ := hd
  obtain ⟨A', c', l, e, wl, B, hB⟩ := open_slR (f := fun z => [PV.str z]) (Pa := fun _ => True) (size := 1) (by omega) ht hc (fun _ => rfl) (fun n cs' y hn h => by
    obtain ⟨z, rfl, _, hz⟩ := DataW.trod_string he h
    exact ⟨z.data.toList, trivial, .of fun M => ⟨_, _, rfl, rfl, by simp [RelD], rfl⟩⟩) hf
  simp [Value.cells] at e
  obtain ⟨rfl, rfl, rfl⟩ := e
  rw [flat_one] at hB
  exact ⟨l, B, hB⟩
theorem open_intU {H : Type} {enc : TypeId × Value → H} {P : Program} {W W0 : World} {r : Reach} {b0 base : Nat} {sp : Nat → Bool} {held : Bool} {t : TypeId} {k : IntKind} {v : Value} {d : DataW H} {ps : List MemPlace}
    (ht : P.underlying t = some (.int k)) (hval : Value.okWide P W0 r b0 t v) (hd : DataW.Trod enc P W base sp held t v d ps) : ∃ z : Int, (Lit.int k z).wf = true ∧ ArgU W (.int k z) v := by
  obtain ⟨z, rfl⟩ := okWide_int ht hval
  obtain ⟨fuel, hf⟩ := hd
  obtain ⟨z', h, _, hw⟩ := DataW.trod_int ht hf
  simp [Value.cells] at h
  subst h
  exact ⟨z, hw, 0, fun U _ => rfl⟩
theorem open_strU {H : Type} {enc : TypeId × Value → H} {P : Program} {W W0 : World} {r : Reach} {b0 base : Nat} {sp : Nat → Bool} {held : Bool} {t : TypeId} {v : Value} {d : DataW H} {ps : List MemPlace}
    (ht : P.underlying t = some .string) (hval : Value.okWide P W0 r b0 t v) (hd : DataW.Trod enc P W base sp held t v d ps) : ∃ s : List UInt8, ArgU W (.str s) v := by
  obtain ⟨s, rfl⟩ := okWide_string ht hval
  exact ⟨s.data.toList, 0, fun U _ => by simp [RelD]⟩
theorem bounds_u16 {z : Int} (h : (Lit.int .u16 z).wf = true) : 0 ≤ z ∧ z ≤ 65535 := by
  simp [Lit.wf, IntKind.min, IntKind.max, IntKind.signed, IntKind.bits] at h
  omega
theorem bytes_map : ∀ (l : List Int), (∀ z ∈ l, (Lit.int .u8 z).wf = true) → ∃ ks : List UInt8, ks.length = l.length ∧ ks.map bytePV = l.map (PV.int .u8)
  | [], _ => ⟨[], rfl, rfl⟩
  | z :: l, h => by
    obtain ⟨ks, h1, h2⟩ := bytes_map l fun y hy => h y (List.mem_cons_of_mem _ hy)
    have hz := bounds_u8' (h z List.mem_cons_self)
    refine ⟨UInt8.ofNat z.toNat :: ks, by simp [h1], ?_⟩
    rw [List.map_cons, List.map_cons, h2]
    congr 1
    show PV.int .u8 ((UInt8.ofNat z.toNat).toNat : Int) = PV.int .u8 z
    rw [show (((UInt8.ofNat z.toNat).toNat : Nat) : Int) = z by simp only [UInt8.toNat_ofNat']; omega]
end Go.Proofs.Ytmacjkiamejcnaa
