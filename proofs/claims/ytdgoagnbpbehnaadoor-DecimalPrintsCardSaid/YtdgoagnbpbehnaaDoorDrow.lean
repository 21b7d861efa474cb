/-
  From a law's walk ('it returns true and leaves all older blocks alone') to its row; the decimals' seat: its five variables.
-/
import Derived.Test.YtdgoagnbpbehnaaDoorDl
import Derived.Test.YtdgoagnbpbehnaaDoorCards
import Derived.Test.YtdgoagnbpbehnaaDoorTie
import Derived.ProofKit
import Derived.OpenShut
import Derived.Deep.DeepHandedRow
import Derived.Lib.LaidU8
set_option linter.unusedVariables false
set_option linter.unusedSimpArgs false
namespace Go.Proofs.YtdgoagnbpbehnaaDoor
open Go.ChangeShapes Go.WideShapes Go.ChangeAt Go.RowKit

theorem trodAll_below {H : Type} {enc : TypeId × Value → H} {P : Program} (hl : laidOutB P = true) {W W' : World} (hb : Below W.heap.size W W') : ∀ {ts : List TypeId} {vs : List Value} {ds : List (DataW H)} {ps : List MemPlace},
    (∀ t ∈ ts, P.readableRec t = true ∧ t < P.types.size) → DataW.TrodAll enc P W 0 (fun _ => true) true ts vs ds ps → (∀ x ∈ ps, x.block < W.heap.size) → DataW.TrodAll enc P W' 0 (fun b => decide (b < W.heap.size)) true ts vs ds ps
  | [], vs, ds, ps, _, h, _ => by
    cases vs <;> cases ds <;> simp_all [DataW.TrodAll]
  | t :: ts, vs, ds, ps, ht, h, hlt => by
    obtain ⟨v, vs', d, ds', p, q, rfl, rfl, rfl, h0, h1⟩ := trodAll_cons h
    exact trodAll_cons_mk (Below.trod hl (ht t (by simp)).1 (ht t (by simp)).2 h0 hb (fun x hx => hlt x (by simp [hx])))
      (trodAll_below hl hb (fun t' ht' => ht t' (by simp [ht'])) h1 (fun x hx => hlt x (by simp [hx])))

theorem law_post {H : Type} {enc : TypeId × Value → H} {P : Program} {f : Func} {s : ChangeSpec} {W W' : World} {args : Array Value} {ds gs : List (DataW H)} {before : List MemPlace} {tb : TypeId}
    (hl : laidOutB P = true) (ht : ∀ t ∈ f.params.toList, P.readableRec t = true ∧ t < P.types.size) (htb : P.underlying tb = some .bool) (hf : f.resultTypes = #[tb])
    (hW : DataW.Whole enc P f.params.toList s.vars false W args.toList ds gs before) (hv : s.vars = [])
    (hr : (s.fn H (ds ++ gs)).results = [.lit (.bool true)]) (ha : (s.fn H (ds ++ gs)).args = ds) (hvs : (s.fn H (ds ++ gs)).vars = []) (hb : Below W.heap.size W W') :
    s.post enc P f false true false false W args (.bool true) W' := by
  have hlt := hW.lt
  have hW2 := hW
  obtain ⟨p, q, hA, hV, rfl, _, _⟩ := hW
  rw [hv] at hV
  obtain ⟨rfl, rfl⟩ := trodVars_none hV
  refine ⟨ds, [], p ++ [], [], p, [], hW2, ?_, ?_, ?_, hb.frame _, fun h => by cases h⟩
  · rw [hr, hf]
    exact trodAll_cons_mk (shut_bool htb _) trodAll_mk0
  · rw [ha]
    exact trodAll_below hl hb ht hA (fun x hx => hlt x (by simp [hx]))
  · rw [hv, hvs]
    rfl

/-- a pair of numbers that comes in -/
theorem open_pair {H : Type} {enc : TypeId × Value → H} {P : Program} {W W0 : World} {r : Reach} {b0 base : Nat} {sp : Nat → Bool} {held : Bool} {t e : TypeId} {v : Value} {d : DataW H} {ps : List MemPlace}
    (ht : P.underlying t = some (.array 2 e)) (he : P.underlying e = some (.int .i64)) (hce : P.cellsOf e = 1) (hct : P.cellsOf t = 2) (hval : Value.okWide P W0 r b0 t v) (hd : DataW.Trod enc P W base sp held t v d ps) :
    ∃ a b, v = .agg #[.int .i64 a, .int .i64 b] ∧ (Lit.int .i64 a).wf = true ∧ (Lit.int .i64 b).wf = true := by
  simp only [Value.okWide, ht] at hval
  obtain ⟨cs, rfl, hs, _⟩ := hval
  rw [hct] at hs
  obtain ⟨l⟩ := cs
  match l, hs with
  | [c0, c1], _ =>
    obtain ⟨fuel, hf⟩ := hd
    obtain ⟨xs, m, _, _, _, hl, hi⟩ := DataW.trod_array ht (show DataW.trod enc P W base sp held fuel t [c0, c1] = some (d, ps) from hf)
    match xs, hl with
    | [y0, y1], _ =>
      have h0 := hi 0 (by decide)
      have h1 := hi 1 (by decide)
      rw [hce] at h0 h1
      obtain ⟨a, k0, _, w0⟩ := DataW.trod_int he (show DataW.trod enc P W base sp held m e [c0] = some y0 from h0)
      obtain ⟨b, k1, _, w1⟩ := DataW.trod_int he (show DataW.trod enc P W base sp held m e [c1] = some y1 from h1)
      simp only [List.cons.injEq, and_true] at k0 k1
      subst k0 k1
      exact ⟨a, b, rfl, w0, w1⟩
abbrev laidList : List (String × DataW Unit) := [("math/bits.deBruijn32tab", Rows.laid_math_bits_deBruijn32tab), ("math/bits.deBruijn64tab", Rows.laid_math_bits_deBruijn64tab), ("internal/strconv.uint64pow10", Rows.laid_internal_strconv_uint64pow10), ("strconv.ErrRange", Rows.laid_strconv_ErrRange), ("strconv.ErrSyntax", Rows.laid_strconv_ErrSyntax)]
/-- the row's list gives the table -/
theorem wd_of_laid {W : World} (h : laidMetH Tryd.prog laidList W) : Wd W := by
  have h' : laidMet Tryd.prog laidList W := h
  obtain ⟨g, t, cs, fuel, p, hg, hty, hvar, hd⟩ := Lib.laidMet.reads (n := "internal/strconv.uint64pow10") (d := Rows.laid_internal_strconv_uint64pow10) h' (by unfold laidList; exact List.mem_cons_of_mem _ (List.mem_cons_of_mem _ (List.mem_cons_self ..)))
  have e : (Rows.laid_internal_strconv_uint64pow10 : DataW Unit) = Lib.tabData .u64 Lib.pow10Tab := by kernel_rfl
  rw [e] at hd
  obtain rfl : 3 = g := Option.some.inj (gPow.symm.trans hg)
  obtain rfl : t = 116 := Option.some.inj (hty.symm.trans (show (Tryd.prog.globals[3]?).map (·.type) = some 116 by kernel_rfl))
  have hcs := Lib.cells_of_tab (e := 59) (n := 20) (by kernel_rfl) (by kernel_rfl) (by kernel_rfl) (by kernel_rfl) hd
  unfold Wd Lib.TabIs
  rw [hvar, ← hcs]

theorem own : ownKnob Tryd.prog.godebug = none := by kernel_rfl

/-- a world for the witness: the settled one, the variables holding what their initialisers lay -/
def holdCells (cs : Array Value) : Obj → Obj
  | .cells _ t frozen => .cells cs t frozen
  | o => o
def cellsOfData : DataW Unit → Array Value
  | .agg l => (l.filterMap fun | .lit (.int k z) => some (Value.int k z) | _ => none).toArray
  | _ => #[]
def errText : DataW Unit → List UInt8
  | .iface _ (.ptr (.agg [.lit (.string s)])) => s
  | _ => []
def errCells (b : Nat) : Array Value := #[.iface 112 (.pointer (some ⟨b, 0, none⟩))]
noncomputable def laidHeap (h : Array Obj) : Array Obj :=
  (((((h.modify 4 (holdCells (cellsOfData Rows.laid_math_bits_deBruijn32tab))).modify 5 (holdCells (cellsOfData Rows.laid_math_bits_deBruijn64tab))).modify
    3 (holdCells (cellsOfData Rows.laid_internal_strconv_uint64pow10))).modify 2 (holdCells (errCells h.size))).modify 1 (holdCells (errCells (h.size + 1)))) ++
    #[.cells #[.string ⟨(errText Rows.laid_strconv_ErrRange).toArray⟩] 114, .cells #[.string ⟨(errText Rows.laid_strconv_ErrSyntax).toArray⟩] 114]
noncomputable def laidWorld (os : Os) : World :=
  { World.holding Tryd.prog os ⟨#[], #[], []⟩ with heap := laidHeap (World.holding Tryd.prog os ⟨#[], #[], []⟩).heap }
theorem laidWorld_met (os : Os) (args : Array Value) : laidMet Tryd.prog laidList ((laidWorld os).forCall (fun _ _ => 0) ⟨#[], args, []⟩).memory :=
  laidMet_of_run' 8 (by kernel_rfl) (by kernel_rfl)
end Go.Proofs.YtdgoagnbpbehnaaDoor
