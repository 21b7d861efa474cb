/-
  From a law's walk ('it returns true and leaves all older blocks alone') to its row; the casts' seat: its seven variables.
-/
import Derived.Test.YtelckbphbkebkaaGreatDoorCab
import Derived.Test.YtelckbphbkebkaaGreatDoorCards
import Derived.Test.YtelckbphbkebkaaGreatDoorTie
import Derived.ProofKit
import Derived.OpenShut
import Derived.Deep.DeepHandedRow
import Derived.Lib.LaidU8
import Derived.Lib.LaidTab
import Derived.Stop.LaidErr
import Derived.ChangeMaps5
set_option linter.unusedVariables false
set_option linter.unusedSimpArgs false
set_option maxRecDepth 100000
namespace Go.Proofs.YtelckbphbkebkaaGreatDoor
open Go.ChangeShapes Go.WideShapes Go.ChangeAt Go.RowKit

theorem trodAll_below {H : Type} {enc : TypeId × Value → H} {P : Program} (hl : laidOutB P = true) {W W' : World} (hb : Below W.heap.size W W') : ∀ {ts : List TypeId} {vs : List Value} {ds : List (DataW H)} {ps : List MemPlace},
    (∀ t ∈ ts, P.readableRec t = true ∧ t < P.types.size) → DataW.TrodAll enc P W 0 (fun _ => true) true ts vs ds ps → (∀ x ∈ ps, x.block < W.heap.size) → DataW.TrodAll enc P W' 0 (fun b => decide (b < W.heap.size)) true ts vs ds ps
  | [], vs, ds, ps, _, h, _ => by
    cases vs <;> cases ds <;> simp_all [DataW.TrodAll]
  | t :: ts, vs, ds, ps, ht, h, hlt => by
    obtain ⟨v, vs', d, ds', p, q, rfl, rfl, rfl, h0, h1⟩ := trodAll_cons h
    exact trodAll_cons_mk (Below.trod hl (ht t (by simp)).1 (ht t (by simp)).2 h0 hb (fun x hx => hlt x (by simp [hx])))
      (trodAll_below hl hb (fun t' ht' => ht t' (by simp [ht'])) h1 (fun x hx => hlt x (by simp [hx])))

theorem law_post {H : Type} {enc : TypeId × Value → H} {P : Program} {f : Func} {s : ChangeSpec} {W W' : World} {args : Array Value} {ds gs : List (DataW H)} {before : List MemPlace} {tb : TypeId}
    (hl : laidOutB P = true) (ht : ∀ t ∈ f.params.toList, P.readableRec t = true ∧ t < P.types.size) (htb : P.underlying tb = some .bool) (hf : f.resultTypes = #[tb])
    (hW : DataW.Whole enc P f.params.toList s.vars false W args.toList ds gs before) (hv : s.vars = [])
    (hr : (s.fn H (ds ++ gs)).results = [.lit (.bool true)]) (ha : (s.fn H (ds ++ gs)).args = ds) (hvs : (s.fn H (ds ++ gs)).vars = []) (hb : Below W.heap.size W W') :
    s.post enc P f false true false false W args (.bool true) W' := by
  have hlt := hW.lt
  have hW2 := hW
  obtain ⟨p, q, hA, hV, rfl, _, _⟩ := hW
  rw [hv] at hV
  obtain ⟨rfl, rfl⟩ := trodVars_none hV
  refine ⟨ds, [], p ++ [], [], p, [], hW2, ?_, ?_, ?_, hb.frame _, fun h => by cases h⟩
  · rw [hr, hf]
    exact trodAll_cons_mk (shut_bool htb _) trodAll_mk0
  · rw [ha]
    exact trodAll_below hl hb ht hA (fun x hx => hlt x (by simp [hx]))
  · rw [hv, hvs]
    rfl


/-- a value that comes in -/
theorem open_valA {H : Type} {enc : TypeId × Value → H} {W W0 : World} {r : Reach} {b0 base : Nat} {sp : Nat → Bool} {held : Bool} {v : Value} {d : DataW H} {ps : List MemPlace}
    (hval : Value.okWide Tryz.prog W0 r b0 25 v) (hd : DataW.Trod enc Tryz.prog W base sp held 25 v d ps) :
    ∃ x : Val, v = .agg #[.int .i64 x.kind, .int .i64 x.n, .int .i64 x.scale, .string ⟨x.s.toArray⟩] ∧ inI x.n = true := by
  simp only [Value.okWide, Tryz.underlying25] at hval
  obtain ⟨cs, rfl, hs, _⟩ := hval
  rw [show Tryz.prog.cellsOf 25 = 4 by kernel_rfl] at hs
  obtain ⟨l⟩ := cs
  obtain ⟨fuel, hf⟩ := hd
  obtain ⟨xs, k, _, _, hl, hxl, hfi⟩ := DataW.trod_struct Tryz.underlying25 (show DataW.trod enc Tryz.prog W base sp held fuel 25 l = some (d, ps) from hf)
  match l, hs with
  | [v0, v1, v2, v3], _ =>
    match xs, hxl with
    | [y0, y1, y2, y3], _ =>
      have g0 : DataW.trod enc Tryz.prog W base sp held k 23 [v0] = some y0 := hfi 0 _ rfl
      have g1 : DataW.trod enc Tryz.prog W base sp held k 3 [v1] = some y1 := hfi 1 _ rfl
      have g2 : DataW.trod enc Tryz.prog W base sp held k 3 [v2] = some y2 := hfi 2 _ rfl
      have g3 : DataW.trod enc Tryz.prog W base sp held k 9 [v3] = some y3 := hfi 3 _ rfl
      obtain ⟨a, e0, _, _⟩ := DataW.trod_int Tryz.underlying23 g0
      obtain ⟨b, e1, _, hb⟩ := DataW.trod_int Tryz.underlying3 g1
      obtain ⟨c, e2, _, _⟩ := DataW.trod_int Tryz.underlying3 g2
      obtain ⟨s, e3, _, _⟩ := DataW.trod_string Tryz.underlying9 g3
      obtain rfl := List.head_eq_of_cons_eq e0
      obtain rfl := List.head_eq_of_cons_eq e1
      obtain rfl := List.head_eq_of_cons_eq e2
      obtain rfl := List.head_eq_of_cons_eq e3
      exact ⟨⟨a, b, c, s.data.toList⟩, by simp, inI_iff.2 (bounds_i64 hb)⟩
/-- a type that comes in -/
theorem open_typ {H : Type} {enc : TypeId × Value → H} {W W0 : World} {r : Reach} {b0 base : Nat} {sp : Nat → Bool} {held : Bool} {v : Value} {d : DataW H} {ps : List MemPlace}
    (hval : Value.okWide Tryz.prog W0 r b0 27 v) (hd : DataW.Trod enc Tryz.prog W base sp held 27 v d ps) :
    ∃ a b, v = .agg #[.int .i64 a, .int .i64 b] := by
  simp only [Value.okWide, Tryz.underlying27] at hval
  obtain ⟨cs, rfl, hs, _⟩ := hval
  rw [show Tryz.prog.cellsOf 27 = 2 by kernel_rfl] at hs
  obtain ⟨l⟩ := cs
  obtain ⟨fuel, hf⟩ := hd
  obtain ⟨xs, k, _, _, hl, hxl, hfi⟩ := DataW.trod_struct Tryz.underlying27 (show DataW.trod enc Tryz.prog W base sp held fuel 27 l = some (d, ps) from hf)
  match l, hs with
  | [v0, v1], _ =>
    match xs, hxl with
    | [y0, y1], _ =>
      have g0 : DataW.trod enc Tryz.prog W base sp held k 23 [v0] = some y0 := hfi 0 _ rfl
      have g1 : DataW.trod enc Tryz.prog W base sp held k 3 [v1] = some y1 := hfi 1 _ rfl
      obtain ⟨a, e0, _, _⟩ := DataW.trod_int Tryz.underlying23 g0
      obtain ⟨b, e1, _, _⟩ := DataW.trod_int Tryz.underlying3 g1
      obtain rfl := List.head_eq_of_cons_eq e0
      obtain rfl := List.head_eq_of_cons_eq e1
      exact ⟨a, b, rfl⟩
abbrev laidList : List (String × DataW Unit) := [("math/bits.deBruijn32tab", Rows.laid_math_bits_deBruijn32tab), ("math/bits.deBruijn64tab", Rows.laid_math_bits_deBruijn64tab), ("internal/strconv.uint64pow10", Rows.laid_internal_strconv_uint64pow10), ("unicode/utf8.acceptRanges", Rows.laid_unicode_utf8_acceptRanges), ("strconv.ErrRange", Rows.laid_strconv_ErrRange), ("strconv.ErrSyntax", Rows.laid_strconv_ErrSyntax), ("unicode/utf8.first", Rows.laid_unicode_utf8_first)]
/-- the row's list gives the table -/
theorem wd_of_laid {W : World} (h : laidMetH Tryz.prog laidList W) : Wd W := by
  have h' : laidMet Tryz.prog laidList W := h
  obtain ⟨g, t, cs, fuel, p, hg, hty, hvar, hd⟩ := Lib.laidMet.reads (n := "internal/strconv.uint64pow10") (d := Rows.laid_internal_strconv_uint64pow10) h' (by unfold laidList; exact List.mem_cons_of_mem _ (List.mem_cons_of_mem _ (List.mem_cons_self ..)))
  have e : (Rows.laid_internal_strconv_uint64pow10 : DataW Unit) = Lib.tabData .u64 Lib.pow10Tab := by kernel_rfl
  rw [e] at hd
  obtain rfl : 5 = g := Option.some.inj (gPow.symm.trans hg)
  obtain rfl : t = 229 := Option.some.inj (hty.symm.trans (show (Tryz.prog.globals[5]?).map (·.type) = some 229 by kernel_rfl))
  have hcs := Lib.cells_of_tab (e := 189) (n := 20) (by kernel_rfl) (by kernel_rfl) (by kernel_rfl) (by kernel_rfl) hd
  unfold Wd Lib.TabIs
  rw [hvar, ← hcs]

theorem star : "*" ++ "errors.errorString" = "*errors.errorString" := by decide
theorem row_err (u : TypeId) (h : Tryz.prog.typeName? 3 u = some "*errors.errorString") : u = 237 :=
  typeName_ptr_named (nm := "errors.errorString") (by rw [star]; kernel_rfl) (by kernel_rfl) (by decide) u (by rw [star]; exact h)
theorem gRangeT : (Tryz.prog.globals[4]?).map (·.type) = some 179 := by kernel_rfl
theorem gSyntaxT : (Tryz.prog.globals[3]?).map (·.type) = some 179 := by kernel_rfl
theorem we_of_laid {W : World} (h : laidMetH Tryz.prog laidList W) : We W := by
  have h' : laidMet Tryz.prog laidList W := h
  have h3 := h'.tail.tail.tail.tail
  refine ⟨wd_of_laid h, ?_, ?_⟩
  · obtain ⟨a, s, hv, _⟩ := laid_sentinel h3.tail gSyntax gSyntaxT Tryz.underlying179 row_err Tryz.underlying237 Tryz.underlying239 rfl rfl Tryz.underlying9 (by kernel_rfl) (by kernel_rfl)
    exact ⟨_, _, hv⟩
  · obtain ⟨a, s, hv, _⟩ := laid_sentinel h3 gRange gRangeT Tryz.underlying179 row_err Tryz.underlying237 Tryz.underlying239 rfl rfl Tryz.underlying9 (by kernel_rfl) (by kernel_rfl)
    exact ⟨_, _, hv⟩
theorem tabs_of_laid {W : World} (h : laidMetH Tryz.prog laidList W) : Tabs W := by
  have h' : laidMet Tryz.prog laidList W := h
  have e1 : Lib.firstData = Rows.laid_unicode_utf8_first := by kernel_rfl
  have e2 : Lib.acceptData = Rows.laid_unicode_utf8_acceptRanges := by kernel_rfl
  exact tabs_of_reads (Lib.laidMet.reads (n := "unicode/utf8.first") (d := Lib.firstData) h' (by rw [e1]; unfold laidList; exact (List.mem_cons_of_mem _ (List.mem_cons_of_mem _ (List.mem_cons_of_mem _ (List.mem_cons_of_mem _ (List.mem_cons_of_mem _ (List.mem_cons_of_mem _ (List.mem_cons_self ..)))))))))
    (Lib.laidMet.reads (n := "unicode/utf8.acceptRanges") (d := Lib.acceptData) h' (by rw [e2]; unfold laidList; exact (List.mem_cons_of_mem _ (List.mem_cons_of_mem _ (List.mem_cons_of_mem _ (List.mem_cons_self ..))))))
theorem wc_of_laid {W : World} (h : laidMetH Tryz.prog laidList W) : Wc W := ⟨we_of_laid h, tabs_of_laid h⟩
theorem own : ownKnob Tryz.prog.godebug = none := by kernel_rfl

/-- a world for the witness: the settled one, the variables holding what their initialisers lay -/
def holdCells (cs : Array Value) : Obj → Obj
  | .cells _ t frozen => .cells cs t frozen
  | o => o
def cellsOfData : DataW Unit → Array Value
  | .agg l => (l.filterMap fun | .lit (.int k z) => some (Value.int k z) | _ => none).toArray
  | _ => #[]
def errText : DataW Unit → List UInt8
  | .iface _ (.ptr (.agg [.lit (.string s)])) => s
  | _ => []
def errCells (b : Nat) : Array Value := #[.iface 237 (.pointer (some ⟨b, 0, none⟩))]
def firstCells : Array Value := (Lib.firstTab.map (Value.int .u8)).toArray
def acceptCells : Array Value := ((List.range 16).flatMap fun i => [Value.int .u8 (Lib.accLo i), Value.int .u8 (Lib.accHi i)]).toArray
noncomputable def laidHeap (h : Array Obj) : Array Obj :=
  (((((((h.modify 6 (holdCells (cellsOfData Rows.laid_math_bits_deBruijn32tab))).modify 7 (holdCells (cellsOfData Rows.laid_math_bits_deBruijn64tab))).modify
    5 (holdCells (cellsOfData Rows.laid_internal_strconv_uint64pow10))).modify 4 (holdCells (errCells h.size))).modify 3 (holdCells (errCells (h.size + 1)))).modify 0 (holdCells firstCells)).modify 1 (holdCells acceptCells)) ++
    #[.cells #[.string ⟨(errText Rows.laid_strconv_ErrRange).toArray⟩] 239, .cells #[.string ⟨(errText Rows.laid_strconv_ErrSyntax).toArray⟩] 239]
noncomputable def laidWorld (os : Os) : World :=
  { World.holding Tryz.prog os ⟨#[], #[], []⟩ with heap := laidHeap (World.holding Tryz.prog os ⟨#[], #[], []⟩).heap }
theorem laidWorld_met (os : Os) (args : Array Value) : laidMet Tryz.prog laidList ((laidWorld os).forCall (fun _ _ => 0) ⟨#[], args, []⟩).memory :=
  laidMet_of_run' 8 (by kernel_rfl) (by kernel_rfl)
end Go.Proofs.YtelckbphbkebkaaGreatDoor
