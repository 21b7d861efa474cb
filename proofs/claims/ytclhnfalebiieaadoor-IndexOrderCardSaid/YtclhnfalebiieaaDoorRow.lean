/-
  From a law's walk ('it returns true and leaves all older blocks alone') to its row: for whatever arguments.
-/
import Derived.Test.YtclhnfalebiieaaDoorBase
import Derived.Test.YtclhnfalebiieaaDoorLay
import Derived.Test.YtclhnfalebiieaaDoorCards
import Derived.Test.YtclhnfalebiieaaDoorTie
import Derived.ProofKit
import Derived.OpenShut
import Derived.Deep.DeepHandedRow
import Derived.Lib.LaidTab
set_option linter.unusedVariables false
set_option linter.unusedSimpArgs false
namespace Go.Proofs.YtclhnfalebiieaaDoor
open Go.ChangeShapes Go.WideShapes Go.ChangeAt Go.RowKit

theorem trodAll_below {H : Type} {enc : TypeId × Value → H} {P : Program} (hl : laidOutB P = true) {W W' : World} (hb : Below W.heap.size W W') : ∀ {ts : List TypeId} {vs : List Value} {ds : List (DataW H)} {ps : List MemPlace},
    (∀ t ∈ ts, P.readableRec t = true ∧ t < P.types.size) → DataW.TrodAll enc P W 0 (fun _ => true) true ts vs ds ps → (∀ x ∈ ps, x.block < W.heap.size) → DataW.TrodAll enc P W' 0 (fun b => decide (b < W.heap.size)) true ts vs ds ps
  | [], vs, ds, ps, _, h, _ => by
    cases vs <;> cases ds <;> simp_all [DataW.TrodAll]
  | t :: ts, vs, ds, ps, ht, h, hlt => by
    obtain ⟨v, vs', d, ds', p, q, rfl, rfl, rfl, h0, h1⟩ := trodAll_cons h
    exact trodAll_cons_mk (Below.trod hl (ht t (by simp)).1 (ht t (by simp)).2 h0 hb (fun x hx => hlt x (by simp [hx])))
      (trodAll_below hl hb (fun t' ht' => ht t' (by simp [ht'])) h1 (fun x hx => hlt x (by simp [hx])))

theorem law_post {H : Type} {enc : TypeId × Value → H} {P : Program} {f : Func} {s : ChangeSpec} {W W' : World} {args : Array Value} {ds gs : List (DataW H)} {before : List MemPlace} {tb : TypeId}
    (hl : laidOutB P = true) (ht : ∀ t ∈ f.params.toList, P.readableRec t = true ∧ t < P.types.size) (htb : P.underlying tb = some .bool) (hf : f.resultTypes = #[tb])
    (hW : DataW.Whole enc P f.params.toList s.vars false W args.toList ds gs before) (hv : s.vars = [])
    (hr : (s.fn H (ds ++ gs)).results = [.lit (.bool true)]) (ha : (s.fn H (ds ++ gs)).args = ds) (hvs : (s.fn H (ds ++ gs)).vars = []) (hb : Below W.heap.size W W') :
    s.post enc P f false true false false W args (.bool true) W' := by
  have hlt := hW.lt
  have hW2 := hW
  obtain ⟨p, q, hA, hV, rfl, _, _⟩ := hW
  rw [hv] at hV
  obtain ⟨rfl, rfl⟩ := trodVars_none hV
  refine ⟨ds, [], p ++ [], [], p, [], hW2, ?_, ?_, ?_, hb.frame _, fun h => by cases h⟩
  · rw [hr, hf]
    exact trodAll_cons_mk (shut_bool htb _) trodAll_mk0
  · rw [ha]
    exact trodAll_below hl hb ht hA (fun x hx => hlt x (by simp [hx]))
  · rw [hv, hvs]
    rfl

/-- a slice of bytes that comes in -/
theorem bytes_of_ints : ∀ (zs : List Int), (∀ z ∈ zs, (Lit.int .u8 z).wf = true) → ∃ l : List UInt8, l.length = zs.length ∧ ∀ i, i < zs.length → (bvs l)[i]? = some (.int .u8 (zs.getD i 0))
  | [], _ => ⟨[], rfl, fun i hi => by simp at hi⟩
  | z :: zs, h => by
    obtain ⟨l, hl, hi⟩ := bytes_of_ints zs (fun y hy => h y (by simp [hy]))
    have hz := h z (by simp)
    have h0 := bounds_u8 hz
    refine ⟨UInt8.ofNat z.toNat :: l, by simp [hl], fun i hlt => ?_⟩
    cases i with
    | zero =>
      simp only [bvs, List.map_cons, List.getElem?_cons_zero, bv, Option.some.injEq, List.getD_cons_zero]
      congr 1
      simp only [UInt8.toNat_ofNat']
      omega
    | succ i => simpa [bvs] using hi i (by simpa using hlt)

theorem open_bytes {H : Type} {enc : TypeId × Value → H} {P : Program} {W W0 : World} {r : Reach} {b0 base : Nat} {held : Bool} {t e : TypeId} {v : Value} {d : DataW H} {ps : List MemPlace}
    (ht : P.underlying t = some (.slice e)) (he : P.underlying e = some (.int .u8)) (hc : P.cellsOf e = 1) (hval : Value.okWide P W0 r b0 t v) (hd : DataW.Trod enc P W base (fun _ => true) held t v d ps) :
    ∃ A n c l, v = .slice A n c ∧ Sl W 1 A n c (bvs l) := by
  obtain ⟨A, n, c, rfl⟩ := okWide_slice ht hval
  obtain ⟨fuel, hf⟩ := hd
  rcases open_ints ht he hc hf with ⟨h, hx⟩ | ⟨a, len, cap, zs, hcs, hb, hlc, hcm, hlen, hx, hcell, hwf⟩
  · simp [Value.cells] at h
    obtain ⟨rfl, rfl, rfl⟩ := h
    exact ⟨none, 0, 0, [], rfl, Sl.zero _ _ _ _ (by decide)⟩
  · simp [Value.cells] at hcs
    obtain ⟨rfl, rfl, rfl⟩ := hcs
    obtain ⟨l, hl, hi⟩ := bytes_of_ints zs hwf
    simp only [if_true] at hlen
    refine ⟨some a, n, c, l.take n, rfl, by rw [bvs_length, List.length_take]; omega, hlc, hcm, fun hn => ?_⟩
    obtain ⟨b, off, rfl, hj⟩ := ints_at hcell (by omega)
    have h0 := hj 0 (by omega)
    refine ⟨b, off, rfl, block_lt_of_cell h0, fun j u hu => ?_⟩
    have hjn : j < n := by
      have := (List.getElem?_eq_some_iff.1 hu).1
      rw [bvs_length, List.length_take] at this
      omega
    rw [hj j (by omega), ← hi j (by omega), ← hu]
    simp only [bvs, List.map_take]
    rw [List.getElem?_take_of_lt hjn]

/-- the row's list gives the two tables -/
theorem tabs_of_laid {W : World} (h : laidMetH Tryd.prog [("unicode/utf8.acceptRanges", Rows.laid_unicode_utf8_acceptRanges), ("unicode/utf8.first", Rows.laid_unicode_utf8_first)] W) : Tabs W := by
  have h' : laidMet Tryd.prog [("unicode/utf8.acceptRanges", Rows.laid_unicode_utf8_acceptRanges), ("unicode/utf8.first", Rows.laid_unicode_utf8_first)] W := h
  have e1 : Lib.firstData = Rows.laid_unicode_utf8_first := by kernel_rfl
  have e2 : Lib.acceptData = Rows.laid_unicode_utf8_acceptRanges := by kernel_rfl
  exact tabs_of_reads (Lib.laidMet.reads (n := "unicode/utf8.first") (d := Lib.firstData) h' (by rw [e1]; exact List.mem_cons_of_mem _ (List.mem_cons_self ..)))
    (Lib.laidMet.reads (n := "unicode/utf8.acceptRanges") (d := Lib.acceptData) h' (by rw [e2]; exact List.mem_cons_self ..))

theorem own : ownKnob Tryd.prog.godebug = none := by kernel_rfl

/-- a world for the witness: the settled one, the two tables holding what their initialisers lay -/
def holdCells (cs : Array Value) : Obj → Obj
  | .cells _ t frozen => .cells cs t frozen
  | o => o
def firstCells : Array Value := (Lib.firstTab.map (Value.int .u8)).toArray
def acceptCells : Array Value := ((List.range 16).flatMap fun i => [Value.int .u8 (Lib.accLo i), Value.int .u8 (Lib.accHi i)]).toArray
noncomputable def laidWorld (os : Os) : World :=
  { World.holding Tryd.prog os ⟨#[], #[], []⟩ with heap := ((World.holding Tryd.prog os ⟨#[], #[], []⟩).heap.modify 0 (holdCells firstCells)).modify 1 (holdCells acceptCells) }
end Go.Proofs.YtclhnfalebiieaaDoor
