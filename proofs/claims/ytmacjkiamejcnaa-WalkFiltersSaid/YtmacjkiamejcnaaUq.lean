/-
  From a law's run to its row (trees: the rows list no variable).
-/
import Derived.Test.YtmacjkiamejcnaaUp
import Derived.Test.YtmacjkiamejcnaaRows
import Derived.Test.YtmacjkiamejcnaaChecked
import Derived.ProofKit
import Derived.OpenShut
import Derived.LaidLaws
import Derived.Deep.DeepHandedRow
set_option linter.unusedVariables false
set_option linter.unusedSimpArgs false
namespace Go.Proofs.Ytmacjkiamejcnaa
open Go.ChangeShapes Go.WideShapes Go.ChangeAt Go.RowKit

theorem trodAll_below {H : Type} {enc : TypeId × Value → H} {P : Program} (hl : laidOutB P = true) {W W' : World} (hb : Below W.heap.size W W') : ∀ {ts : List TypeId} {vs : List Value} {ds : List (DataW H)} {ps : List MemPlace},
    (∀ t ∈ ts, P.readableRec t = true ∧ t < P.types.size) → DataW.TrodAll enc P W 0 (fun _ => true) true ts vs ds ps → (∀ x ∈ ps, x.block < W.heap.size) → DataW.TrodAll enc P W' 0 (fun b => decide (b < W.heap.size)) true ts vs ds ps
  | [], vs, ds, ps, _, h, _ => by
    cases vs <;> cases ds <;> simp_all [DataW.TrodAll]
  | t :: ts, vs, ds, ps, ht, h, hlt => by
    obtain ⟨v, vs', d, ds', p, q, rfl, rfl, rfl, h0, h1⟩ := trodAll_cons h
    exact trodAll_cons_mk (Below.trod hl (ht t (by simp)).1 (ht t (by simp)).2 h0 hb (fun x hx => hlt x (by simp [hx])))
      (trodAll_below hl hb (fun t' ht' => ht t' (by simp [ht'])) h1 (fun x hx => hlt x (by simp [hx])))

theorem law_post {H : Type} {enc : TypeId × Value → H} {P : Program} {f : Func} {s : ChangeSpec} {W W' : World} {args : Array Value} {ds gs : List (DataW H)} {before : List MemPlace} {tb : TypeId}
    (hl : laidOutB P = true) (ht : ∀ t ∈ f.params.toList, P.readableRec t = true ∧ t < P.types.size) (htb : P.underlying tb = some .bool) (hf : f.resultTypes = #[tb])
    (hW : DataW.Whole enc P f.params.toList s.vars false W args.toList ds gs before) (hv : s.vars = [])
    (hr : (s.fn H (ds ++ gs)).results = [.lit (.bool true)]) (ha : (s.fn H (ds ++ gs)).args = ds) (hvs : (s.fn H (ds ++ gs)).vars = []) (hb : Below W.heap.size W W') :
    s.post enc P f false true false false W args (.bool true) W' := by
  have hlt := hW.lt
  have hW2 := hW
  obtain ⟨p, q, hA, hV, rfl, _, _⟩ := hW
  rw [hv] at hV
  obtain ⟨rfl, rfl⟩ := trodVars_none hV
  refine ⟨ds, [], p ++ [], [], p, [], hW2, ?_, ?_, ?_, hb.frame _, fun h => by cases h⟩
  · rw [hr, hf]
    exact trodAll_cons_mk (shut_bool htb _) trodAll_mk0
  · rw [ha]
    exact trodAll_below hl hb ht hA (fun x hx => hlt x (by simp [hx]))
  · rw [hv, hvs]
    rfl

def bv (c : UInt8) : Value := .int .u8 c.toNat
def bvs (l : List UInt8) : List Value := l.map bv
theorem bounds_u8' {z : Int} (h : (Lit.int .u8 z).wf = true) : 0 ≤ z ∧ z ≤ 255 := by
  simp [Lit.wf, IntKind.min, IntKind.max, IntKind.signed, IntKind.bits] at h
  omega
/-- a slice of bytes that comes in -/
theorem bytes_of_ints : ∀ (zs : List Int), (∀ z ∈ zs, (Lit.int .u8 z).wf = true) → ∃ l : List UInt8, l.length = zs.length ∧ ∀ i, i < zs.length → (bvs l)[i]? = some (.int .u8 (zs.getD i 0))
  | [], _ => ⟨[], rfl, fun i hi => by simp at hi⟩
  | z :: zs, h => by
    obtain ⟨l, hl, hi⟩ := bytes_of_ints zs (fun y hy => h y (by simp [hy]))
    have hz := h z (by simp)
    have h0 := bounds_u8' hz
    refine ⟨UInt8.ofNat z.toNat :: l, by simp [hl], fun i hlt => ?_⟩
    cases i with
    | zero =>
      simp only [bvs, List.map_cons, List.getElem?_cons_zero, bv, Option.some.injEq, List.getD_cons_zero]
      congr 1
      simp only [UInt8.toNat_ofNat']
      omega
    | succ i => simpa [bvs] using hi i (by simpa using hlt)

def memU (w : World) (U : Nat → Nat) : Mem := ⟨w, U, ⟨0, fun _ _ => none⟩⟩
theorem relL_bytes (M : Mem) : ∀ (l : List UInt8), RelL M (l.map bytePV) (bvs l)
  | [] => rfl
  | c :: l => ⟨bv c, bvs l, rfl, rfl, rfl, relL_bytes M l⟩
/-- a slice of bytes that comes in -/
theorem open_bytesR {H : Type} {enc : TypeId × Value → H} {P : Program} {W W0 : World} {r : Reach} {b0 base : Nat} {held : Bool} {t e : TypeId} {v : Value} {d : DataW H} {ps : List MemPlace}
    (ht : P.underlying t = some (.slice e)) (he : P.underlying e = some (.int .u8)) (hc : P.cellsOf e = 1) (hval : Value.okWide P W0 r b0 t v) (hd : DataW.Trod enc P W base (fun _ => true) held t v d ps) :
    ∃ (l : List UInt8) (U : Nat → Nat), RelD (memU W U) (.sl none 1 l.length (l.map bytePV)) v := by
  obtain ⟨A, n, c, rfl⟩ := okWide_slice ht hval
  obtain ⟨fuel, hf⟩ := hd
  rcases open_ints ht he hc hf with ⟨h, hx⟩ | ⟨a, len, cap, zs, hcs, hb, hlc, hcm, hlen, hx, hcell, hwf⟩
  · simp [Value.cells] at h
    obtain ⟨rfl, rfl, rfl⟩ := h
    refine ⟨[], fun _ => 0, ?_⟩
    simp only [RelD]
    exact ⟨none, 0, [], rfl, Nat.le_refl _, by simp [maxLen], fun b h => (by cases h), fun _ => rfl, rfl, rfl, .inl rfl⟩
  · simp [Value.cells] at hcs
    obtain ⟨rfl, rfl, rfl⟩ := hcs
    obtain ⟨l, hl, hi⟩ := bytes_of_ints zs hwf
    simp only [if_true] at hlen
    have hln : (l.take n).length = n := by rw [List.length_take]; omega
    by_cases hn : n = 0
    · subst hn
      refine ⟨[], fun _ => 0, ?_⟩
      simp only [RelD]
      exact ⟨some a, c, [], rfl, hlc, hcm, fun b h => (by cases h), fun h => (by cases h), rfl, rfl, .inl rfl⟩
    · obtain ⟨b, off, rfl, hj⟩ := ints_at hcell (by omega)
      refine ⟨l.take n, fun _ => off + n, ?_⟩
      simp only [RelD]
      refine ⟨some ⟨b, off, none⟩, c, bvs (l.take n), by rw [hln], by rw [hln]; exact hlc, hcm, fun b h => (by cases h), fun h => (by cases h), by rw [List.length_map, hln, Nat.mul_one], relL_bytes _ _, .inr ⟨b, off, rfl, fun j u hu => ?_⟩⟩
      have hjn : j < n := by
        have := (List.getElem?_eq_some_iff.1 hu).1
        simp only [bvs, List.length_map] at this
        omega
      refine ⟨?_, by show off + j < off + n; omega⟩
      show W.cell? _ = _
      rw [hj j (by omega), ← hi j (by omega), ← hu]
      simp only [bvs, List.map_take]
      rw [List.getElem?_take_of_lt hjn]
theorem ok_enL : EnvOK enL NGt Wt := env_okR (env_okA wokt ok_lL ok_lH allI_nil allN_nil allC_nil) _
/-- a run that yields true: the call returns true and leaves all that was there -/
theorem law_runL {f : FuncId} {fn : Func} (hf : Try.prog.funcs[f]? = some fn) {h : Hints} {fuel : Nat} {w : World} {U : Nat → Nat} {xs : List PV} {vs : List Value}
    (hr : RelT (memU w U) xs vs) (hrun : prun enL h fuel false fn xs = some (.bool true)) : Calls Try.prog f vs.toArray w fun e w' => e = .returned (.bool true) ∧ Below w.heap.size w w' := by
  refine (run_ok ok_enL rfl hf (M := memU w U) trivial (Nat.zero_le _) (fun g cs hg => by cases hg) hr hrun).mono ?_
  rintro e w' ⟨v, rfl, U', hm, hv, _⟩
  simp only [RelD] at hv
  subst hv
  exact ⟨rfl, hm.os, hm.tape, hm.output, hm.size, fun b hb => (hm.block b hb (by simp [memU])).1⟩
theorem own : ownKnob Try.prog.godebug = none := by kernel_rfl
noncomputable def laidWorld (os : Os) : World := World.holding Try.prog os ⟨#[], #[], []⟩
theorem laidWorld_met (os : Os) (args : Array Value) : laidMet Try.prog [] ((laidWorld os).forCall (fun _ _ => 0) ⟨#[], args, []⟩).memory :=
  laidMet_of_run' 8 (by kernel_rfl) (by kernel_rfl)
end Go.Proofs.Ytmacjkiamejcnaa
