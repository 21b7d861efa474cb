/-
  PROVED: whatever schema and row's cells 'refitlaw23.ScanValues' is given, it returns true and leaves the memory that was there as it was. CONDITIONS: none beyond the row's own (unicode/utf8's two tables hold what the program's text lays: tied by the card).
-/
import Derived.Test.YthjmjoioagocdaaGreatDoorTie
import Derived.Test.YthjmjoioagocdaaGreatDoorCards
import Derived.Test.YthjmjoioagocdaaGreatDoorZvYA
import Derived.Test.YthjmjoioagocdaaGreatDoorZvTA
set_option linter.unusedVariables false
set_option linter.unusedSimpArgs false
set_option maxRecDepth 100000
namespace Go.Proofs.YthjmjoioagocdaaGreatDoor.fnScanValues
open Go.ChangeShapes Go.WideShapes Go.ChangeAt Go.RowKit

def wargs : Array Value := #[.agg #[.int .i64 0, .int .i64 0, .slice none 0 0], .slice none 0 0]
theorem laid_met (os : Os) : laidMet Tryz.prog Rows.scanValuesRow.laid ((laidWorld os).forCall (fun _ _ => 0) ⟨#[], wargs, []⟩).memory :=
  laidMet_of_run' 8 (by kernel_rfl) (by kernel_rfl)
theorem reads (os : Os) {H : Type} (enc : TypeId × Value → H) : ∃ places, DataW.whole enc Tryz.prog ((laidWorld os).forCall (fun _ _ => 0) ⟨#[], wargs, []⟩).memory Tryz.f6.params.toList Rows.scanValuesSpec.vars false wargs.toList 8 = some ([.agg [.lit (.int .i64 0), .lit (.int .i64 0), .nil], .nil], [], places) :=
  ⟨[], by kernel_rfl⟩

theorem law (W : World) (v0 v1 : Value) {x1 : Scm} (px1 : PScm x1) (A1 : ArgU W (.agg (scmC x1)) v0) {x2 : List Cel} (px2 : ∀ x ∈ x2, PCel x) (A2 : ArgU W (.sl none 5 x2.length (x2.flatMap celC)) v1) (hT : Tabs W) :
    Calls Tryz.prog 6 #[v0, v1] W fun e W' => e = .returned (.bool true) ∧ Below W.heap.size W W' :=
  law_runA (vs := [v0, v1]) (xs := [.agg (scmC x1), .sl none 5 x2.length (x2.flatMap celC)]) wokk ok_lSv (h := hSv) Tryz.func6 hT (tabs_size hT) (.cons A1 (.cons A2 .nil)) (sv_true x1.ver x1.next x1.nt x1.tbls none x2)
theorem contract (H : Type) (enc : TypeId × Value → H) (W : World) (base : Nat) (args : Array Value) (ds gs : List (DataW H)) (before : List MemPlace)
    (hval : ∀ (j : Nat) t v, Tryz.f6.params[j]? = some t → args[j]? = some v → Value.okWide Tryz.prog W .any base t v)
    (hW : DataW.Whole enc Tryz.prog Tryz.f6.params.toList Rows.scanValuesSpec.vars false W args.toList ds gs before) (hL : laidMetH Tryz.prog Rows.scanValuesRow.laid W) :
    Calls Tryz.prog 6 args W fun e W' => ∃ v, e = .returned v ∧ Rows.scanValuesSpec.post enc Tryz.prog Tryz.f6 false true false false W args v W' := by
  have hW' := hW
  obtain ⟨p, q, hA0, hV, rfl, hfz, hnd⟩ := hW
  have hA : DataW.TrodAll enc Tryz.prog W 0 (fun _ => true) true Tryz.f6.params.toList args.toList ds p := hA0
  rw [Tryz.params6] at hA hval
  obtain ⟨v0, vs0, d0, ds0, p0, q0, hargs, rfl, rfl, h0, r0⟩ := trodAll_cons hA
  obtain ⟨v1, vs1, d1, ds1, p1, q1, rfl, rfl, rfl, h1, r1⟩ := trodAll_cons r0
  obtain ⟨rfl, rfl, rfl⟩ := trodAll_nil r1
  obtain rfl : args = #[v0, v1] := by cases args; simp_all
  obtain ⟨rfl, rfl⟩ := trodVars_none hV
  obtain ⟨x1, px1, A1⟩ := arg_agg (f := scmC) (Pa := PScm) Tryz.underlying68 (hval 0 _ _ rfl rfl) h0 (fun n cs' y h => Scm_tr h)
  obtain ⟨x2, px2, A2⟩ := arg_sl (f := celC) (Pa := PCel) (size := 5) (by omega) Tryz.underlying48 (by kernel_rfl) (celC_len) (hval 1 _ _ rfl rfl) h1 (fun n cs' y h => Cel_tr h)
  clear hA0
  refine (law W v0 v1 px1 A1 px2 A2 (tabs_of_laid hL)).mono fun e W' ⟨he, hg⟩ => ?_
  subst he
  exact ⟨_, rfl, law_post (by kernel_rfl) (of_decide_eq_true (by kernel_rfl)) Tryz.underlying4 rfl hW' rfl rfl rfl rfl hg⟩

set_option maxRecDepth 100000 in
theorem lifted (os : Os) (started : os.Started) (H : Type) (enc : TypeId × Value → H) (F : Stop.Interp) :
    ReturnsInHanded {} Tryz.checked os 6 .any ((OpenSpec.ofChange Rows.scanValuesSpec).preRow enc Tryz.prog Tryz.f6 Rows.scanValuesRow.domain false Rows.scanValuesRow.laid) (((OpenSpec.ofChange Rows.scanValuesSpec).at F).post enc Tryz.prog Tryz.f6 false true false false) := by
  obtain ⟨places, hx⟩ := reads os enc
  refine returnsInHanded_of_row (C := Tryz.checked) (s := OpenSpec.ofChange Rows.scanValuesSpec) own started (by kernel_rfl) Tryz.func6
    (witness_row_at (enc := enc) (C := Tryz.checked) false (laidWorld os) wargs rfl (by kernel_rfl) (by kernel_rfl) (by kernel_rfl)
      (OpenSpec.preRow_of_cond 8 hx (by kernel_rfl) (fun k hk => by cases hk) (by kernel_rfl) (laid_met os))) ?_
  intro W base args ds gs before hval hW _ _ _ hL _ _
  exact contract H enc W base args ds gs before hval hW hL

theorem said : Rows.ScanValuesSaid :=
  OpenClaim.holds_of_cond 6 Tryz.f6 rfl rfl rfl rfl rfl rfl rfl ⟨rfl, rfl, rfl, rfl, rfl⟩ rfl rfl rfl rfl rfl (by kernel_rfl) Tryz.func6 (by kernel_rfl)
    (of_decide_eq_true (by kernel_rfl)) (by unfold Func.isWrapper; first | (rw [if_pos (by decide +kernel)]; kernel_rfl) | (rw [if_neg (by decide +kernel)]; exact ⟨rfl, rfl⟩))
    (fun os started H enc _ F => by rw [OpenClaim.pre_eq_preRow]; exact lifted os started H enc F)

theorem plain (f : FuncId) (fn : Func) (hf : Tryz.pinned.checked.prog.funcNamed "refit/refitlaw23.ScanValues" = some f) (hfn : Tryz.pinned.checked.prog.funcs[f]? = some fn) :
    false = Tryz.pinned.checked.prog.looks [] ∧ ∀ (j : Nat) t, fn.params[j]? = some t → Tryz.pinned.checked.prog.wantsStandIn t = false := by
  obtain rfl : f = 6 := Option.some.inj ((show Tryz.prog.funcNamed "refit/refitlaw23.ScanValues" = some 6 by kernel_rfl).symm.trans hf) |>.symm
  obtain rfl : fn = Tryz.f6 := (Option.some.inj (Tryz.func6.symm.trans hfn)).symm
  refine ⟨by kernel_rfl, fun j t ht => ?_⟩
  rw [Tryz.params6] at ht
  have hm := Array.mem_of_getElem? ht
  simp only [List.mem_toArray, List.mem_cons, List.mem_nil_iff, or_false, or_self] at hm
  rcases hm with rfl | rfl
  · exact (show Tryz.prog.wantsStandIn 68 = false by kernel_rfl)
  · exact (show Tryz.prog.wantsStandIn 48 = false by kernel_rfl)

theorem card : Rows.ScanValuesCardSaid :=
  Claim7.holds_tied_plain_at .later [] _ _ _ _ said (fun _ h => by cases h) (by kernel_rfl) (fun _ h => by cases h) scanValues_row_tie rfl ⟨rfl, rfl⟩ (by kernel_rfl) rfl plain (by kernel_rfl)
end Go.Proofs.YthjmjoioagocdaaGreatDoor.fnScanValues
