/-
  PROVED: whatever rows, index and value 'refitlaw23.ScanSplits' is given, it returns true and leaves the memory that was there as it was. CONDITIONS: none beyond the row's own (unicode/utf8's two tables hold what the program's text lays: tied by the card).
-/
import Derived.Test.YthjmjoioagocdaaGreatDoorTie
import Derived.Test.YthjmjoioagocdaaGreatDoorCards
import Derived.Test.YthjmjoioagocdaaGreatDoorZpYB
import Derived.Test.YthjmjoioagocdaaGreatDoorZpTA
set_option linter.unusedVariables false
set_option linter.unusedSimpArgs false
set_option maxRecDepth 100000
namespace Go.Proofs.YthjmjoioagocdaaGreatDoor.fnScanSplits
open Go.ChangeShapes Go.WideShapes Go.ChangeAt Go.RowKit

def wargs : Array Value := #[.slice none 0 0, .agg #[.int .i64 0, .string ⟨#[]⟩, .slice none 0 0, .bool false, .int .i64 0], .agg #[.int .i64 0, .int .i64 0, .int .i64 0, .string ⟨#[]⟩]]
theorem laid_met (os : Os) : laidMet Tryz.prog Rows.scanSplitsRow.laid ((laidWorld os).forCall (fun _ _ => 0) ⟨#[], wargs, []⟩).memory :=
  laidMet_of_run' 8 (by kernel_rfl) (by kernel_rfl)
theorem reads (os : Os) {H : Type} (enc : TypeId × Value → H) : ∃ places, DataW.whole enc Tryz.prog ((laidWorld os).forCall (fun _ _ => 0) ⟨#[], wargs, []⟩).memory Tryz.f5.params.toList Rows.scanSplitsSpec.vars false wargs.toList 8 = some ([.nil, .agg [.lit (.int .i64 0), .lit (.string []), .nil, .lit (.bool false), .lit (.int .i64 0)], .agg [.lit (.int .i64 0), .lit (.int .i64 0), .lit (.int .i64 0), .lit (.string [])]], [], places) :=
  ⟨[], by kernel_rfl⟩

theorem law (W : World) (v0 v1 v2 : Value) {x1 : List Rw} (px1 : ∀ x ∈ x1, PRw x) (A1 : ArgU W (.sl none 2 x1.length (x1.flatMap rwC)) v0) {x2 : Idx} (px2 : PIdx x2) (A2 : ArgU W (.agg (idxC x2)) v1) {x3 : Val} (px3 : PVal x3) (A3 : ArgU W (.agg (V4.cs x3)) v2) (hT : Tabs W) :
    Calls Tryz.prog 5 #[v0, v1, v2] W fun e W' => e = .returned (.bool true) ∧ Below W.heap.size W W' :=
  TS.law_runH (vs := [v0, v1, v2]) (xs := [.sl none 2 x1.length (x1.flatMap rwC), .agg (idxC x2), .agg (V4.cs x3)]) (env_okH TS.wokt TS.ok_lQ TS.ok_lhQ allI_nil) rfl (fun _ => rfl) (h := TS.hQ) Tryz.func5 hT (tabs_size hT) (.cons A1 (.cons A2 (.cons A3 .nil))) (TS.sq_true px1 px2 px3)
theorem contract (H : Type) (enc : TypeId × Value → H) (W : World) (base : Nat) (args : Array Value) (ds gs : List (DataW H)) (before : List MemPlace)
    (hval : ∀ (j : Nat) t v, Tryz.f5.params[j]? = some t → args[j]? = some v → Value.okWide Tryz.prog W .any base t v)
    (hW : DataW.Whole enc Tryz.prog Tryz.f5.params.toList Rows.scanSplitsSpec.vars false W args.toList ds gs before) (hL : laidMetH Tryz.prog Rows.scanSplitsRow.laid W) :
    Calls Tryz.prog 5 args W fun e W' => ∃ v, e = .returned v ∧ Rows.scanSplitsSpec.post enc Tryz.prog Tryz.f5 false true false false W args v W' := by
  have hW' := hW
  obtain ⟨p, q, hA0, hV, rfl, hfz, hnd⟩ := hW
  have hA : DataW.TrodAll enc Tryz.prog W 0 (fun _ => true) true Tryz.f5.params.toList args.toList ds p := hA0
  rw [Tryz.params5] at hA hval
  obtain ⟨v0, vs0, d0, ds0, p0, q0, hargs, rfl, rfl, h0, r0⟩ := trodAll_cons hA
  obtain ⟨v1, vs1, d1, ds1, p1, q1, rfl, rfl, rfl, h1, r1⟩ := trodAll_cons r0
  obtain ⟨v2, vs2, d2, ds2, p2, q2, rfl, rfl, rfl, h2, r2⟩ := trodAll_cons r1
  obtain ⟨rfl, rfl, rfl⟩ := trodAll_nil r2
  obtain rfl : args = #[v0, v1, v2] := by cases args; simp_all
  obtain ⟨rfl, rfl⟩ := trodVars_none hV
  obtain ⟨x1, px1, A1⟩ := arg_sl (f := rwC) (Pa := PRw) (size := 2) (by omega) Tryz.underlying22 (by kernel_rfl) (rwC_len) (hval 0 _ _ rfl rfl) h0 (fun n cs' y h => Rw_tr h)
  obtain ⟨x2, px2, A2⟩ := arg_agg (f := idxC) (Pa := PIdx) Tryz.underlying26 (hval 1 _ _ rfl rfl) h1 (fun n cs' y h => Idx_tr h)
  obtain ⟨x3, px3, A3⟩ := arg_agg (f := V4.cs) (Pa := PVal) Tryz.underlying54 (hval 2 _ _ rfl rfl) h2 (fun n cs' y h => Val_tr h)
  clear hA0
  refine (law W v0 v1 v2 px1 A1 px2 A2 px3 A3 (tabs_of_laid hL)).mono fun e W' ⟨he, hg⟩ => ?_
  subst he
  exact ⟨_, rfl, law_post (by kernel_rfl) (of_decide_eq_true (by kernel_rfl)) Tryz.underlying4 rfl hW' rfl rfl rfl rfl hg⟩

set_option maxRecDepth 100000 in
theorem lifted (os : Os) (started : os.Started) (H : Type) (enc : TypeId × Value → H) (F : Stop.Interp) :
    ReturnsInHanded {} Tryz.checked os 5 .any ((OpenSpec.ofChange Rows.scanSplitsSpec).preRow enc Tryz.prog Tryz.f5 Rows.scanSplitsRow.domain false Rows.scanSplitsRow.laid) (((OpenSpec.ofChange Rows.scanSplitsSpec).at F).post enc Tryz.prog Tryz.f5 false true false false) := by
  obtain ⟨places, hx⟩ := reads os enc
  refine returnsInHanded_of_row (C := Tryz.checked) (s := OpenSpec.ofChange Rows.scanSplitsSpec) own started (by kernel_rfl) Tryz.func5
    (witness_row_at (enc := enc) (C := Tryz.checked) false (laidWorld os) wargs rfl (by kernel_rfl) (by kernel_rfl) (by kernel_rfl)
      (OpenSpec.preRow_of_cond 8 hx (by kernel_rfl) (fun k hk => by cases hk) (by kernel_rfl) (laid_met os))) ?_
  intro W base args ds gs before hval hW _ _ _ hL _ _
  exact contract H enc W base args ds gs before hval hW hL

theorem said : Rows.ScanSplitsSaid :=
  OpenClaim.holds_of_cond 5 Tryz.f5 rfl rfl rfl rfl rfl rfl rfl ⟨rfl, rfl, rfl, rfl, rfl⟩ rfl rfl rfl rfl rfl (by kernel_rfl) Tryz.func5 (by kernel_rfl)
    (of_decide_eq_true (by kernel_rfl)) (by unfold Func.isWrapper; first | (rw [if_pos (by decide +kernel)]; kernel_rfl) | (rw [if_neg (by decide +kernel)]; exact ⟨rfl, rfl⟩))
    (fun os started H enc _ F => by rw [OpenClaim.pre_eq_preRow]; exact lifted os started H enc F)

theorem plain (f : FuncId) (fn : Func) (hf : Tryz.pinned.checked.prog.funcNamed "refit/refitlaw23.ScanSplits" = some f) (hfn : Tryz.pinned.checked.prog.funcs[f]? = some fn) :
    false = Tryz.pinned.checked.prog.looks [] ∧ ∀ (j : Nat) t, fn.params[j]? = some t → Tryz.pinned.checked.prog.wantsStandIn t = false := by
  obtain rfl : f = 5 := Option.some.inj ((show Tryz.prog.funcNamed "refit/refitlaw23.ScanSplits" = some 5 by kernel_rfl).symm.trans hf) |>.symm
  obtain rfl : fn = Tryz.f5 := (Option.some.inj (Tryz.func5.symm.trans hfn)).symm
  refine ⟨by kernel_rfl, fun j t ht => ?_⟩
  rw [Tryz.params5] at ht
  have hm := Array.mem_of_getElem? ht
  simp only [List.mem_toArray, List.mem_cons, List.mem_nil_iff, or_false, or_self] at hm
  rcases hm with rfl | rfl | rfl
  · exact (show Tryz.prog.wantsStandIn 22 = false by kernel_rfl)
  · exact (show Tryz.prog.wantsStandIn 26 = false by kernel_rfl)
  · exact (show Tryz.prog.wantsStandIn 54 = false by kernel_rfl)

theorem card : Rows.ScanSplitsCardSaid :=
  Claim7.holds_tied_plain_at .later [] _ _ _ _ said (fun _ h => by cases h) (by kernel_rfl) (fun _ h => by cases h) scanSplits_row_tie rfl ⟨rfl, rfl⟩ (by kernel_rfl) rfl plain (by kernel_rfl)
end Go.Proofs.YthjmjoioagocdaaGreatDoor.fnScanSplits
