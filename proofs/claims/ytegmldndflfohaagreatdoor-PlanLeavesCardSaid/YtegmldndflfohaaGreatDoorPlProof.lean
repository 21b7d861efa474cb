/-
  PROVED: whatever schema, query and rows 'refitlaw24.PlanLeaves' is given, it returns true and leaves the memory that was there as it was. CONDITIONS: none beyond the row's own (some variables hold what the program's text lays: tied by the card).
-/
import Derived.Test.YtegmldndflfohaaGreatDoorTie
import Derived.Test.YtegmldndflfohaaGreatDoorCards
import Derived.Test.YtegmldndflfohaaGreatDoorPlLB
import Derived.Test.YtegmldndflfohaaGreatDoorPlYA
set_option linter.unusedVariables false
set_option linter.unusedSimpArgs false
set_option maxRecDepth 100000
namespace Go.Proofs.YtegmldndflfohaaGreatDoor.fnPlanLeaves
open Go.ChangeShapes Go.WideShapes Go.ChangeAt Go.RowKit

def wargs : Array Value := #[.agg #[.int .i64 0, .int .i64 0, .slice none 0 0], .agg #[.slice none 0 0, .slice none 0 0, .slice none 0 0, .bool false, .slice none 0 0, .slice none 0 0, .slice none 0 0, .slice none 0 0, .slice none 0 0, .int .i64 0], .slice none 0 0]
theorem reads (os : Os) {H : Type} (enc : TypeId × Value → H) : ∃ places, DataW.whole enc Tryz.prog ((laidWorld os).forCall (fun _ _ => 0) ⟨#[], wargs, []⟩).memory Tryz.f3.params.toList Rows.planLeavesSpec.vars false wargs.toList 8 = some ([.agg [.lit (.int .i64 0), .lit (.int .i64 0), .nil], .agg [.nil, .nil, .nil, .lit (.bool false), .nil, .nil, .nil, .nil, .nil, .lit (.int .i64 0)], .nil], [], places) :=
  ⟨[], by kernel_rfl⟩
theorem law (W : World) (v0 v1 v2 : Value) {x1 : SC.Scm} (A1 : ArgU W (.agg (SC.scmC x1)) v0) {x2 : Qy} (px2 : PQy x2) (A2 : ArgU W (.agg (qyC x2)) v1) {x3 : List SC.Rw} (px3 : ∀ r ∈ x3, SC.PRw r) (A3 : ArgU W (.sl none 2 x3.length (x3.flatMap SC.rwC)) v2) (hW : Wc W) :
    Calls Tryz.prog 3 #[v0, v1, v2] W fun e W' => e = .returned (.bool true) ∧ Below W.heap.size W W' := by
  obtain ⟨fu, h⟩ := lv_true x1.ver x1.next x1.nt x1.tbls none x2.js none x2.on none x2.wh x2.q none x3 (fun y hy => (px2.1 y hy).1) (fun y hy => (px2.2 y hy).1) (fun y hy => (px2.2 y hy).2) (fun r hr c hc => inI_iff.2 ((px3 r hr).2 c hc).2.2.1)
  exact law_runA (vs := [v0, v1, v2]) (xs := [.agg (SC.scmC x1), .agg (qyC x2), .sl none 2 x3.length (x3.flatMap SC.rwC)]) (h := hLv) wokc (ok_lLv 62 61 61 61) Tryz.func3 hW (wc_size hW) (.cons A1 (.cons A2 (.cons A3 .nil))) h

theorem contract (H : Type) (enc : TypeId × Value → H) (W : World) (base : Nat) (args : Array Value) (ds gs : List (DataW H)) (before : List MemPlace)
    (hval : ∀ (j : Nat) t v, Tryz.f3.params[j]? = some t → args[j]? = some v → Value.okWide Tryz.prog W .any base t v)
    (hW : DataW.Whole enc Tryz.prog Tryz.f3.params.toList Rows.planLeavesSpec.vars false W args.toList ds gs before) (hL : laidMetH Tryz.prog Rows.planLeavesRow.laid W) :
    Calls Tryz.prog 3 args W fun e W' => ∃ v, e = .returned v ∧ Rows.planLeavesSpec.post enc Tryz.prog Tryz.f3 false true false false W args v W' := by
  have hW' := hW
  obtain ⟨p, q, hA0, hV, rfl, hfz, hnd⟩ := hW
  have hA : DataW.TrodAll enc Tryz.prog W 0 (fun _ => true) true Tryz.f3.params.toList args.toList ds p := hA0
  rw [Tryz.params3] at hA hval
  obtain ⟨v0, vs0, d0, ds0, p0, q0, hargs, rfl, rfl, h0, r0⟩ := trodAll_cons hA
  obtain ⟨v1, vs1, d1, ds1, p1, q1, rfl, rfl, rfl, h1, r1⟩ := trodAll_cons r0
  obtain ⟨v2, vs2, d2, ds2, p2, q2, rfl, rfl, rfl, h2, r2⟩ := trodAll_cons r1
  obtain ⟨rfl, rfl, rfl⟩ := trodAll_nil r2
  obtain rfl : args = #[v0, v1, v2] := by cases args; simp_all
  obtain ⟨rfl, rfl⟩ := trodVars_none hV
  obtain ⟨x1, px1, A1⟩ := SC.arg_agg (f := SC.scmC) (Pa := SC.PScm) Tryz.underlying24 (hval 0 _ _ rfl rfl) h0 (fun n cs' y h => SC.Scm_tr h)
  obtain ⟨x2, px2, A2⟩ := SC.arg_agg (f := qyC) (Pa := PQy) Tryz.underlying31 (hval 1 _ _ rfl rfl) h1 (fun n cs' y h => Qy_tr h)
  obtain ⟨x3, px3, A3⟩ := SC.arg_sl (f := SC.rwC) (Pa := SC.PRw) (size := 2) (by omega) Tryz.underlying32 (by kernel_rfl) (SC.rwC_len) (hval 2 _ _ rfl rfl) h2 (fun n cs' y h => SC.Rw_tr h)
  clear hA0
  refine (law W v0 v1 v2 A1 px2 A2 px3 A3 (wc_of_laid hL)).mono fun e W' ⟨he, hg⟩ => ?_
  subst he
  exact ⟨_, rfl, law_post (by kernel_rfl) (of_decide_eq_true (by kernel_rfl)) Tryz.underlying4 rfl hW' rfl rfl rfl rfl hg⟩

set_option maxRecDepth 100000 in
theorem lifted (os : Os) (started : os.Started) (H : Type) (enc : TypeId × Value → H) (F : Stop.Interp) :
    ReturnsInHanded {} Tryz.checked os 3 .any ((OpenSpec.ofChange Rows.planLeavesSpec).preRow enc Tryz.prog Tryz.f3 Rows.planLeavesRow.domain false Rows.planLeavesRow.laid) (((OpenSpec.ofChange Rows.planLeavesSpec).at F).post enc Tryz.prog Tryz.f3 false true false false) := by
  obtain ⟨places, hx⟩ := reads os enc
  refine returnsInHanded_of_row (C := Tryz.checked) (s := OpenSpec.ofChange Rows.planLeavesSpec) own started (by kernel_rfl) Tryz.func3
    (witness_row_at (enc := enc) (C := Tryz.checked) false (laidWorld os) wargs rfl (by kernel_rfl) (by kernel_rfl) (by kernel_rfl)
      (OpenSpec.preRow_of_cond 8 hx (by kernel_rfl) (fun k hk => by cases hk) (by kernel_rfl) (laidWorld_met os wargs))) ?_
  intro W base args ds gs before hval hW _ _ _ hL _ _
  exact contract H enc W base args ds gs before hval hW hL

theorem said : Rows.PlanLeavesSaid :=
  OpenClaim.holds_of_cond 3 Tryz.f3 rfl rfl rfl rfl rfl rfl rfl ⟨rfl, rfl, rfl, rfl, rfl⟩ rfl rfl rfl rfl rfl (by kernel_rfl) Tryz.func3 (by kernel_rfl)
    (of_decide_eq_true (by kernel_rfl)) (by unfold Func.isWrapper; first | (rw [if_pos (by decide +kernel)]; kernel_rfl) | (rw [if_neg (by decide +kernel)]; exact ⟨rfl, rfl⟩))
    (fun os started H enc _ F => by rw [OpenClaim.pre_eq_preRow]; exact lifted os started H enc F)

theorem plain (f : FuncId) (fn : Func) (hf : Tryz.pinned.checked.prog.funcNamed "refit/refitlaw24.PlanLeaves" = some f) (hfn : Tryz.pinned.checked.prog.funcs[f]? = some fn) :
    true = Tryz.pinned.checked.prog.looks [] ∧ ∀ (j : Nat) t, fn.params[j]? = some t → Tryz.pinned.checked.prog.wantsStandIn t = false := by
  obtain rfl : f = 3 := Option.some.inj ((show Tryz.prog.funcNamed "refit/refitlaw24.PlanLeaves" = some 3 by kernel_rfl).symm.trans hf) |>.symm
  obtain rfl : fn = Tryz.f3 := (Option.some.inj (Tryz.func3.symm.trans hfn)).symm
  refine ⟨by kernel_rfl, fun j t ht => ?_⟩
  rw [Tryz.params3] at ht
  have hm := Array.mem_of_getElem? ht
  simp only [List.mem_toArray, List.mem_cons, List.mem_nil_iff, or_false, or_self] at hm
  rcases hm with rfl | rfl | rfl
  · exact (show Tryz.prog.wantsStandIn 24 = false by kernel_rfl)
  · exact (show Tryz.prog.wantsStandIn 31 = false by kernel_rfl)
  · exact (show Tryz.prog.wantsStandIn 32 = false by kernel_rfl)

theorem card : Rows.PlanLeavesCardSaid :=
  Claim7.holds_tied_plain_at .later [] _ _ _ _ said (fun _ h => by cases h) (by kernel_rfl) (fun _ h => by cases h) planLeaves_row_tie rfl ⟨rfl, rfl⟩ (by kernel_rfl) rfl plain (by kernel_rfl)
end Go.Proofs.YtegmldndflfohaaGreatDoor.fnPlanLeaves
