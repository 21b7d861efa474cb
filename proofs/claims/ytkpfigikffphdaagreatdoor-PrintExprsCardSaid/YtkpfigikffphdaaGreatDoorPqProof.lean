/-
  PROVED: whatever expression 'refitlaw20.PrintExprs' is given, it returns true and leaves the memory that was there as it was. CONDITIONS: none beyond the row's own (nine variables hold what the program's text lays: tied by the card).
-/
import Derived.Deep.DeepWitnessRowRef
import Derived.Test.YtkpfigikffphdaaGreatDoorPqKE
import Derived.Test.YtkpfigikffphdaaGreatDoorPqPD
set_option linter.unusedVariables false
set_option linter.unusedSimpArgs false
open Option.some renaming inj→Cr
namespace Go.Proofs.YtkpfigikffphdaaGreatDoor.fnPrintExprs
open Go.ChangeShapes Go.WideShapes Go.ChangeAt Go.RowKit
def wargs :Array Value := #[.agg #[.int .i64 0,.int .i64 0,.string ⟨#[]⟩,.int .i64 0,.int .i64 0,.int .i64 0,.string ⟨#[]⟩,.string ⟨#[]⟩,.string ⟨#[]⟩,.bool false,.int .i64 0,.int .i64 0,.slice none 0 0]]
theorem reads (os :Os) {H :Type} (enc :TypeId × Value->H) :∃places,DataW.whole enc Tryz.prog ((xU os).forCall (fun _ _ => 0) ⟨#[],wargs,[]⟩).memory Tryz.f7.params.toList Rows.printExprsSpec.vars false wargs.toList 8 =some ([.agg [.lit (.int .i64 0),.lit (.int .i64 0),.lit (.string []),.agg [.lit (.int .i64 0),.lit (.int .i64 0),.lit (.int .i64 0),.lit (.string [])],.lit (.string []),.lit (.string []),.lit (.bool false),.agg [.lit (.int .i64 0),.lit (.int .i64 0)],.nil]],[],places) :=
 ⟨[],by kernel_rfl⟩
set_option maxRecDepth 100000 in
theorem contract (H :Type) (enc :TypeId × Value->H) (W :World) (base :Nat) (args :Array Value) (ds gs :List (DataW H)) (before :List MemPlace)
  (hval :∀(j :Nat) t v,Tryz.f7.params[j]? =some t->args[j]? =some v->Value.okWide Tryz.prog W .any base t v)
  (hW :DataW.Whole enc Tryz.prog Tryz.f7.params.toList Rows.printExprsSpec.vars false W args.toList ds gs before) (hL :laidMetH Tryz.prog Rows.printExprsRow.laid W) (hsh :W.ShapedOpen Tryz.prog) :
  Calls Tryz.prog 7 args W fun e W' => ∃v,e = .returned v/\Rows.printExprsSpec.post enc Tryz.prog Tryz.f7 false true false false W args v W' :=by
 have hW' :=hW;obtain⟨p,q,hA0,hV,rfl,hfz,hnd⟩ :=hW;have hA :DataW.TrodAll enc Tryz.prog W 0 (fun _ => true) true Tryz.f7.params.toList args.toList ds p :=hA0;rw [Tryz.params7]at hA hval;obtain⟨v0,vs0,d0,ds0,p0,q0,hargs,rfl,rfl,h0,r0⟩ :=trodAll_cons hA;obtain⟨rfl,rfl,rfl⟩ :=trodAll_nil r0
 obtain rfl :args = #[v0] :=by cases args;simp_all
 obtain⟨rfl,rfl⟩ :=trodVars_none hV;obtain⟨x1,w1,A1⟩ :=C8c (hval 0 31 v0 rfl rfl) h0;clear hA0;refine(F17 W v0 w1 A1 (A47 hL hsh) (E3z (A47 hL hsh))).mono fun e W' ⟨he,hg⟩=> ?_;subst he;exact⟨_,rfl,D8k (by kernel_rfl) (of_decide_eq_true (by kernel_rfl)) Tryz.underlying4 rfl hW' rfl rfl rfl rfl hg⟩
set_option maxRecDepth 100000 in
theorem lifted (os :Os) (started :os.Started) (H :Type) (enc :TypeId × Value->H) (F :Stop.Interp) :
  ReturnsInHanded {} Tryz.checked os 7 .any ((OpenSpec.ofChange Rows.printExprsSpec).preRow enc Tryz.prog Tryz.f7 Rows.printExprsRow.domain false Rows.printExprsRow.laid) (((OpenSpec.ofChange Rows.printExprsSpec).at F).post enc Tryz.prog Tryz.f7 false true false false) :=by
 obtain⟨places,hx⟩ :=reads os enc;refine returnsInHanded_of_row (C :=Tryz.checked) (s :=OpenSpec.ofChange Rows.printExprsSpec) own started (by kernel_rfl) Tryz.func7
  (witness_row_atRef (enc :=enc) (C :=Tryz.checked) false (xU os) wargs rfl (by kernel_rfl) (by kernel_rfl) (by kernel_rfl)
   (OpenSpec.preRow_of_cond 8 hx (by kernel_rfl) (fun k hk => by cases hk) (by kernel_rfl) (A54 os wargs))) ?_
 intro W base args ds gs before hval hW _ _ _ hL hsh _;exact contract H enc W base args ds gs before hval hW hL hsh
theorem cInPlace :Rows.printExprsRow.inPlace =Program.inPlace Tryz.pinned.checked.prog 7 :=by kernel_rfl
theorem cUnf :Program.unfollowed Tryz.pinned.checked.prog 7 =true :=by kernel_rfl
theorem cRec :Program.recurses Tryz.pinned.checked.prog 7 =true :=by unfold Program.recurses;rw [cUnf];rfl
theorem cNamed :Rows.printExprsRow.named =Program.varsNamed Tryz.pinned.checked.prog 7 :=by kernel_rfl
theorem closed :joinedFacts Tryz.pinned.checked.prog 7 Tryz.f7 Rows.printExprsSpec Rows.printExprsRow =true :=by
 unfold joinedFacts;rw [<-cInPlace,cUnf,cRec,<-cNamed]
 kernel_rfl
theorem said :Rows.PrintExprsSaid :=
 OpenClaim.holds_of_cond 7 Tryz.f7 rfl rfl rfl rfl rfl rfl rfl ⟨rfl,rfl,rfl,rfl,rfl⟩ rfl rfl rfl rfl rfl (by kernel_rfl) Tryz.func7 closed
  (of_decide_eq_true (by kernel_rfl)) (by unfold Func.isWrapper;first |(rw [if_pos (by decide +kernel)];kernel_rfl) |(rw [if_neg (by decide +kernel)];exact⟨rfl,rfl⟩))
  (fun os started H enc _ F => by rw [OpenClaim.pre_eq_preRow];exact lifted os started H enc F)
theorem plain (f :FuncId) (fn :Func) (hf :Tryz.pinned.checked.prog.funcNamed "refit/refitlaw20.PrintExprs" =some f) (hfn :Tryz.pinned.checked.prog.funcs[f]? =some fn) :
  true =Tryz.pinned.checked.prog.looks []/\∀(j :Nat) t,fn.params[j]? =some t->Tryz.pinned.checked.prog.wantsStandIn t =false :=by
 obtain rfl :f =7 :=Cr ((show Tryz.prog.funcNamed "refit/refitlaw20.PrintExprs" =some 7 by kernel_rfl).symm.trans hf) |>.symm;obtain rfl :fn =Tryz.f7 :=(Cr (Tryz.func7.symm.trans hfn)).symm;refine⟨by kernel_rfl,fun j t ht => ?_⟩;rw [Tryz.params7]at ht;have hm :=Array.mem_of_getElem? ht;simp only [List.mem_toArray,List.mem_cons,List.mem_nil_iff,or_false]at hm;rcases hm with rfl
 ·exact(show Tryz.prog.wantsStandIn 31 =false by kernel_rfl)
theorem card :Rows.PrintExprsCardSaid :=
 Claim7.holds_tied_plain_at .later [] _ _ _ _ said (fun _ h => by cases h) (by kernel_rfl) (fun _ h => by cases h) printExprs_row_tie rfl ⟨rfl,rfl⟩ (by kernel_rfl) rfl plain (by kernel_rfl)
end Go.Proofs.YtkpfigikffphdaaGreatDoor.fnPrintExprs
