/-
  PROVED: whatever index and two rows 'refitlaw13.IndexOrder' is given, it returns true and leaves the memory that was there as it was. CONDITIONS: none beyond the row's own (unicode/utf8's two tables hold what the program's text lays: tied by the card).
-/
import Derived.Test.YtclhnfalebiieaaDoorIall
set_option linter.unusedVariables false
set_option linter.unusedSimpArgs false
set_option maxRecDepth 100000
namespace Go.Proofs.YtclhnfalebiieaaDoor.fnIndexOrder
open Go.ChangeShapes Go.WideShapes Go.ChangeAt Go.RowKit

def wargs : Array Value := #[.agg #[.int .i64 0, .string ⟨#[]⟩, .slice none 0 0, .bool false, .int .i64 0], .agg #[.int .i64 0, .slice none 0 0], .agg #[.int .i64 0, .slice none 0 0]]
theorem laid_met (os : Os) : laidMet Tryd.prog Rows.indexOrderRow.laid ((laidWorld os).forCall (fun _ _ => 0) ⟨#[], wargs, []⟩).memory :=
  laidMet_of_run' 8 (by kernel_rfl) (by kernel_rfl)
theorem reads (os : Os) {H : Type} (enc : TypeId × Value → H) : ∃ places, DataW.whole enc Tryd.prog ((laidWorld os).forCall (fun _ _ => 0) ⟨#[], wargs, []⟩).memory Tryd.f9.params.toList Rows.indexOrderSpec.vars false wargs.toList 8 = some ([.agg [.lit (.int .i64 0), .lit (.string []), .nil, .lit (.bool false), .lit (.int .i64 0)], .agg [.lit (.int .i64 0), .nil], .agg [.lit (.int .i64 0), .nil]], [], places) :=
  ⟨[], by kernel_rfl⟩

theorem contract (H : Type) (enc : TypeId × Value → H) (W : World) (base : Nat) (args : Array Value) (ds gs : List (DataW H)) (before : List MemPlace)
    (hval : ∀ (j : Nat) t v, Tryd.f9.params[j]? = some t → args[j]? = some v → Value.okWide Tryd.prog W .any base t v)
    (hW : DataW.Whole enc Tryd.prog Tryd.f9.params.toList Rows.indexOrderSpec.vars false W args.toList ds gs before) (hL : laidMetH Tryd.prog Rows.indexOrderRow.laid W) :
    Calls Tryd.prog 9 args W fun e W' => ∃ v, e = .returned v ∧ Rows.indexOrderSpec.post enc Tryd.prog Tryd.f9 false true false false W args v W' := by
  have hW' := hW
  obtain ⟨p, q, hA0, hV, rfl, hfz, hnd⟩ := hW
  have hA : DataW.TrodAll enc Tryd.prog W 0 (fun _ => true) true Tryd.f9.params.toList args.toList ds p := hA0
  rw [Tryd.params9] at hA hval
  obtain ⟨v0, vs0, d0, ds0, p0, q0, hargs, rfl, rfl, h0, r0⟩ := trodAll_cons hA
  obtain ⟨v1, vs1, d1, ds1, p1, q1, rfl, rfl, rfl, h1, r1⟩ := trodAll_cons r0
  obtain ⟨v2, vs2, d2, ds2, p2, q2, rfl, rfl, rfl, h2, r2⟩ := trodAll_cons r1
  obtain ⟨rfl, rfl, rfl⟩ := trodAll_nil r2
  obtain rfl : args = #[v0, v1, v2] := by cases args; simp_all
  obtain ⟨rfl, rfl⟩ := trodVars_none hV
  obtain ⟨i1, s1, A1, n1, c1, l1, u1, t1, rfl, hs1, z1⟩ := open_index (hval 0 _ _ rfl rfl) h0
  obtain ⟨i2, A2, n2, c2, l2, rfl, b2, hs2, z2, hx2⟩ := open_row (hval 1 _ _ rfl rfl) h1
  obtain ⟨i3, A3, n3, c3, l3, rfl, b3, hs3, z3, hx3⟩ := open_row (hval 2 _ _ rfl rfl) h2
  clear hA0
  refine (indexOrderLaw W i1 s1 A1 n1 c1 l1 u1 t1 i2 A2 n2 c2 l2 i3 A3 n3 c3 l3 hs1 z1 b2 hs2 z2 hx2 b3 hs3 z3 hx3 (tabs_of_laid hL)).mono fun e W' ⟨he, hg⟩ => ?_
  subst he
  exact ⟨_, rfl, law_post (by kernel_rfl) (of_decide_eq_true (by kernel_rfl)) Tryd.underlying4 rfl hW' rfl rfl rfl rfl hg⟩

set_option maxRecDepth 100000 in
theorem lifted (os : Os) (started : os.Started) (H : Type) (enc : TypeId × Value → H) (F : Stop.Interp) :
    ReturnsInHanded {} Tryd.checked os 9 .any ((OpenSpec.ofChange Rows.indexOrderSpec).preRow enc Tryd.prog Tryd.f9 Rows.indexOrderRow.domain false Rows.indexOrderRow.laid) (((OpenSpec.ofChange Rows.indexOrderSpec).at F).post enc Tryd.prog Tryd.f9 false true false false) := by
  obtain ⟨places, hx⟩ := reads os enc
  refine returnsInHanded_of_row (C := Tryd.checked) (s := OpenSpec.ofChange Rows.indexOrderSpec) own started (by kernel_rfl) Tryd.func9
    (witness_row_at (enc := enc) (C := Tryd.checked) false (laidWorld os) wargs rfl (by kernel_rfl) (by kernel_rfl) (by kernel_rfl)
      (OpenSpec.preRow_of_cond 8 hx (by kernel_rfl) (fun k hk => by cases hk) (by kernel_rfl) (laid_met os))) ?_
  intro W base args ds gs before hval hW _ _ _ hL _ _
  exact contract H enc W base args ds gs before hval hW hL

theorem said : Rows.IndexOrderSaid :=
  OpenClaim.holds_of_cond 9 Tryd.f9 rfl rfl rfl rfl rfl rfl rfl ⟨rfl, rfl, rfl, rfl, rfl⟩ rfl rfl rfl rfl rfl (by kernel_rfl) Tryd.func9 (by kernel_rfl)
    (of_decide_eq_true (by kernel_rfl)) (by unfold Func.isWrapper; first | (rw [if_pos (by decide +kernel)]; kernel_rfl) | (rw [if_neg (by decide +kernel)]; exact ⟨rfl, rfl⟩))
    (fun os started H enc _ F => by rw [OpenClaim.pre_eq_preRow]; exact lifted os started H enc F)

theorem plain (f : FuncId) (fn : Func) (hf : Tryd.pinned.checked.prog.funcNamed "refit/refitlaw13.IndexOrder" = some f) (hfn : Tryd.pinned.checked.prog.funcs[f]? = some fn) :
    false = Tryd.pinned.checked.prog.looks [] ∧ ∀ (j : Nat) t, fn.params[j]? = some t → Tryd.pinned.checked.prog.wantsStandIn t = false := by
  obtain rfl : f = 9 := Option.some.inj ((show Tryd.prog.funcNamed "refit/refitlaw13.IndexOrder" = some 9 by kernel_rfl).symm.trans hf) |>.symm
  obtain rfl : fn = Tryd.f9 := (Option.some.inj (Tryd.func9.symm.trans hfn)).symm
  refine ⟨by kernel_rfl, fun j t ht => ?_⟩
  rw [Tryd.params9] at ht
  have hm := Array.mem_of_getElem? ht
  simp only [List.mem_toArray, List.mem_cons, List.mem_nil_iff, or_false, or_self] at hm
  rcases hm with rfl | rfl
  · exact (show Tryd.prog.wantsStandIn 50 = false by kernel_rfl)
  · exact (show Tryd.prog.wantsStandIn 53 = false by kernel_rfl)

theorem card : Rows.IndexOrderCardSaid :=
  Claim7.holds_tied_plain_at .later [] _ _ _ _ said (fun _ h => by cases h) (by kernel_rfl) (fun _ h => by cases h) indexOrder_row_tie rfl ⟨rfl, rfl⟩ (by kernel_rfl) rfl plain (by kernel_rfl)
end Go.Proofs.YtclhnfalebiieaaDoor.fnIndexOrder
