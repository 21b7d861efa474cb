/-
  Plans: what must be answered ahead of everything else (refitlaw24.first); the law's run.
-/
import Derived.Test.YtelckbphbkebkaaGreatDoorQb
import Derived.Test.YtelckbphbkebkaaGreatDoorGr
set_option linter.unusedVariables false
set_option linter.unusedSimpArgs false
set_option maxRecDepth 100000
namespace Go.Proofs.YtelckbphbkebkaaGreatDoor
open Go.RowKit

noncomputable def v_qslices_Concat___api_Node_api_Node_ : PFn := evalFn [(109, p_grow)] ⟨[], [(2, ⟨[(6, true), (25, false), (26, false), (27, false)], []⟩), (0, ⟨[(0, false), (3, false), (9, false), (10, false), (11, false)], []⟩)]⟩ 40 Tryz.f67
theorem ok_qslices_Concat___api_Node_api_Node_ : FOK NGc Wc 67 v_qslices_Concat___api_Node_api_Node_ := evalFn_ok wokc (allOK_cons ok_grow allOK_nil) Tryz.func67 rfl (by decide)
noncomputable def v_qbind_Row : PFn := evalFn [] ⟨[], [(2, ⟨[(2, false), (5, true), (10, false), (11, false), (12, false), (30, false), (31, false), (32, false)], [2]⟩), (0, ⟨[(2, false), (5, true), (10, false), (11, false), (12, false)], [2]⟩)]⟩ 40 Tryz.f69
theorem ok_qbind_Row : FOK NGc Wc 69 v_qbind_Row := evalFn_ok wokc allOK_nil Tryz.func69 rfl (by decide)
noncomputable def v_qplan_place : PFn := evalFn [(69, v_qbind_Row)] ⟨[], []⟩ 40 Tryz.f70
theorem ok_qplan_place : FOK NGc Wc 70 v_qplan_place := evalFn_ok wokc (allOK_cons ok_qbind_Row allOK_nil) Tryz.func70 rfl (by decide)
noncomputable def v_qplan_parts : PFn := evalFn [] ⟨[], [(0, ⟨[(3, true), (6, false), (7, false), (8, false)], []⟩)]⟩ 40 Tryz.f72
theorem ok_qplan_parts : FOK NGc Wc 72 v_qplan_parts := evalFn_ok wokc allOK_nil Tryz.func72 rfl (by decide)
noncomputable def v_qplan_comparison : PFn := evalFn [(86, v_con6)] ⟨[], []⟩ 40 Tryz.f74
theorem ok_qplan_comparison : FOK NGc Wc 74 v_qplan_comparison := evalFn_ok wokc (allOK_cons ok_con6 allOK_nil) Tryz.func74 rfl (by decide)
noncomputable def v_qplan_turned : PFn := evalFn [] ⟨[], []⟩ 40 Tryz.f112
theorem ok_qplan_turned : FOK NGc Wc 112 v_qplan_turned := evalFn_ok wokc allOK_nil Tryz.func112 rfl (by decide)
noncomputable def v_qplan_hint : PFn := evalFn [(74, v_qplan_comparison), (112, v_qplan_turned)] ⟨[], []⟩ 40 Tryz.f73
theorem ok_qplan_hint : FOK NGc Wc 73 v_qplan_hint := evalFn_ok wokc (allOK_cons ok_qplan_comparison (allOK_cons ok_qplan_turned allOK_nil)) Tryz.func73 rfl (by decide)
noncomputable def v_qplan_Hints : PFn := evalFn [(51, p_of), (67, v_qslices_Concat___api_Node_api_Node_), (69, v_qbind_Row), (70, v_qplan_place), (72, v_qplan_parts), (73, v_qplan_hint)] ⟨[], [(0, ⟨[(7, false), (8, false), (9, true), (42, false), (43, false), (44, false)], []⟩)]⟩ 40 Tryz.f38
theorem ok_qplan_Hints : FOK NGc Wc 38 v_qplan_Hints := evalFn_ok wokc (allOK_cons ok_of (allOK_cons ok_qslices_Concat___api_Node_api_Node_ (allOK_cons ok_qbind_Row (allOK_cons ok_qplan_place (allOK_cons ok_qplan_parts (allOK_cons ok_qplan_hint allOK_nil)))))) Tryz.func38 rfl (by decide)
noncomputable def v_qplan_Accesses_1 : PFn := evalFn [(22, (p_qu (quS 3)))] ⟨[], []⟩ 40 Tryz.f68
theorem ok_qplan_Accesses_1 : FOK NGc Wc 68 v_qplan_Accesses_1 := evalFn_ok wokc (allOK_cons (ok_qu 3) allOK_nil) Tryz.func68 rfl (by decide)
noncomputable def v_qslices_IndexFunc___api_Node_api_Node_ : PFn := evalFn [(68, v_qplan_Accesses_1)] ⟨[], [(0, ⟨[(0, false), (1, false), (7, false), (8, false)], []⟩)]⟩ 40 Tryz.f75
theorem ok_qslices_IndexFunc___api_Node_api_Node_ : FOK NGc Wc 75 v_qslices_IndexFunc___api_Node_api_Node_ := evalFn_ok wokc (allOK_cons ok_qplan_Accesses_1 allOK_nil) Tryz.func75 rfl (by decide)
noncomputable def v_qslices_ContainsFunc___api_Node_api_Node_ : PFn := evalFn [(75, v_qslices_IndexFunc___api_Node_api_Node_)] ⟨[], []⟩ 40 Tryz.f40
theorem ok_qslices_ContainsFunc___api_Node_api_Node_ : FOK NGc Wc 40 v_qslices_ContainsFunc___api_Node_api_Node_ := evalFn_ok wokc (allOK_cons ok_qslices_IndexFunc___api_Node_api_Node_ allOK_nil) Tryz.func40 rfl (by decide)
noncomputable def v_q_plan_chooser__first : PFn := evalFn [(86, v_con6)] ⟨[], [(0, ⟨[(1, false), (2, false), (3, false), (6, false), (12, false), (13, false), (14, false)], [3, 6]⟩)]⟩ 40 Tryz.f139
theorem ok_q_plan_chooser__first : FOK NGc Wc 139 v_q_plan_chooser__first := evalFn_ok wokc (allOK_cons ok_con6 allOK_nil) Tryz.func139 rfl (by decide)
noncomputable def v_q_plan_chooser__rangeOf : PFn := evalFn [(139, v_q_plan_chooser__first)] ⟨[], [(0, ⟨[(2, false), (4, false), (5, false), (18, false), (19, false), (20, false)], [2, 4, 5]⟩)]⟩ 40 Tryz.f110
theorem ok_q_plan_chooser__rangeOf : FOK NGc Wc 110 v_q_plan_chooser__rangeOf := evalFn_ok wokc (allOK_cons ok_q_plan_chooser__first allOK_nil) Tryz.func110 rfl (by decide)
noncomputable def v_qplan_worth : PFn := evalFn [] ⟨[], []⟩ 40 Tryz.f111
theorem ok_qplan_worth : FOK NGc Wc 111 v_qplan_worth := evalFn_ok wokc allOK_nil Tryz.func111 rfl (by decide)
noncomputable def v_q_plan_chooser__access : PFn := evalFn [(110, v_q_plan_chooser__rangeOf), (111, v_qplan_worth)] ⟨[], [(0, ⟨[(3, false), (6, false), (7, false), (28, false), (29, false), (30, false)], [3, 6, 7]⟩)]⟩ 40 Tryz.f71
theorem ok_q_plan_chooser__access : FOK NGc Wc 71 v_q_plan_chooser__access := evalFn_ok wokc (allOK_cons ok_q_plan_chooser__rangeOf (allOK_cons ok_qplan_worth allOK_nil)) Tryz.func71 rfl (by decide)
noncomputable def v_qplan_Accesses : PFn := evalFn [(38, v_qplan_Hints), (40, v_qslices_ContainsFunc___api_Node_api_Node_), (67, v_qslices_Concat___api_Node_api_Node_), (69, v_qbind_Row), (70, v_qplan_place), (71, v_q_plan_chooser__access)] ⟨[], [(0, ⟨[(2, false), (3, false), (4, false), (7, false), (8, true), (20, false), (21, false), (22, false)], [3, 4]⟩)]⟩ 40 Tryz.f37
theorem ok_qplan_Accesses : FOK NGc Wc 37 v_qplan_Accesses := evalFn_ok wokc (allOK_cons ok_qplan_Hints (allOK_cons ok_qslices_ContainsFunc___api_Node_api_Node_ (allOK_cons ok_qslices_Concat___api_Node_api_Node_ (allOK_cons ok_qbind_Row (allOK_cons ok_qplan_place (allOK_cons ok_q_plan_chooser__access allOK_nil)))))) Tryz.func37 rfl (by decide)
noncomputable def v_qrefitlaw24_first : PFn := evalFn [(22, (p_qu (quS 3))), (37, v_qplan_Accesses), (38, v_qplan_Hints)] ⟨[], []⟩ 40 Tryz.f21
theorem ok_qrefitlaw24_first : FOK NGc Wc 21 v_qrefitlaw24_first := evalFn_ok wokc (allOK_cons (ok_qu 3) (allOK_cons ok_qplan_Accesses (allOK_cons ok_qplan_Hints allOK_nil))) Tryz.func21 rfl (by decide)
theorem first24_true : v_qrefitlaw24_first.F [] (R := PV) some = some (.bool true) := by kernel_rfl
theorem ok_first24 : FOK NGc Wc 21 p_true0 := by
  refine fok_at ok_qrefitlaw24_first ?_ rfl ?_
  · intro R xs k
    simp only [p_true0]
    split <;> rfl
  · intro xs r h
    simp only [p_true0] at h
    split at h
    · rw [first24_true]; exact h
    · cases h
end Go.Proofs.YtelckbphbkebkaaGreatDoor
