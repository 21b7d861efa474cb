/-
  Nodes: what must be answered ahead of everything else (refitlaw22.first).
-/
import Derived.Test.YtelckbphbkebkaaGreatDoorVG
set_option linter.unusedVariables false
set_option linter.unusedSimpArgs false
set_option maxRecDepth 100000
namespace Go.Proofs.YtelckbphbkebkaaGreatDoor
open Go.RowKit

noncomputable def v_nanK : PFn := evalFn [] ⟨[], []⟩ 0 Tryz.f116
theorem ok_nanK : FOK NGc Wc 116 v_nanK := evalFn_ok wokc allOK_nil Tryz.func116 rfl (by decide)
noncomputable def v_cmpK : PFn := evalFn [(116, v_nanK)] ⟨[], []⟩ 0 Tryz.f80
theorem ok_cmpK : FOK NGc Wc 80 v_cmpK := evalFn_ok wokc (allOK_cons ok_nanK allOK_nil) Tryz.func80 rfl (by decide)
noncomputable def v_or : PFn := evalFn [] ⟨[], [(0, ⟨[(3, false), (6, false), (7, false), (8, false)], []⟩)]⟩ 6 Tryz.f78
theorem ok_orv : FOK NGc Wc 78 v_or := evalFn_ok wokc allOK_nil Tryz.func78 rfl (by decide)
noncomputable def v_ord : PFn := evalFn [(60, p_rt), (77, p_cls), (76, p_cmpI), (79, p_ins), (80, v_cmpK), (78, v_or)] ⟨[], []⟩ 0 Tryz.f43
theorem ok_ord : FOK NGc Wc 43 v_ord := evalFn_ok wokc (allOK_cons ok_rt (allOK_cons ok_cls (allOK_cons (fok_d ok_cmpI) (allOK_cons ok_ins (allOK_cons ok_cmpK (allOK_cons ok_orv allOK_nil)))))) Tryz.func43 rfl (by decide)
noncomputable def v_sadd : HFn := evalH [] [] [] ⟨[], []⟩ 0 Tryz.f44
theorem ok_sadd : HOK NGc Wc 44 v_sadd := evalH_ok wokc allOK_nil allH_nil allI_nil Tryz.func44 rfl (by decide)
noncomputable def v_sval : PFn := evalFn [] ⟨[], []⟩ 0 Tryz.f45
theorem ok_sval : FOK NGc Wc 45 v_sval := evalFn_ok wokc allOK_nil Tryz.func45 rfl (by decide)
noncomputable def v_tnew : HFn := evalH [] [] [] ⟨[], []⟩ 0 Tryz.f25
theorem ok_tnew : HOK NGc Wc 25 v_tnew := evalH_ok wokc allOK_nil allH_nil allI_nil Tryz.func25 rfl (by decide)
noncomputable def v_tadd : HFn := evalH [(10, p_ev (evGd 3)), (43, v_ord)] [(44, v_sadd)] [] ⟨[], []⟩ 0 Tryz.f26
theorem ok_tadd : HOK NGc Wc 26 v_tadd := evalH_ok wokc (allOK_cons (ok_ev 3) (allOK_cons ok_ord allOK_nil)) (allH_cons ok_sadd allH_nil) allI_nil Tryz.func26 rfl (by decide)
noncomputable def v_tval : HFn := evalH [(45, v_sval)] [] [] ⟨[], []⟩ 0 Tryz.f27
theorem ok_tval : HOK NGc Wc 27 v_tval := evalH_ok wokc (allOK_cons ok_sval allOK_nil) allH_nil allI_nil Tryz.func27 rfl (by decide)
noncomputable def v_num : PFn := evalFn [] ⟨[], []⟩ 0 Tryz.f24
theorem ok_vnum : FOK NGc Wc 24 v_num := evalFn_ok wokc allOK_nil Tryz.func24 rfl (by decide)
noncomputable def v_two : PFn := evalFn [] ⟨[], []⟩ 0 Tryz.f12
theorem ok_vtwo : FOK NGc Wc 12 v_two := evalFn_ok wokc allOK_nil Tryz.func12 rfl (by decide)
noncomputable def v_first22 : PFn := evalFH [(24, v_num), (12, v_two), (10, p_ev (evGd 3))] [(25, v_tnew), (26, v_tadd), (27, v_tval)] [] ⟨[], []⟩ 0 Tryz.f7
theorem ok_vfirst22 : FOK NGc Wc 7 v_first22 := evalFH_ok wokc (allOK_cons ok_vnum (allOK_cons ok_vtwo (allOK_cons (ok_ev 3) allOK_nil))) (allH_cons ok_tnew (allH_cons ok_tadd (allH_cons ok_tval allH_nil))) allI_nil Tryz.func7 rfl (by decide)
theorem first22_true : v_first22.F [] (R := PV) some = some (.bool true) := by kernel_rfl
def p_true0 : PFn := ⟨fun xs k => match xs with | [] => k (.bool true) | _ => none, false⟩
theorem ok_first22 : FOK NGc Wc 7 p_true0 := by
  refine fok_at ok_vfirst22 ?_ rfl ?_
  · intro R xs k
    simp only [p_true0]
    split <;> rfl
  · intro xs r h
    simp only [p_true0] at h
    split at h
    · rw [first22_true]; exact h
    · cases h

end Go.Proofs.YtelckbphbkebkaaGreatDoor
