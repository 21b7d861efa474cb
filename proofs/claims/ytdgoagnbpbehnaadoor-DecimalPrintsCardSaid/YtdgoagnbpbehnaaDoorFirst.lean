/-
  Decimal: what 'first' reaches; 'first' is true.
-/
import Derived.Test.YtdgoagnbpbehnaaDoorDp
set_option linter.unusedVariables false
set_option linter.unusedSimpArgs false
namespace Go.Proofs.YtdgoagnbpbehnaaDoor
open Go.RowKit

noncomputable def v_internal_stringslite_HasPrefix : PFn := evalFn [] ⟨[], []⟩ 300 Tryd.f69
theorem ok_internal_stringslite_HasPrefix : FOK NGd Wd 69 v_internal_stringslite_HasPrefix := evalFn_ok wokd allOK_nil Tryd.func69 rfl (by decide)
noncomputable def v_internal_stringslite_CutPrefix : PFn := evalFn [(69, v_internal_stringslite_HasPrefix)] ⟨[], []⟩ 300 Tryd.f56
theorem ok_internal_stringslite_CutPrefix : FOK NGd Wd 56 v_internal_stringslite_CutPrefix := evalFn_ok wokd (allOK_cons ok_internal_stringslite_HasPrefix allOK_nil) Tryd.func56 rfl (by decide)
noncomputable def v_strings_CutPrefix : PFn := evalFn [(56, v_internal_stringslite_CutPrefix)] ⟨[], []⟩ 300 Tryd.f32
theorem ok_strings_CutPrefix : FOK NGd Wd 32 v_strings_CutPrefix := evalFn_ok wokd (allOK_cons ok_internal_stringslite_CutPrefix allOK_nil) Tryd.func32 rfl (by decide)
noncomputable def v_internal_stringslite_IndexByte : PFn := evalFn [(90, p_IndexByteString)] ⟨[], []⟩ 300 Tryd.f79
theorem ok_internal_stringslite_IndexByte : FOK NGd Wd 79 v_internal_stringslite_IndexByte := evalFn_ok wokd (allOK_cons ok_IndexByteString allOK_nil) Tryd.func79 rfl (by decide)
noncomputable def v_internal_stringslite_Index : PFn := evalFn [(79, v_internal_stringslite_IndexByte)] ⟨[], [(1, ⟨[(0, false), (1, false), (5, false), (6, false), (7, false), (8, false), (9, false), (10, false)], []⟩)]⟩ 300 Tryd.f70
theorem ok_internal_stringslite_Index : FOK NGd Wd 70 v_internal_stringslite_Index := evalFn_ok wokd (allOK_cons ok_internal_stringslite_IndexByte allOK_nil) Tryd.func70 rfl (by decide)
noncomputable def v_internal_stringslite_Cut : PFn := evalFn [(70, v_internal_stringslite_Index)] ⟨[], []⟩ 300 Tryd.f57
theorem ok_internal_stringslite_Cut : FOK NGd Wd 57 v_internal_stringslite_Cut := evalFn_ok wokd (allOK_cons ok_internal_stringslite_Index allOK_nil) Tryd.func57 rfl (by decide)
noncomputable def v_strings_Cut : PFn := evalFn [(57, v_internal_stringslite_Cut)] ⟨[], []⟩ 300 Tryd.f33
theorem ok_strings_Cut : FOK NGd Wd 33 v_strings_Cut := evalFn_ok wokd (allOK_cons ok_internal_stringslite_Cut allOK_nil) Tryd.func33 rfl (by decide)
noncomputable def v_decimal_digits : PFn := evalFn [] ⟨[], [(0, ⟨[(0, false), (5, false), (6, false)], []⟩)]⟩ 300 Tryd.f34
theorem ok_decimal_digits : FOK NGd Wd 34 v_decimal_digits := evalFn_ok wokd allOK_nil Tryd.func34 rfl (by decide)
noncomputable def v_internal_strconv_Atoi : PFn := evalFn [] ⟨[], [(0, ⟨[(5, false), (6, false), (47, false), (48, false), (49, false)], []⟩)]⟩ 300 Tryd.f58
theorem ok_internal_strconv_Atoi : FOK NGd Wd 58 v_internal_strconv_Atoi := evalFn_ok wokd allOK_nil Tryd.func58 rfl (by decide)
noncomputable def v_strconv_Atoi : PFn := evalFn [(58, v_internal_strconv_Atoi)] ⟨[], []⟩ 300 Tryd.f35
theorem ok_strconv_Atoi : FOK NGd Wd 35 v_strconv_Atoi := evalFn_ok wokd (allOK_cons ok_internal_strconv_Atoi allOK_nil) Tryd.func35 rfl (by decide)
noncomputable def v_decimal_Parse : PFn := evalFn [(32, v_strings_CutPrefix), (33, v_strings_Cut), (34, v_decimal_digits), (35, v_strconv_Atoi)] ⟨[], []⟩ 300 Tryd.f13
theorem ok_decimal_Parse : FOK NGd Wd 13 v_decimal_Parse := evalFn_ok wokd (allOK_cons ok_strings_CutPrefix (allOK_cons ok_strings_Cut (allOK_cons ok_decimal_digits (allOK_cons ok_strconv_Atoi allOK_nil)))) Tryd.func13 rfl (by decide)
noncomputable def v_decimal_Right : PFn := evalFn [] ⟨[], []⟩ 300 Tryd.f17
theorem ok_decimal_Right : FOK NGd Wd 17 v_decimal_Right := evalFn_ok wokd allOK_nil Tryd.func17 rfl (by decide)
noncomputable def v_decimal_Print : PFn := evalFn [(17, v_decimal_Right), (32, v_strings_CutPrefix), (38, p_Itoa)] ⟨[], [(0, ⟨[(1, false), (5, false), (6, false)], []⟩)]⟩ 300 Tryd.f15
theorem ok_decimal_Print : FOK NGd Wd 15 v_decimal_Print := evalFn_ok wokd (allOK_cons ok_decimal_Right (allOK_cons ok_strings_CutPrefix (allOK_cons ok_Itoa allOK_nil))) Tryd.func15 rfl (by decide)
noncomputable def v_decimal_all : PFn := evalFn [(17, v_decimal_Right)] ⟨[], [(0, ⟨[(5, false), (6, false), (7, false)], []⟩)]⟩ 300 Tryd.f40
theorem ok_decimal_all : FOK NGd Wd 40 v_decimal_all := evalFn_ok wokd (allOK_cons ok_decimal_Right allOK_nil) Tryd.func40 rfl (by decide)
noncomputable def v_decimal_Rescale : PFn := evalFn [(40, v_decimal_all), (41, p_signed), (42, p_times), (43, p_size), (44, p_ten), (45, p_rounded)] ⟨[], []⟩ 300 Tryd.f19
theorem ok_decimal_Rescale : FOK NGd Wd 19 v_decimal_Rescale := evalFn_ok wokd (allOK_cons ok_decimal_all (allOK_cons ok_signed (allOK_cons ok_times (allOK_cons ok_size (allOK_cons ok_ten (allOK_cons ok_rounded allOK_nil)))))) Tryd.func19 rfl (by decide)
noncomputable def v_decimal_Mul : PFn := evalFn [(40, v_decimal_all), (41, p_signed), (42, p_times), (43, p_size), (44, p_ten), (45, p_rounded)] ⟨[], []⟩ 300 Tryd.f21
theorem ok_decimal_Mul : FOK NGd Wd 21 v_decimal_Mul := evalFn_ok wokd (allOK_cons ok_decimal_all (allOK_cons ok_signed (allOK_cons ok_times (allOK_cons ok_size (allOK_cons ok_ten (allOK_cons ok_rounded allOK_nil)))))) Tryd.func21 rfl (by decide)
noncomputable def v_decimal_Div : PFn := evalFn [(40, v_decimal_all), (41, p_signed), (42, p_times), (43, p_size), (44, p_ten), (45, p_rounded)] ⟨[], []⟩ 300 Tryd.f23
theorem ok_decimal_Div : FOK NGd Wd 23 v_decimal_Div := evalFn_ok wokd (allOK_cons ok_decimal_all (allOK_cons ok_signed (allOK_cons ok_times (allOK_cons ok_size (allOK_cons ok_ten (allOK_cons ok_rounded allOK_nil)))))) Tryd.func23 rfl (by decide)
noncomputable def v_refitlaw02_first : PFn := evalFn [(13, v_decimal_Parse), (15, v_decimal_Print), (19, v_decimal_Rescale), (21, v_decimal_Mul), (23, v_decimal_Div)] ⟨[], []⟩ 300 Tryd.f12
theorem ok_refitlaw02_first : FOK NGd Wd 12 v_refitlaw02_first := evalFn_ok wokd (allOK_cons ok_decimal_Parse (allOK_cons ok_decimal_Print (allOK_cons ok_decimal_Rescale (allOK_cons ok_decimal_Mul (allOK_cons ok_decimal_Div allOK_nil))))) Tryd.func12 rfl (by decide)
theorem first_true : v_refitlaw02_first.F [] (R := PV) some = some (.bool true) := by kernel_rfl
end Go.Proofs.YtdgoagnbpbehnaaDoor
