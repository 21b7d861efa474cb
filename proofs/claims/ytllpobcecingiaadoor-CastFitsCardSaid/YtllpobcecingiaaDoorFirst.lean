/-
  Decimal: what 'first' reaches; 'first' is true.
-/
import Derived.Test.YtllpobcecingiaaDoorDp
set_option linter.unusedVariables false
set_option linter.unusedSimpArgs false
namespace Go.Proofs.YtllpobcecingiaaDoor
open Go.RowKit

noncomputable def v_internal_stringslite_HasPrefix : PFn := evalFn [] ⟨[], []⟩ 300 Tryd.f68
theorem ok_internal_stringslite_HasPrefix : FOK NGd Wd 68 v_internal_stringslite_HasPrefix := evalFn_ok wokd allOK_nil Tryd.func68 rfl (by decide)
noncomputable def v_internal_stringslite_CutPrefix : PFn := evalFn [(68, v_internal_stringslite_HasPrefix)] ⟨[], []⟩ 300 Tryd.f56
theorem ok_internal_stringslite_CutPrefix : FOK NGd Wd 56 v_internal_stringslite_CutPrefix := evalFn_ok wokd (allOK_cons ok_internal_stringslite_HasPrefix allOK_nil) Tryd.func56 rfl (by decide)
noncomputable def v_strings_CutPrefix : PFn := evalFn [(56, v_internal_stringslite_CutPrefix)] ⟨[], []⟩ 300 Tryd.f42
theorem ok_strings_CutPrefix : FOK NGd Wd 42 v_strings_CutPrefix := evalFn_ok wokd (allOK_cons ok_internal_stringslite_CutPrefix allOK_nil) Tryd.func42 rfl (by decide)
noncomputable def v_internal_stringslite_IndexByte : PFn := evalFn [(94, p_IndexByteString)] ⟨[], []⟩ 300 Tryd.f82
theorem ok_internal_stringslite_IndexByte : FOK NGd Wd 82 v_internal_stringslite_IndexByte := evalFn_ok wokd (allOK_cons ok_IndexByteString allOK_nil) Tryd.func82 rfl (by decide)
noncomputable def v_internal_stringslite_Index : PFn := evalFn [(82, v_internal_stringslite_IndexByte)] ⟨[], [(1, ⟨[(0, false), (1, false), (5, false), (6, false), (7, false), (8, false), (9, false), (10, false)], []⟩)]⟩ 300 Tryd.f70
theorem ok_internal_stringslite_Index : FOK NGd Wd 70 v_internal_stringslite_Index := evalFn_ok wokd (allOK_cons ok_internal_stringslite_IndexByte allOK_nil) Tryd.func70 rfl (by decide)
noncomputable def v_internal_stringslite_Cut : PFn := evalFn [(70, v_internal_stringslite_Index)] ⟨[], []⟩ 300 Tryd.f58
theorem ok_internal_stringslite_Cut : FOK NGd Wd 58 v_internal_stringslite_Cut := evalFn_ok wokd (allOK_cons ok_internal_stringslite_Index allOK_nil) Tryd.func58 rfl (by decide)
noncomputable def v_strings_Cut : PFn := evalFn [(58, v_internal_stringslite_Cut)] ⟨[], []⟩ 300 Tryd.f44
theorem ok_strings_Cut : FOK NGd Wd 44 v_strings_Cut := evalFn_ok wokd (allOK_cons ok_internal_stringslite_Cut allOK_nil) Tryd.func44 rfl (by decide)
noncomputable def v_decimal_digits : PFn := evalFn [] ⟨[], [(0, ⟨[(0, false), (5, false), (6, false)], []⟩)]⟩ 300 Tryd.f45
theorem ok_decimal_digits : FOK NGd Wd 45 v_decimal_digits := evalFn_ok wokd allOK_nil Tryd.func45 rfl (by decide)
noncomputable def v_internal_strconv_Atoi : PFn := evalFn [] ⟨[], [(0, ⟨[(5, false), (6, false), (47, false), (48, false), (49, false)], []⟩)]⟩ 300 Tryd.f59
theorem ok_internal_strconv_Atoi : FOK NGd Wd 59 v_internal_strconv_Atoi := evalFn_ok wokd allOK_nil Tryd.func59 rfl (by decide)
noncomputable def v_strconv_Atoi : PFn := evalFn [(59, v_internal_strconv_Atoi)] ⟨[], []⟩ 300 Tryd.f46
theorem ok_strconv_Atoi : FOK NGd Wd 46 v_strconv_Atoi := evalFn_ok wokd (allOK_cons ok_internal_strconv_Atoi allOK_nil) Tryd.func46 rfl (by decide)
noncomputable def v_decimal_Parse : PFn := evalFn [(42, v_strings_CutPrefix), (44, v_strings_Cut), (45, v_decimal_digits), (46, v_strconv_Atoi)] ⟨[], []⟩ 300 Tryd.f35
theorem ok_decimal_Parse : FOK NGd Wd 35 v_decimal_Parse := evalFn_ok wokd (allOK_cons ok_strings_CutPrefix (allOK_cons ok_strings_Cut (allOK_cons ok_decimal_digits (allOK_cons ok_strconv_Atoi allOK_nil)))) Tryd.func35 rfl (by decide)
noncomputable def v_decimal_Right : PFn := evalFn [] ⟨[], []⟩ 300 Tryd.f27
theorem ok_decimal_Right : FOK NGd Wd 27 v_decimal_Right := evalFn_ok wokd allOK_nil Tryd.func27 rfl (by decide)
noncomputable def v_decimal_Print : PFn := evalFn [(27, v_decimal_Right), (42, v_strings_CutPrefix), (43, p_Itoa)] ⟨[], [(0, ⟨[(1, false), (5, false), (6, false)], []⟩)]⟩ 300 Tryd.f34
theorem ok_decimal_Print : FOK NGd Wd 34 v_decimal_Print := evalFn_ok wokd (allOK_cons ok_decimal_Right (allOK_cons ok_strings_CutPrefix (allOK_cons ok_Itoa allOK_nil))) Tryd.func34 rfl (by decide)
noncomputable def v_decimal_all : PFn := evalFn [(27, v_decimal_Right)] ⟨[], [(0, ⟨[(5, false), (6, false), (7, false)], []⟩)]⟩ 300 Tryd.f47
theorem ok_decimal_all : FOK NGd Wd 47 v_decimal_all := evalFn_ok wokd (allOK_cons ok_decimal_Right allOK_nil) Tryd.func47 rfl (by decide)
noncomputable def v_decimal_Rescale : PFn := evalFn [(47, v_decimal_all), (54, p_signed), (48, p_times), (49, p_size), (50, p_ten), (55, p_rounded)] ⟨[], []⟩ 300 Tryd.f41
theorem ok_decimal_Rescale : FOK NGd Wd 41 v_decimal_Rescale := evalFn_ok wokd (allOK_cons ok_decimal_all (allOK_cons ok_signed (allOK_cons ok_times (allOK_cons ok_size (allOK_cons ok_ten (allOK_cons ok_rounded allOK_nil)))))) Tryd.func41 rfl (by decide)
end Go.Proofs.YtllpobcecingiaaDoor
