/-
  Decimal: what 'first' reaches; 'first' is true.
-/
import Derived.Test.YtelckbphbkebkaaGreatDoorDGl
set_option linter.unusedVariables false
set_option linter.unusedSimpArgs false
namespace Go.Proofs.YtelckbphbkebkaaGreatDoor
open Go.RowKit

noncomputable def v_internal_stringslite_HasPrefix : PFn := evalFn [] ⟨[], []⟩ 300 Tryz.f161
theorem ok_internal_stringslite_HasPrefix : FOK NGd Wd 161 v_internal_stringslite_HasPrefix := evalFn_ok wokd allOK_nil Tryz.func161 rfl (by decide)
noncomputable def v_internal_stringslite_CutPrefix : PFn := evalFn [(161, v_internal_stringslite_HasPrefix)] ⟨[], []⟩ 300 Tryz.f148
theorem ok_internal_stringslite_CutPrefix : FOK NGd Wd 148 v_internal_stringslite_CutPrefix := evalFn_ok wokd (allOK_cons ok_internal_stringslite_HasPrefix allOK_nil) Tryz.func148 rfl (by decide)
noncomputable def v_strings_CutPrefix : PFn := evalFn [(148, v_internal_stringslite_CutPrefix)] ⟨[], []⟩ 300 Tryz.f124
theorem ok_strings_CutPrefix : FOK NGd Wd 124 v_strings_CutPrefix := evalFn_ok wokd (allOK_cons ok_internal_stringslite_CutPrefix allOK_nil) Tryz.func124 rfl (by decide)
noncomputable def v_internal_stringslite_IndexByte : PFn := evalFn [(187, p_IndexByteString)] ⟨[], []⟩ 300 Tryz.f175
theorem ok_internal_stringslite_IndexByte : FOK NGd Wd 175 v_internal_stringslite_IndexByte := evalFn_ok wokd (allOK_cons ok_IndexByteString allOK_nil) Tryz.func175 rfl (by decide)
noncomputable def v_internal_stringslite_Index : PFn := evalFn [(175, v_internal_stringslite_IndexByte)] ⟨[], [(1, ⟨[(0, false), (1, false), (5, false), (6, false), (7, false), (8, false), (9, false), (10, false)], []⟩)]⟩ 300 Tryz.f163
theorem ok_internal_stringslite_Index : FOK NGd Wd 163 v_internal_stringslite_Index := evalFn_ok wokd (allOK_cons ok_internal_stringslite_IndexByte allOK_nil) Tryz.func163 rfl (by decide)
noncomputable def v_internal_stringslite_Cut : PFn := evalFn [(163, v_internal_stringslite_Index)] ⟨[], []⟩ 300 Tryz.f150
theorem ok_internal_stringslite_Cut : FOK NGd Wd 150 v_internal_stringslite_Cut := evalFn_ok wokd (allOK_cons ok_internal_stringslite_Index allOK_nil) Tryz.func150 rfl (by decide)
noncomputable def v_strings_Cut : PFn := evalFn [(150, v_internal_stringslite_Cut)] ⟨[], []⟩ 300 Tryz.f126
theorem ok_strings_Cut : FOK NGd Wd 126 v_strings_Cut := evalFn_ok wokd (allOK_cons ok_internal_stringslite_Cut allOK_nil) Tryz.func126 rfl (by decide)
noncomputable def v_decimal_digits : PFn := evalFn [] ⟨[], [(0, ⟨[(0, false), (5, false), (6, false)], []⟩)]⟩ 300 Tryz.f127
theorem ok_decimal_digits : FOK NGd Wd 127 v_decimal_digits := evalFn_ok wokd allOK_nil Tryz.func127 rfl (by decide)
noncomputable def v_internal_strconv_Atoi : PFn := evalFn [] ⟨[], [(0, ⟨[(5, false), (6, false), (47, false), (48, false), (49, false)], []⟩)]⟩ 300 Tryz.f151
theorem ok_internal_strconv_Atoi : FOK NGd Wd 151 v_internal_strconv_Atoi := evalFn_ok wokd allOK_nil Tryz.func151 rfl (by decide)
noncomputable def v_strconv_Atoi : PFn := evalFn [(151, v_internal_strconv_Atoi)] ⟨[], []⟩ 300 Tryz.f128
theorem ok_strconv_Atoi : FOK NGd Wd 128 v_strconv_Atoi := evalFn_ok wokd (allOK_cons ok_internal_strconv_Atoi allOK_nil) Tryz.func128 rfl (by decide)
noncomputable def v_decimal_Parse : PFn := evalFn [(124, v_strings_CutPrefix), (126, v_strings_Cut), (127, v_decimal_digits), (128, v_strconv_Atoi)] ⟨[], []⟩ 300 Tryz.f92
theorem ok_decimal_Parse : FOK NGd Wd 92 v_decimal_Parse := evalFn_ok wokd (allOK_cons ok_strings_CutPrefix (allOK_cons ok_strings_Cut (allOK_cons ok_decimal_digits (allOK_cons ok_strconv_Atoi allOK_nil)))) Tryz.func92 rfl (by decide)
noncomputable def v_decimal_Right : PFn := evalFn [] ⟨[], []⟩ 300 Tryz.f81
theorem ok_decimal_Right : FOK NGd Wd 81 v_decimal_Right := evalFn_ok wokd allOK_nil Tryz.func81 rfl (by decide)
noncomputable def v_decimal_Print : PFn := evalFn [(81, v_decimal_Right), (124, v_strings_CutPrefix), (125, p_Itoa)] ⟨[], [(0, ⟨[(1, false), (5, false), (6, false)], []⟩)]⟩ 300 Tryz.f91
theorem ok_decimal_Print : FOK NGd Wd 91 v_decimal_Print := evalFn_ok wokd (allOK_cons ok_decimal_Right (allOK_cons ok_strings_CutPrefix (allOK_cons ok_Itoa allOK_nil))) Tryz.func91 rfl (by decide)
noncomputable def v_decimal_all : PFn := evalFn [(81, v_decimal_Right)] ⟨[], [(0, ⟨[(5, false), (6, false), (7, false)], []⟩)]⟩ 300 Tryz.f140
theorem ok_decimal_all : FOK NGd Wd 140 v_decimal_all := evalFn_ok wokd (allOK_cons ok_decimal_Right allOK_nil) Tryz.func140 rfl (by decide)
noncomputable def v_decimal_Rescale : PFn := evalFn [(140, v_decimal_all), (146, p_signed), (141, p_times), (142, p_size), (143, p_ten), (147, p_rounded)] ⟨[], []⟩ 300 Tryz.f123
theorem ok_decimal_Rescale : FOK NGd Wd 123 v_decimal_Rescale := evalFn_ok wokd (allOK_cons ok_decimal_all (allOK_cons ok_signed (allOK_cons ok_times (allOK_cons ok_size (allOK_cons ok_ten (allOK_cons ok_rounded allOK_nil)))))) Tryz.func123 rfl (by decide)
noncomputable def v_decimal_Mul : PFn := evalFn [(140, v_decimal_all), (146, p_signed), (141, p_times), (142, p_size), (143, p_ten), (147, p_rounded)] ⟨[], []⟩ 300 Tryz.f120
theorem ok_decimal_Mul : FOK NGd Wd 120 v_decimal_Mul := evalFn_ok wokd (allOK_cons ok_decimal_all (allOK_cons ok_signed (allOK_cons ok_times (allOK_cons ok_size (allOK_cons ok_ten (allOK_cons ok_rounded allOK_nil)))))) Tryz.func120 rfl (by decide)
noncomputable def v_decimal_Div : PFn := evalFn [(140, v_decimal_all), (146, p_signed), (141, p_times), (142, p_size), (143, p_ten), (147, p_rounded)] ⟨[], []⟩ 300 Tryz.f121
theorem ok_decimal_Div : FOK NGd Wd 121 v_decimal_Div := evalFn_ok wokd (allOK_cons ok_decimal_all (allOK_cons ok_signed (allOK_cons ok_times (allOK_cons ok_size (allOK_cons ok_ten (allOK_cons ok_rounded allOK_nil)))))) Tryz.func121 rfl (by decide)
end Go.Proofs.YtelckbphbkebkaaGreatDoor
