/-
  Decimal: what 'first' reaches; 'first' is true.
-/
import Derived.Test.YtllpobcecingiaaGreatDoorDp
set_option linter.unusedVariables false
set_option linter.unusedSimpArgs false
namespace Go.Proofs.YtllpobcecingiaaGreatDoor
open Go.RowKit

noncomputable def v_internal_stringslite_HasPrefix : PFn := evalFn [] ⟨[], []⟩ 300 Tryz.f139
theorem ok_internal_stringslite_HasPrefix : FOK NGd Wd 139 v_internal_stringslite_HasPrefix := evalFn_ok wokd allOK_nil Tryz.func139 rfl (by decide)
noncomputable def v_internal_stringslite_CutPrefix : PFn := evalFn [(139, v_internal_stringslite_HasPrefix)] ⟨[], []⟩ 300 Tryz.f117
theorem ok_internal_stringslite_CutPrefix : FOK NGd Wd 117 v_internal_stringslite_CutPrefix := evalFn_ok wokd (allOK_cons ok_internal_stringslite_HasPrefix allOK_nil) Tryz.func117 rfl (by decide)
noncomputable def v_strings_CutPrefix : PFn := evalFn [(117, v_internal_stringslite_CutPrefix)] ⟨[], []⟩ 300 Tryz.f82
theorem ok_strings_CutPrefix : FOK NGd Wd 82 v_strings_CutPrefix := evalFn_ok wokd (allOK_cons ok_internal_stringslite_CutPrefix allOK_nil) Tryz.func82 rfl (by decide)
noncomputable def v_internal_stringslite_IndexByte : PFn := evalFn [(169, p_IndexByteString)] ⟨[], []⟩ 300 Tryz.f155
theorem ok_internal_stringslite_IndexByte : FOK NGd Wd 155 v_internal_stringslite_IndexByte := evalFn_ok wokd (allOK_cons ok_IndexByteString allOK_nil) Tryz.func155 rfl (by decide)
noncomputable def v_internal_stringslite_Index : PFn := evalFn [(155, v_internal_stringslite_IndexByte)] ⟨[], [(1, ⟨[(0, false), (1, false), (5, false), (6, false), (7, false), (8, false), (9, false), (10, false)], []⟩)]⟩ 300 Tryz.f141
theorem ok_internal_stringslite_Index : FOK NGd Wd 141 v_internal_stringslite_Index := evalFn_ok wokd (allOK_cons ok_internal_stringslite_IndexByte allOK_nil) Tryz.func141 rfl (by decide)
noncomputable def v_internal_stringslite_Cut : PFn := evalFn [(141, v_internal_stringslite_Index)] ⟨[], []⟩ 300 Tryz.f119
theorem ok_internal_stringslite_Cut : FOK NGd Wd 119 v_internal_stringslite_Cut := evalFn_ok wokd (allOK_cons ok_internal_stringslite_Index allOK_nil) Tryz.func119 rfl (by decide)
noncomputable def v_strings_Cut : PFn := evalFn [(119, v_internal_stringslite_Cut)] ⟨[], []⟩ 300 Tryz.f84
theorem ok_strings_Cut : FOK NGd Wd 84 v_strings_Cut := evalFn_ok wokd (allOK_cons ok_internal_stringslite_Cut allOK_nil) Tryz.func84 rfl (by decide)
noncomputable def v_decimal_digits : PFn := evalFn [] ⟨[], [(0, ⟨[(0, false), (5, false), (6, false)], []⟩)]⟩ 300 Tryz.f85
theorem ok_decimal_digits : FOK NGd Wd 85 v_decimal_digits := evalFn_ok wokd allOK_nil Tryz.func85 rfl (by decide)
noncomputable def v_internal_strconv_Atoi : PFn := evalFn [] ⟨[], [(0, ⟨[(5, false), (6, false), (47, false), (48, false), (49, false)], []⟩)]⟩ 300 Tryz.f120
theorem ok_internal_strconv_Atoi : FOK NGd Wd 120 v_internal_strconv_Atoi := evalFn_ok wokd allOK_nil Tryz.func120 rfl (by decide)
noncomputable def v_strconv_Atoi : PFn := evalFn [(120, v_internal_strconv_Atoi)] ⟨[], []⟩ 300 Tryz.f86
theorem ok_strconv_Atoi : FOK NGd Wd 86 v_strconv_Atoi := evalFn_ok wokd (allOK_cons ok_internal_strconv_Atoi allOK_nil) Tryz.func86 rfl (by decide)
noncomputable def v_decimal_Parse : PFn := evalFn [(82, v_strings_CutPrefix), (84, v_strings_Cut), (85, v_decimal_digits), (86, v_strconv_Atoi)] ⟨[], []⟩ 300 Tryz.f58
theorem ok_decimal_Parse : FOK NGd Wd 58 v_decimal_Parse := evalFn_ok wokd (allOK_cons ok_strings_CutPrefix (allOK_cons ok_strings_Cut (allOK_cons ok_decimal_digits (allOK_cons ok_strconv_Atoi allOK_nil)))) Tryz.func58 rfl (by decide)
noncomputable def v_decimal_Right : PFn := evalFn [] ⟨[], []⟩ 300 Tryz.f53
theorem ok_decimal_Right : FOK NGd Wd 53 v_decimal_Right := evalFn_ok wokd allOK_nil Tryz.func53 rfl (by decide)
noncomputable def v_decimal_Print : PFn := evalFn [(53, v_decimal_Right), (82, v_strings_CutPrefix), (83, p_Itoa)] ⟨[], [(0, ⟨[(1, false), (5, false), (6, false)], []⟩)]⟩ 300 Tryz.f57
theorem ok_decimal_Print : FOK NGd Wd 57 v_decimal_Print := evalFn_ok wokd (allOK_cons ok_decimal_Right (allOK_cons ok_strings_CutPrefix (allOK_cons ok_Itoa allOK_nil))) Tryz.func57 rfl (by decide)
noncomputable def v_decimal_all : PFn := evalFn [(53, v_decimal_Right)] ⟨[], [(0, ⟨[(5, false), (6, false), (7, false)], []⟩)]⟩ 300 Tryz.f111
theorem ok_decimal_all : FOK NGd Wd 111 v_decimal_all := evalFn_ok wokd (allOK_cons ok_decimal_Right allOK_nil) Tryz.func111 rfl (by decide)
noncomputable def v_decimal_Rescale : PFn := evalFn [(111, v_decimal_all), (112, p_signed), (113, p_times), (114, p_size), (115, p_ten), (116, p_rounded)] ⟨[], []⟩ 300 Tryz.f81
theorem ok_decimal_Rescale : FOK NGd Wd 81 v_decimal_Rescale := evalFn_ok wokd (allOK_cons ok_decimal_all (allOK_cons ok_signed (allOK_cons ok_times (allOK_cons ok_size (allOK_cons ok_ten (allOK_cons ok_rounded allOK_nil)))))) Tryz.func81 rfl (by decide)
noncomputable def v_decimal_Mul : PFn := evalFn [(111, v_decimal_all), (112, p_signed), (113, p_times), (114, p_size), (115, p_ten), (116, p_rounded)] ⟨[], []⟩ 300 Tryz.f129
theorem ok_decimal_Mul : FOK NGd Wd 129 v_decimal_Mul := evalFn_ok wokd (allOK_cons ok_decimal_all (allOK_cons ok_signed (allOK_cons ok_times (allOK_cons ok_size (allOK_cons ok_ten (allOK_cons ok_rounded allOK_nil)))))) Tryz.func129 rfl (by decide)
noncomputable def v_decimal_Div : PFn := evalFn [(111, v_decimal_all), (112, p_signed), (113, p_times), (114, p_size), (115, p_ten), (116, p_rounded)] ⟨[], []⟩ 300 Tryz.f130
theorem ok_decimal_Div : FOK NGd Wd 130 v_decimal_Div := evalFn_ok wokd (allOK_cons ok_decimal_all (allOK_cons ok_signed (allOK_cons ok_times (allOK_cons ok_size (allOK_cons ok_ten (allOK_cons ok_rounded allOK_nil)))))) Tryz.func130 rfl (by decide)
end Go.Proofs.YtllpobcecingiaaGreatDoor
