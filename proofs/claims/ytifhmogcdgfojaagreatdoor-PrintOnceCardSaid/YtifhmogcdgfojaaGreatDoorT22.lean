/- Several texts of this claim, joined. -/
import Derived.Test.YtifhmogcdgfojaaGreatDoorT21
import Derived.Test.YtifhmogcdgfojaaGreatDoorT13
import Derived.KernelRfl
import Derived.Test.YtifhmogcdgfojaaGreatDoorProg
import Derived.Test.YtifhmogcdgfojaaGreatDoorT15
import Derived.Test.YtifhmogcdgfojaaGreatDoorT18
set_option linter.unusedSimpArgs false
set_option linter.unusedVariables false

/- Each printed function is the program's: printed by gen.py. -/
namespace Go.Ev
open Go Go.Proofs
theorem ck3 : chkFn Tryz.prog chkDrawn Tryz.f3 cf_gobolaw14_PrintOnce = true := by kernel_rfl
theorem at3 : Tryz.prog.funcs[3]? = some Tryz.f3 := by kernel_rfl
theorem ck4 : chkFn Tryz.prog chkDrawn Tryz.f4 cf_gobolaw6_Make = true := by kernel_rfl
theorem at4 : Tryz.prog.funcs[4]? = some Tryz.f4 := by kernel_rfl
theorem ck5 : chkFn Tryz.prog chkDrawn Tryz.f5 cf_print_Re = true := by kernel_rfl
theorem at5 : Tryz.prog.funcs[5]? = some Tryz.f5 := by kernel_rfl
theorem ck6 : chkFn Tryz.prog chkDrawn Tryz.f6 cf_parse_Re = true := by kernel_rfl
theorem at6 : Tryz.prog.funcs[6]? = some Tryz.f6 := by kernel_rfl
theorem ck7 : chkFn Tryz.prog chkDrawn Tryz.f7 cf_gobolaw14_told = true := by kernel_rfl
theorem at7 : Tryz.prog.funcs[7]? = some Tryz.f7 := by kernel_rfl
theorem ck8 : chkFn Tryz.prog chkDrawn Tryz.f8 cf_regex_Same = true := by kernel_rfl
theorem at8 : Tryz.prog.funcs[8]? = some Tryz.f8 := by kernel_rfl
theorem ck9 : chkFn Tryz.prog chkDrawn Tryz.f9 cf_gobolaw6_One = true := by kernel_rfl
theorem at9 : Tryz.prog.funcs[9]? = some Tryz.f9 := by kernel_rfl
theorem ck10 : chkFn Tryz.prog chkDrawn Tryz.f10 cf_goboref6_May = true := by kernel_rfl
theorem at10 : Tryz.prog.funcs[10]? = some Tryz.f10 := by kernel_rfl
theorem ck11 : chkFn Tryz.prog chkDrawn Tryz.f11 cf_regex_May = true := by kernel_rfl
theorem at11 : Tryz.prog.funcs[11]? = some Tryz.f11 := by kernel_rfl
theorem ck12 : chkFn Tryz.prog chkDrawn Tryz.f12 cf_print_re = true := by kernel_rfl
theorem at12 : Tryz.prog.funcs[12]? = some Tryz.f12 := by kernel_rfl
theorem ck13 : chkFn Tryz.prog chkDrawn Tryz.f13 cf_word_Caught = true := by kernel_rfl
theorem at13 : Tryz.prog.funcs[13]? = some Tryz.f13 := by kernel_rfl
theorem ck14 : chkFn Tryz.prog chkDrawn Tryz.f14 cf_parse_Re_1 = true := by kernel_rfl
theorem at14 : Tryz.prog.funcs[14]? = some Tryz.f14 := by kernel_rfl
theorem ck15 : chkFn Tryz.prog chkDrawn Tryz.f15 cf_word_Read = true := by kernel_rfl
theorem at15 : Tryz.prog.funcs[15]? = some Tryz.f15 := by kernel_rfl
theorem ck16 : chkFn Tryz.prog chkDrawn Tryz.f16 cf_parse_regex_all = true := by kernel_rfl
theorem at16 : Tryz.prog.funcs[16]? = some Tryz.f16 := by kernel_rfl
theorem ck17 : chkFn Tryz.prog chkDrawn Tryz.f17 cf_word_Reader_Peek = true := by kernel_rfl
theorem at17 : Tryz.prog.funcs[17]? = some Tryz.f17 := by kernel_rfl
theorem ck18 : chkFn Tryz.prog chkDrawn Tryz.f18 cf_word_Fail = true := by kernel_rfl
theorem at18 : Tryz.prog.funcs[18]? = some Tryz.f18 := by kernel_rfl
theorem ck19 : chkFn Tryz.prog chkDrawn Tryz.f19 cf_word_Reader_At = true := by kernel_rfl
theorem at19 : Tryz.prog.funcs[19]? = some Tryz.f19 := by kernel_rfl
theorem ck20 : chkFn Tryz.prog chkDrawn Tryz.f20 cf_gobolaw11_Make = true := by kernel_rfl
theorem at20 : Tryz.prog.funcs[20]? = some Tryz.f20 := by kernel_rfl
theorem ck21 : chkFn Tryz.prog chkDrawn Tryz.f21 cf_print_Source = true := by kernel_rfl
theorem at21 : Tryz.prog.funcs[21]? = some Tryz.f21 := by kernel_rfl
theorem ck22 : chkFn Tryz.prog chkDrawn Tryz.f22 cf_print_Set = true := by kernel_rfl
theorem at22 : Tryz.prog.funcs[22]? = some Tryz.f22 := by kernel_rfl
theorem ck23 : chkFn Tryz.prog chkDrawn Tryz.f23 cf_print_Pat = true := by kernel_rfl
theorem at23 : Tryz.prog.funcs[23]? = some Tryz.f23 := by kernel_rfl
theorem ck24 : chkFn Tryz.prog chkDrawn Tryz.f24 cf_slices_Equal_api_Range_api_Range = true := by kernel_rfl
theorem at24 : Tryz.prog.funcs[24]? = some Tryz.f24 := by kernel_rfl
theorem ck25 : chkFn Tryz.prog chkDrawn Tryz.f25 cf_slices_EqualFunc_api_Re_api_Re_api_Re_api_Re = true := by kernel_rfl
theorem at25 : Tryz.prog.funcs[25]? = some Tryz.f25 := by kernel_rfl
theorem ck26 : chkFn Tryz.prog chkDrawn Tryz.f26 cf_goboref6_Count = true := by kernel_rfl
theorem at26 : Tryz.prog.funcs[26]? = some Tryz.f26 := by kernel_rfl
end Go.Ev
/- Each printed function is the program's: printed by gen.py. -/
namespace Go.Ev
open Go Go.Proofs
theorem ck27 : chkFn Tryz.prog chkDrawn Tryz.f27 cf_goboref6_parts = true := by kernel_rfl
theorem at27 : Tryz.prog.funcs[27]? = some Tryz.f27 := by kernel_rfl
theorem ck28 : chkFn Tryz.prog chkDrawn Tryz.f28 cf_regex_within = true := by kernel_rfl
theorem at28 : Tryz.prog.funcs[28]? = some Tryz.f28 := by kernel_rfl
theorem ck29 : chkFn Tryz.prog chkDrawn Tryz.f29 cf_regex_may = true := by kernel_rfl
theorem at29 : Tryz.prog.funcs[29]? = some Tryz.f29 := by kernel_rfl
theorem ck30 : chkFn Tryz.prog chkDrawn Tryz.f30 cf_print_re_1 = true := by kernel_rfl
theorem at30 : Tryz.prog.funcs[30]? = some Tryz.f30 := by kernel_rfl
theorem ck31 : chkFn Tryz.prog chkDrawn Tryz.f31 cf_print_within = true := by kernel_rfl
theorem at31 : Tryz.prog.funcs[31]? = some Tryz.f31 := by kernel_rfl
theorem ck32 : chkFn Tryz.prog chkDrawn Tryz.f32 cf_slices_Contains_int_int = true := by kernel_rfl
theorem at32 : Tryz.prog.funcs[32]? = some Tryz.f32 := by kernel_rfl
theorem ck33 : chkFn Tryz.prog chkDrawn Tryz.f33 cf_word_Caught_1 = true := by kernel_rfl
theorem at33 : Tryz.prog.funcs[33]? = some Tryz.f33 := by kernel_rfl
theorem ck34 : chkFn Tryz.prog chkDrawn Tryz.f34 cf_decode_All = true := by kernel_rfl
theorem at34 : Tryz.prog.funcs[34]? = some Tryz.f34 := by kernel_rfl
theorem ck35 : chkFn Tryz.prog chkDrawn Tryz.f35 cf_parse_regex_row = true := by kernel_rfl
theorem at35 : Tryz.prog.funcs[35]? = some Tryz.f35 := by kernel_rfl
theorem ck36 : chkFn Tryz.prog chkDrawn Tryz.f36 cf_word_Reader_Skip = true := by kernel_rfl
theorem at36 : Tryz.prog.funcs[36]? = some Tryz.f36 := by kernel_rfl
theorem ck37 : chkFn Tryz.prog chkDrawn Tryz.f37 cf_parse_two = true := by kernel_rfl
theorem at37 : Tryz.prog.funcs[37]? = some Tryz.f37 := by kernel_rfl
theorem ck40 : chkFn Tryz.prog chkDrawn Tryz.f40 cf_gram_Check = true := by kernel_rfl
theorem at40 : Tryz.prog.funcs[40]? = some Tryz.f40 := by kernel_rfl
theorem ck41 : chkFn Tryz.prog chkDrawn Tryz.f41 cf_print_none = true := by kernel_rfl
theorem at41 : Tryz.prog.funcs[41]? = some Tryz.f41 := by kernel_rfl
theorem ck42 : chkFn Tryz.prog chkDrawn Tryz.f42 cf_strings_Builder_WriteString = true := by kernel_rfl
theorem at42 : Tryz.prog.funcs[42]? = some Tryz.f42 := by kernel_rfl
theorem ck43 : chkFn Tryz.prog chkDrawn Tryz.f43 cf_strconv_Itoa = true := by kernel_rfl
theorem at43 : Tryz.prog.funcs[43]? = some Tryz.f43 := by kernel_rfl
theorem ck44 : chkFn Tryz.prog chkDrawn Tryz.f44 cf_print_names = true := by kernel_rfl
theorem at44 : Tryz.prog.funcs[44]? = some Tryz.f44 := by kernel_rfl
theorem ck45 : chkFn Tryz.prog chkDrawn Tryz.f45 cf_print_pat = true := by kernel_rfl
theorem at45 : Tryz.prog.funcs[45]? = some Tryz.f45 := by kernel_rfl
theorem ck46 : chkFn Tryz.prog chkDrawn Tryz.f46 cf_strings_Builder_Len = true := by kernel_rfl
theorem at46 : Tryz.prog.funcs[46]? = some Tryz.f46 := by kernel_rfl
theorem ck47 : chkFn Tryz.prog chkDrawn Tryz.f47 cf_strings_Builder_String = true := by kernel_rfl
theorem at47 : Tryz.prog.funcs[47]? = some Tryz.f47 := by kernel_rfl
theorem ck48 : chkFn Tryz.prog chkDrawn Tryz.f48 cf_print_one = true := by kernel_rfl
theorem at48 : Tryz.prog.funcs[48]? = some Tryz.f48 := by kernel_rfl
theorem ck49 : chkFn Tryz.prog chkDrawn Tryz.f49 cf_runes_Count = true := by kernel_rfl
theorem at49 : Tryz.prog.funcs[49]? = some Tryz.f49 := by kernel_rfl
theorem ck50 : chkFn Tryz.prog chkDrawn Tryz.f50 cf_gram_Shaped = true := by kernel_rfl
theorem at50 : Tryz.prog.funcs[50]? = some Tryz.f50 := by kernel_rfl
theorem ck51 : chkFn Tryz.prog chkDrawn Tryz.f51 cf_goboref6_count = true := by kernel_rfl
theorem at51 : Tryz.prog.funcs[51]? = some Tryz.f51 := by kernel_rfl
theorem ck52 : chkFn Tryz.prog chkDrawn Tryz.f52 cf_goboref3_May = true := by kernel_rfl
theorem at52 : Tryz.prog.funcs[52]? = some Tryz.f52 := by kernel_rfl
end Go.Ev
/- Each printed function is the program's: printed by gen.py. -/
namespace Go.Ev
open Go Go.Proofs
theorem ck53 : chkFn Tryz.prog chkDrawn Tryz.f53 cf_regex_within_1 = true := by kernel_rfl
theorem at53 : Tryz.prog.funcs[53]? = some Tryz.f53 := by kernel_rfl
theorem ck54 : chkFn Tryz.prog chkDrawn Tryz.f54 cf_slices_ContainsFunc_api_Re_api_Re = true := by kernel_rfl
theorem at54 : Tryz.prog.funcs[54]? = some Tryz.f54 := by kernel_rfl
theorem ck55 : chkFn Tryz.prog chkDrawn Tryz.f55 cf_regex_within_1_1 = true := by kernel_rfl
theorem at55 : Tryz.prog.funcs[55]? = some Tryz.f55 := by kernel_rfl
theorem ck56 : chkFn Tryz.prog chkDrawn Tryz.f56 cf_regex_parts = true := by kernel_rfl
theorem at56 : Tryz.prog.funcs[56]? = some Tryz.f56 := by kernel_rfl
theorem ck57 : chkFn Tryz.prog chkDrawn Tryz.f57 cf_regex_may_1 = true := by kernel_rfl
theorem at57 : Tryz.prog.funcs[57]? = some Tryz.f57 := by kernel_rfl
theorem ck58 : chkFn Tryz.prog chkDrawn Tryz.f58 cf_runes_May = true := by kernel_rfl
theorem at58 : Tryz.prog.funcs[58]? = some Tryz.f58 := by kernel_rfl
theorem ck59 : chkFn Tryz.prog chkDrawn Tryz.f59 cf_slices_Index_int_int = true := by kernel_rfl
theorem at59 : Tryz.prog.funcs[59]? = some Tryz.f59 := by kernel_rfl
theorem ck60 : chkFn Tryz.prog chkDrawn Tryz.f60 cf_decode_New = true := by kernel_rfl
theorem at60 : Tryz.prog.funcs[60]? = some Tryz.f60 := by kernel_rfl
theorem ck61 : chkFn Tryz.prog chkDrawn Tryz.f61 cf_decode_Dec_Feed = true := by kernel_rfl
theorem at61 : Tryz.prog.funcs[61]? = some Tryz.f61 := by kernel_rfl
theorem ck62 : chkFn Tryz.prog chkDrawn Tryz.f62 cf_decode_Dec_Close = true := by kernel_rfl
theorem at62 : Tryz.prog.funcs[62]? = some Tryz.f62 := by kernel_rfl
theorem ck63 : chkFn Tryz.prog chkDrawn Tryz.f63 cf_parse_regex_atom = true := by kernel_rfl
theorem at63 : Tryz.prog.funcs[63]? = some Tryz.f63 := by kernel_rfl
theorem ck64 : chkFn Tryz.prog chkDrawn Tryz.f64 cf_gram_caught = true := by kernel_rfl
theorem at64 : Tryz.prog.funcs[64]? = some Tryz.f64 := by kernel_rfl
theorem ck65 : chkFn Tryz.prog chkDrawn Tryz.f65 cf_gram_Check_1 = true := by kernel_rfl
theorem at65 : Tryz.prog.funcs[65]? = some Tryz.f65 := by kernel_rfl
theorem ck66 : chkFn Tryz.prog chkDrawn Tryz.f66 cf_gram_court_must = true := by kernel_rfl
theorem at66 : Tryz.prog.funcs[66]? = some Tryz.f66 := by kernel_rfl
theorem ck67 : chkFn Tryz.prog chkDrawn Tryz.f67 cf_gram_court_token = true := by kernel_rfl
theorem at67 : Tryz.prog.funcs[67]? = some Tryz.f67 := by kernel_rfl
theorem ck69 : chkFn Tryz.prog chkDrawn Tryz.f69 cf_strings_Builder_copyCheck = true := by kernel_rfl
theorem at69 : Tryz.prog.funcs[69]? = some Tryz.f69 := by kernel_rfl
theorem ck70 : chkFn Tryz.prog chkDrawn Tryz.f70 cf_strconv_Itoa_70 = true := by kernel_rfl
theorem at70 : Tryz.prog.funcs[70]? = some Tryz.f70 := by kernel_rfl
theorem ck71 : chkFn Tryz.prog chkDrawn Tryz.f71 cf_strings_Join = true := by kernel_rfl
theorem at71 : Tryz.prog.funcs[71]? = some Tryz.f71 := by kernel_rfl
theorem ck72 : chkFn Tryz.prog chkDrawn Tryz.f72 cf_print_pat_1 = true := by kernel_rfl
theorem at72 : Tryz.prog.funcs[72]? = some Tryz.f72 := by kernel_rfl
theorem ck73 : chkFn Tryz.prog chkDrawn Tryz.f73 cf_strings_ToUpper = true := by kernel_rfl
theorem at73 : Tryz.prog.funcs[73]? = some Tryz.f73 := by kernel_rfl
theorem ck74 : chkFn Tryz.prog chkDrawn Tryz.f74 cf_strconv_FormatInt = true := by kernel_rfl
theorem at74 : Tryz.prog.funcs[74]? = some Tryz.f74 := by kernel_rfl
theorem ck75 : chkFn Tryz.prog chkDrawn Tryz.f75 cf_runes_spans = true := by kernel_rfl
theorem at75 : Tryz.prog.funcs[75]? = some Tryz.f75 := by kernel_rfl
theorem ck76 : chkFn Tryz.prog chkDrawn Tryz.f76 cf_gram_Shaped_1 = true := by kernel_rfl
theorem at76 : Tryz.prog.funcs[76]? = some Tryz.f76 := by kernel_rfl
theorem ck77 : chkFn Tryz.prog chkDrawn Tryz.f77 cf_gram_shaped = true := by kernel_rfl
theorem at77 : Tryz.prog.funcs[77]? = some Tryz.f77 := by kernel_rfl
end Go.Ev
/- Each printed function is the program's: printed by gen.py. -/
namespace Go.Ev
open Go Go.Proofs
theorem ck78 : chkFn Tryz.prog chkDrawn Tryz.f78 cf_slices_ContainsFunc_api_Pat_api_Pat = true := by kernel_rfl
theorem at78 : Tryz.prog.funcs[78]? = some Tryz.f78 := by kernel_rfl
theorem ck79 : chkFn Tryz.prog chkDrawn Tryz.f79 cf_gram_Shaped_1_1 = true := by kernel_rfl
theorem at79 : Tryz.prog.funcs[79]? = some Tryz.f79 := by kernel_rfl
theorem ck80 : chkFn Tryz.prog chkDrawn Tryz.f80 cf_gram_few = true := by kernel_rfl
theorem at80 : Tryz.prog.funcs[80]? = some Tryz.f80 := by kernel_rfl
theorem ck81 : chkFn Tryz.prog chkDrawn Tryz.f81 cf_goboref3_Same = true := by kernel_rfl
theorem at81 : Tryz.prog.funcs[81]? = some Tryz.f81 := by kernel_rfl
theorem ck82 : chkFn Tryz.prog chkDrawn Tryz.f82 cf_goboref3_Norm = true := by kernel_rfl
theorem at82 : Tryz.prog.funcs[82]? = some Tryz.f82 := by kernel_rfl
theorem ck83 : chkFn Tryz.prog chkDrawn Tryz.f83 cf_slices_IndexFunc_api_Re_api_Re = true := by kernel_rfl
theorem at83 : Tryz.prog.funcs[83]? = some Tryz.f83 := by kernel_rfl
theorem ck84 : chkFn Tryz.prog chkDrawn Tryz.f84 cf_runes_Norm = true := by kernel_rfl
theorem at84 : Tryz.prog.funcs[84]? = some Tryz.f84 := by kernel_rfl
theorem ck85 : chkFn Tryz.prog chkDrawn Tryz.f85 cf_decode_Dec_take = true := by kernel_rfl
theorem at85 : Tryz.prog.funcs[85]? = some Tryz.f85 := by kernel_rfl
theorem ck86 : chkFn Tryz.prog chkDrawn Tryz.f86 cf_decode_Dec_taken = true := by kernel_rfl
theorem at86 : Tryz.prog.funcs[86]? = some Tryz.f86 := by kernel_rfl
theorem ck87 : chkFn Tryz.prog chkDrawn Tryz.f87 cf_decode_Dec_tell = true := by kernel_rfl
theorem at87 : Tryz.prog.funcs[87]? = some Tryz.f87 := by kernel_rfl
theorem ck88 : chkFn Tryz.prog chkDrawn Tryz.f88 cf_word_Reader_Must = true := by kernel_rfl
theorem at88 : Tryz.prog.funcs[88]? = some Tryz.f88 := by kernel_rfl
theorem ck89 : chkFn Tryz.prog chkDrawn Tryz.f89 cf_word_Reader_Class = true := by kernel_rfl
theorem at89 : Tryz.prog.funcs[89]? = some Tryz.f89 := by kernel_rfl
theorem ck90 : chkFn Tryz.prog chkDrawn Tryz.f90 cf_parse_set = true := by kernel_rfl
theorem at90 : Tryz.prog.funcs[90]? = some Tryz.f90 := by kernel_rfl
theorem ck91 : chkFn Tryz.prog chkDrawn Tryz.f91 cf_runes_Not = true := by kernel_rfl
theorem at91 : Tryz.prog.funcs[91]? = some Tryz.f91 := by kernel_rfl
theorem ck92 : chkFn Tryz.prog chkDrawn Tryz.f92 cf_word_Reader_Rune = true := by kernel_rfl
theorem at92 : Tryz.prog.funcs[92]? = some Tryz.f92 := by kernel_rfl
theorem ck93 : chkFn Tryz.prog chkDrawn Tryz.f93 cf_gram_caught_1 = true := by kernel_rfl
theorem at93 : Tryz.prog.funcs[93]? = some Tryz.f93 := by kernel_rfl
theorem ck94 : chkFn Tryz.prog chkDrawn Tryz.f94 cf_gram_Name = true := by kernel_rfl
theorem at94 : Tryz.prog.funcs[94]? = some Tryz.f94 := by kernel_rfl
theorem ck95 : chkFn Tryz.prog chkDrawn Tryz.f95 cf_gram_Find = true := by kernel_rfl
theorem at95 : Tryz.prog.funcs[95]? = some Tryz.f95 := by kernel_rfl
theorem ck96 : chkFn Tryz.prog chkDrawn Tryz.f96 cf_gram_court_class = true := by kernel_rfl
theorem at96 : Tryz.prog.funcs[96]? = some Tryz.f96 := by kernel_rfl
theorem ck97 : chkFn Tryz.prog chkDrawn Tryz.f97 cf_regex_Empty = true := by kernel_rfl
theorem at97 : Tryz.prog.funcs[97]? = some Tryz.f97 := by kernel_rfl
theorem ck101 : chkFn Tryz.prog chkDrawn Tryz.f101 cf_strconv_FormatInt_101 = true := by kernel_rfl
theorem at101 : Tryz.prog.funcs[101]? = some Tryz.f101 := by kernel_rfl
theorem ck102 : chkFn Tryz.prog chkDrawn Tryz.f102 cf_strings_Builder_Grow = true := by kernel_rfl
theorem at102 : Tryz.prog.funcs[102]? = some Tryz.f102 := by kernel_rfl
theorem ck103 : chkFn Tryz.prog chkDrawn Tryz.f103 cf_strings_Builder_WriteByte = true := by kernel_rfl
theorem at103 : Tryz.prog.funcs[103]? = some Tryz.f103 := by kernel_rfl
theorem ck106 : chkFn Tryz.prog chkDrawn Tryz.f106 cf_runes_number = true := by kernel_rfl
theorem at106 : Tryz.prog.funcs[106]? = some Tryz.f106 := by kernel_rfl
end Go.Ev
/- Each printed function is the program's: printed by gen.py. -/
namespace Go.Ev
open Go Go.Proofs
theorem ck107 : chkFn Tryz.prog chkDrawn Tryz.f107 cf_runes_behind = true := by kernel_rfl
theorem at107 : Tryz.prog.funcs[107]? = some Tryz.f107 := by kernel_rfl
theorem ck108 : chkFn Tryz.prog chkDrawn Tryz.f108 cf_slices_SortFunc_runes_span_runes_span = true := by kernel_rfl
theorem at108 : Tryz.prog.funcs[108]? = some Tryz.f108 := by kernel_rfl
theorem ck109 : chkFn Tryz.prog chkDrawn Tryz.f109 cf_runes_spans_1 = true := by kernel_rfl
theorem at109 : Tryz.prog.funcs[109]? = some Tryz.f109 := by kernel_rfl
theorem ck110 : chkFn Tryz.prog chkDrawn Tryz.f110 cf_cmp_Compare_int = true := by kernel_rfl
theorem at110 : Tryz.prog.funcs[110]? = some Tryz.f110 := by kernel_rfl
theorem ck111 : chkFn Tryz.prog chkDrawn Tryz.f111 cf_gram_parts = true := by kernel_rfl
theorem at111 : Tryz.prog.funcs[111]? = some Tryz.f111 := by kernel_rfl
theorem ck112 : chkFn Tryz.prog chkDrawn Tryz.f112 cf_slices_IndexFunc_api_Pat_api_Pat = true := by kernel_rfl
theorem at112 : Tryz.prog.funcs[112]? = some Tryz.f112 := by kernel_rfl
theorem ck113 : chkFn Tryz.prog chkDrawn Tryz.f113 cf_gram_few_1 = true := by kernel_rfl
theorem at113 : Tryz.prog.funcs[113]? = some Tryz.f113 := by kernel_rfl
theorem ck114 : chkFn Tryz.prog chkDrawn Tryz.f114 cf_gram_few_1_1 = true := by kernel_rfl
theorem at114 : Tryz.prog.funcs[114]? = some Tryz.f114 := by kernel_rfl
theorem ck115 : chkFn Tryz.prog chkDrawn Tryz.f115 cf_goboref3_pick = true := by kernel_rfl
theorem at115 : Tryz.prog.funcs[115]? = some Tryz.f115 := by kernel_rfl
theorem ck116 : chkFn Tryz.prog chkDrawn Tryz.f116 cf_goboref3_cells = true := by kernel_rfl
theorem at116 : Tryz.prog.funcs[116]? = some Tryz.f116 := by kernel_rfl
theorem ck117 : chkFn Tryz.prog chkDrawn Tryz.f117 cf_runes_ranges = true := by kernel_rfl
theorem at117 : Tryz.prog.funcs[117]? = some Tryz.f117 := by kernel_rfl
theorem ck118 : chkFn Tryz.prog chkDrawn Tryz.f118 cf_decode_Dec_more = true := by kernel_rfl
theorem at118 : Tryz.prog.funcs[118]? = some Tryz.f118 := by kernel_rfl
theorem ck119 : chkFn Tryz.prog chkDrawn Tryz.f119 cf_utf8_DecodeRune = true := by kernel_rfl
theorem at119 : Tryz.prog.funcs[119]? = some Tryz.f119 := by kernel_rfl
theorem ck120 : chkFn Tryz.prog chkDrawn Tryz.f120 cf_runes_Not_1 = true := by kernel_rfl
theorem at120 : Tryz.prog.funcs[120]? = some Tryz.f120 := by kernel_rfl
theorem ck121 : chkFn Tryz.prog chkDrawn Tryz.f121 cf_word_hasRune = true := by kernel_rfl
theorem at121 : Tryz.prog.funcs[121]? = some Tryz.f121 := by kernel_rfl
theorem ck122 : chkFn Tryz.prog chkDrawn Tryz.f122 cf_word_Reader_number = true := by kernel_rfl
theorem at122 : Tryz.prog.funcs[122]? = some Tryz.f122 := by kernel_rfl
theorem ck123 : chkFn Tryz.prog chkDrawn Tryz.f123 cf_slices_Contains_string_string = true := by kernel_rfl
theorem at123 : Tryz.prog.funcs[123]? = some Tryz.f123 := by kernel_rfl
theorem ck124 : chkFn Tryz.prog chkDrawn Tryz.f124 cf_slices_IndexFunc_api_Token_api_Token = true := by kernel_rfl
theorem at124 : Tryz.prog.funcs[124]? = some Tryz.f124 := by kernel_rfl
theorem ck125 : chkFn Tryz.prog chkDrawn Tryz.f125 cf_gram_Find_1 = true := by kernel_rfl
theorem at125 : Tryz.prog.funcs[125]? = some Tryz.f125 := by kernel_rfl
theorem ck126 : chkFn Tryz.prog chkDrawn Tryz.f126 cf_regex_empty = true := by kernel_rfl
theorem at126 : Tryz.prog.funcs[126]? = some Tryz.f126 := by kernel_rfl
theorem ck128 : chkFn Tryz.prog chkDrawn Tryz.f128 cf_strconv_small = true := by kernel_rfl
theorem at128 : Tryz.prog.funcs[128]? = some Tryz.f128 := by kernel_rfl
theorem ck131 : chkFn Tryz.prog chkDrawn Tryz.f131 cf_strconv_formatBits = true := by kernel_rfl
theorem at131 : Tryz.prog.funcs[131]? = some Tryz.f131 := by kernel_rfl
theorem ck132 : chkFn Tryz.prog chkDrawn Tryz.f132 cf_strings_Builder_grow = true := by kernel_rfl
theorem at132 : Tryz.prog.funcs[132]? = some Tryz.f132 := by kernel_rfl
theorem ck138 : chkFn Tryz.prog chkDrawn Tryz.f138 cf_runes_is = true := by kernel_rfl
theorem at138 : Tryz.prog.funcs[138]? = some Tryz.f138 := by kernel_rfl
end Go.Ev
/- Each printed function is the program's: printed by gen.py. -/
namespace Go.Ev
open Go Go.Proofs
theorem ck139 : chkFn Tryz.prog chkDrawn Tryz.f139 cf_slices_pdqsortCmpFunc_runes_span = true := by kernel_rfl
theorem at139 : Tryz.prog.funcs[139]? = some Tryz.f139 := by kernel_rfl
theorem ck140 : chkFn Tryz.prog chkDrawn Tryz.f140 cf_bits_Len = true := by kernel_rfl
theorem at140 : Tryz.prog.funcs[140]? = some Tryz.f140 := by kernel_rfl
theorem ck141 : chkFn Tryz.prog chkDrawn Tryz.f141 cf_cmp_isNaN_int = true := by kernel_rfl
theorem at141 : Tryz.prog.funcs[141]? = some Tryz.f141 := by kernel_rfl
theorem ck142 : chkFn Tryz.prog chkDrawn Tryz.f142 cf_goboref3_cuts = true := by kernel_rfl
theorem at142 : Tryz.prog.funcs[142]? = some Tryz.f142 := by kernel_rfl
theorem ck143 : chkFn Tryz.prog chkDrawn Tryz.f143 cf_goboref3_in = true := by kernel_rfl
theorem at143 : Tryz.prog.funcs[143]? = some Tryz.f143 := by kernel_rfl
theorem ck144 : chkFn Tryz.prog chkDrawn Tryz.f144 cf_goboref3_at = true := by kernel_rfl
theorem at144 : Tryz.prog.funcs[144]? = some Tryz.f144 := by kernel_rfl
theorem ck145 : chkFn Tryz.prog chkDrawn Tryz.f145 cf_goboref3_place = true := by kernel_rfl
theorem at145 : Tryz.prog.funcs[145]? = some Tryz.f145 := by kernel_rfl
theorem ck146 : chkFn Tryz.prog chkDrawn Tryz.f146 cf_runes_value = true := by kernel_rfl
theorem at146 : Tryz.prog.funcs[146]? = some Tryz.f146 := by kernel_rfl
theorem ck147 : chkFn Tryz.prog chkDrawn Tryz.f147 cf_decode_Dec_more_1 = true := by kernel_rfl
theorem at147 : Tryz.prog.funcs[147]? = some Tryz.f147 := by kernel_rfl
theorem ck148 : chkFn Tryz.prog chkDrawn Tryz.f148 cf_decode_grow = true := by kernel_rfl
theorem at148 : Tryz.prog.funcs[148]? = some Tryz.f148 := by kernel_rfl
theorem ck149 : chkFn Tryz.prog chkDrawn Tryz.f149 cf_decode_long = true := by kernel_rfl
theorem at149 : Tryz.prog.funcs[149]? = some Tryz.f149 := by kernel_rfl
theorem ck150 : chkFn Tryz.prog chkDrawn Tryz.f150 cf_utf8_decodeRuneSlow = true := by kernel_rfl
theorem at150 : Tryz.prog.funcs[150]? = some Tryz.f150 := by kernel_rfl
theorem ck151 : chkFn Tryz.prog chkDrawn Tryz.f151 cf_word_hex = true := by kernel_rfl
theorem at151 : Tryz.prog.funcs[151]? = some Tryz.f151 := by kernel_rfl
theorem ck152 : chkFn Tryz.prog chkDrawn Tryz.f152 cf_slices_Index_string_string = true := by kernel_rfl
theorem at152 : Tryz.prog.funcs[152]? = some Tryz.f152 := by kernel_rfl
theorem ck154 : chkFn Tryz.prog chkDrawn Tryz.f154 cf_bits_Len64 = true := by kernel_rfl
theorem at154 : Tryz.prog.funcs[154]? = some Tryz.f154 := by kernel_rfl
theorem ck156 : chkFn Tryz.prog chkDrawn Tryz.f156 cf_strconv_isPowerOfTwo = true := by kernel_rfl
theorem at156 : Tryz.prog.funcs[156]? = some Tryz.f156 := by kernel_rfl
theorem ck157 : chkFn Tryz.prog chkDrawn Tryz.f157 cf_bits_TrailingZeros = true := by kernel_rfl
theorem at157 : Tryz.prog.funcs[157]? = some Tryz.f157 := by kernel_rfl
theorem ck162 : chkFn Tryz.prog chkDrawn Tryz.f162 cf_slices_insertionSortCmpFunc_runes_span = true := by kernel_rfl
theorem at162 : Tryz.prog.funcs[162]? = some Tryz.f162 := by kernel_rfl
theorem ck171 : chkFn Tryz.prog chkDrawn Tryz.f171 cf_decode_second = true := by kernel_rfl
theorem at171 : Tryz.prog.funcs[171]? = some Tryz.f171 := by kernel_rfl
theorem ck172 : chkFn Tryz.prog chkDrawn Tryz.f172 cf_slices_Clone_byte_byte = true := by kernel_rfl
theorem at172 : Tryz.prog.funcs[172]? = some Tryz.f172 := by kernel_rfl
theorem ck174 : chkFn Tryz.prog chkDrawn Tryz.f174 cf_bits_TrailingZeros64 = true := by kernel_rfl
theorem at174 : Tryz.prog.funcs[174]? = some Tryz.f174 := by kernel_rfl
end Go.Ev
/- The table is the program's: printed by gen.py. -/
namespace Go.Ev
open Go Go.Proofs
theorem table : Table Tryz.prog chkDrawn bt.get := BT.table (P := Tryz.prog) bt (⟨⟨⟨⟨⟨⟨⟨⟨_, at3, ck3⟩, ⟨_, at4, ck4⟩⟩, ⟨⟨_, at5, ck5⟩, ⟨_, at6, ck6⟩⟩⟩, ⟨⟨⟨_, at7, ck7⟩, ⟨_, at8, ck8⟩⟩, ⟨⟨_, at9, ck9⟩, ⟨_, at10, ck10⟩⟩⟩⟩, ⟨⟨⟨⟨_, at11, ck11⟩, ⟨_, at12, ck12⟩⟩, ⟨⟨_, at13, ck13⟩, ⟨_, at14, ck14⟩⟩⟩, ⟨⟨⟨_, at15, ck15⟩, ⟨_, at16, ck16⟩⟩, ⟨⟨_, at17, ck17⟩, ⟨⟨_, at18, ck18⟩, ⟨_, at19, ck19⟩⟩⟩⟩⟩⟩, ⟨⟨⟨⟨⟨_, at20, ck20⟩, ⟨_, at21, ck21⟩⟩, ⟨⟨_, at22, ck22⟩, ⟨_, at23, ck23⟩⟩⟩, ⟨⟨⟨_, at24, ck24⟩, ⟨_, at25, ck25⟩⟩, ⟨⟨_, at26, ck26⟩, ⟨⟨_, at27, ck27⟩, ⟨_, at28, ck28⟩⟩⟩⟩⟩, ⟨⟨⟨⟨_, at29, ck29⟩, ⟨_, at30, ck30⟩⟩, ⟨⟨_, at31, ck31⟩, ⟨_, at32, ck32⟩⟩⟩, ⟨⟨⟨_, at33, ck33⟩, ⟨_, at34, ck34⟩⟩, ⟨⟨_, at35, ck35⟩, ⟨⟨_, at36, ck36⟩, ⟨_, at37, ck37⟩⟩⟩⟩⟩⟩⟩, ⟨⟨⟨⟨⟨⟨_, at40, ck40⟩, ⟨_, at41, ck41⟩⟩, ⟨⟨_, at42, ck42⟩, ⟨_, at43, ck43⟩⟩⟩, ⟨⟨⟨_, at44, ck44⟩, ⟨_, at45, ck45⟩⟩, ⟨⟨_, at46, ck46⟩, ⟨_, at47, ck47⟩⟩⟩⟩, ⟨⟨⟨⟨_, at48, ck48⟩, ⟨_, at49, ck49⟩⟩, ⟨⟨_, at50, ck50⟩, ⟨_, at51, ck51⟩⟩⟩, ⟨⟨⟨_, at52, ck52⟩, ⟨_, at53, ck53⟩⟩, ⟨⟨_, at54, ck54⟩, ⟨⟨_, at55, ck55⟩, ⟨_, at56, ck56⟩⟩⟩⟩⟩⟩, ⟨⟨⟨⟨⟨_, at57, ck57⟩, ⟨_, at58, ck58⟩⟩, ⟨⟨_, at59, ck59⟩, ⟨_, at60, ck60⟩⟩⟩, ⟨⟨⟨_, at61, ck61⟩, ⟨_, at62, ck62⟩⟩, ⟨⟨_, at63, ck63⟩, ⟨⟨_, at64, ck64⟩, ⟨_, at65, ck65⟩⟩⟩⟩⟩, ⟨⟨⟨⟨_, at66, ck66⟩, ⟨_, at67, ck67⟩⟩, ⟨⟨_, at69, ck69⟩, ⟨_, at70, ck70⟩⟩⟩, ⟨⟨⟨_, at71, ck71⟩, ⟨_, at72, ck72⟩⟩, ⟨⟨_, at73, ck73⟩, ⟨⟨_, at74, ck74⟩, ⟨_, at75, ck75⟩⟩⟩⟩⟩⟩⟩⟩, ⟨⟨⟨⟨⟨⟨⟨_, at76, ck76⟩, ⟨_, at77, ck77⟩⟩, ⟨⟨_, at78, ck78⟩, ⟨_, at79, ck79⟩⟩⟩, ⟨⟨⟨_, at80, ck80⟩, ⟨_, at81, ck81⟩⟩, ⟨⟨_, at82, ck82⟩, ⟨_, at83, ck83⟩⟩⟩⟩, ⟨⟨⟨⟨_, at84, ck84⟩, ⟨_, at85, ck85⟩⟩, ⟨⟨_, at86, ck86⟩, ⟨_, at87, ck87⟩⟩⟩, ⟨⟨⟨_, at88, ck88⟩, ⟨_, at89, ck89⟩⟩, ⟨⟨_, at90, ck90⟩, ⟨⟨_, at91, ck91⟩, ⟨_, at92, ck92⟩⟩⟩⟩⟩⟩, ⟨⟨⟨⟨⟨_, at93, ck93⟩, ⟨_, at94, ck94⟩⟩, ⟨⟨_, at95, ck95⟩, ⟨_, at96, ck96⟩⟩⟩, ⟨⟨⟨_, at97, ck97⟩, ⟨_, at101, ck101⟩⟩, ⟨⟨_, at102, ck102⟩, ⟨⟨_, at103, ck103⟩, ⟨_, at106, ck106⟩⟩⟩⟩⟩, ⟨⟨⟨⟨_, at107, ck107⟩, ⟨_, at108, ck108⟩⟩, ⟨⟨_, at109, ck109⟩, ⟨_, at110, ck110⟩⟩⟩, ⟨⟨⟨_, at111, ck111⟩, ⟨_, at112, ck112⟩⟩, ⟨⟨_, at113, ck113⟩, ⟨⟨_, at114, ck114⟩, ⟨_, at115, ck115⟩⟩⟩⟩⟩⟩⟩, ⟨⟨⟨⟨⟨⟨_, at116, ck116⟩, ⟨_, at117, ck117⟩⟩, ⟨⟨_, at118, ck118⟩, ⟨_, at119, ck119⟩⟩⟩, ⟨⟨⟨_, at120, ck120⟩, ⟨_, at121, ck121⟩⟩, ⟨⟨_, at122, ck122⟩, ⟨⟨_, at123, ck123⟩, ⟨_, at124, ck124⟩⟩⟩⟩⟩, ⟨⟨⟨⟨_, at125, ck125⟩, ⟨_, at126, ck126⟩⟩, ⟨⟨_, at128, ck128⟩, ⟨_, at131, ck131⟩⟩⟩, ⟨⟨⟨_, at132, ck132⟩, ⟨_, at138, ck138⟩⟩, ⟨⟨_, at139, ck139⟩, ⟨⟨_, at140, ck140⟩, ⟨_, at141, ck141⟩⟩⟩⟩⟩⟩, ⟨⟨⟨⟨⟨_, at142, ck142⟩, ⟨_, at143, ck143⟩⟩, ⟨⟨_, at144, ck144⟩, ⟨_, at145, ck145⟩⟩⟩, ⟨⟨⟨_, at146, ck146⟩, ⟨_, at147, ck147⟩⟩, ⟨⟨_, at148, ck148⟩, ⟨⟨_, at149, ck149⟩, ⟨_, at150, ck150⟩⟩⟩⟩⟩, ⟨⟨⟨⟨_, at151, ck151⟩, ⟨_, at152, ck152⟩⟩, ⟨⟨_, at154, ck154⟩, ⟨_, at156, ck156⟩⟩⟩, ⟨⟨⟨_, at157, ck157⟩, ⟨_, at162, ck162⟩⟩, ⟨⟨_, at171, ck171⟩, ⟨⟨_, at172, ck172⟩, ⟨_, at174, ck174⟩⟩⟩⟩⟩⟩⟩⟩⟩)
end Go.Ev
/- The package-level variables that the rows list. -/
namespace Go.Ev
open Go Go.Proofs
def glFirst : List AV := [.int .u8 240, .int .u8 240, .int .u8 240, .int .u8 240, .int .u8 240, .int .u8 240, .int .u8 240, .int .u8 240, .int .u8 240, .int .u8 240, .int .u8 240, .int .u8 240, .int .u8 240, .int .u8 240, .int .u8 240, .int .u8 240, .int .u8 240, .int .u8 240, .int .u8 240, .int .u8 240, .int .u8 240, .int .u8 240, .int .u8 240, .int .u8 240, .int .u8 240, .int .u8 240, .int .u8 240, .int .u8 240, .int .u8 240, .int .u8 240, .int .u8 240, .int .u8 240, .int .u8 240, .int .u8 240, .int .u8 240, .int .u8 240, .int .u8 240, .int .u8 240, .int .u8 240, .int .u8 240, .int .u8 240, .int .u8 240, .int .u8 240, .int .u8 240, .int .u8 240, .int .u8 240, .int .u8 240, .int .u8 240, .int .u8 240, .int .u8 240, .int .u8 240, .int .u8 240, .int .u8 240, .int .u8 240, .int .u8 240, .int .u8 240, .int .u8 240, .int .u8 240, .int .u8 240, .int .u8 240, .int .u8 240, .int .u8 240, .int .u8 240, .int .u8 240, .int .u8 240, .int .u8 240, .int .u8 240, .int .u8 240, .int .u8 240, .int .u8 240, .int .u8 240, .int .u8 240, .int .u8 240, .int .u8 240, .int .u8 240, .int .u8 240, .int .u8 240, .int .u8 240, .int .u8 240, .int .u8 240, .int .u8 240, .int .u8 240, .int .u8 240, .int .u8 240, .int .u8 240, .int .u8 240, .int .u8 240, .int .u8 240, .int .u8 240, .int .u8 240, .int .u8 240, .int .u8 240, .int .u8 240, .int .u8 240, .int .u8 240, .int .u8 240, .int .u8 240, .int .u8 240, .int .u8 240, .int .u8 240, .int .u8 240, .int .u8 240, .int .u8 240, .int .u8 240, .int .u8 240, .int .u8 240, .int .u8 240, .int .u8 240, .int .u8 240, .int .u8 240, .int .u8 240, .int .u8 240, .int .u8 240, .int .u8 240, .int .u8 240, .int .u8 240, .int .u8 240, .int .u8 240, .int .u8 240, .int .u8 240, .int .u8 240, .int .u8 240, .int .u8 240, .int .u8 240, .int .u8 240, .int .u8 240, .int .u8 240, .int .u8 240, .int .u8 241, .int .u8 241, .int .u8 241, .int .u8 241, .int .u8 241, .int .u8 241, .int .u8 241, .int .u8 241, .int .u8 241, .int .u8 241, .int .u8 241, .int .u8 241, .int .u8 241, .int .u8 241, .int .u8 241, .int .u8 241, .int .u8 241, .int .u8 241, .int .u8 241, .int .u8 241, .int .u8 241, .int .u8 241, .int .u8 241, .int .u8 241, .int .u8 241, .int .u8 241, .int .u8 241, .int .u8 241, .int .u8 241, .int .u8 241, .int .u8 241, .int .u8 241, .int .u8 241, .int .u8 241, .int .u8 241, .int .u8 241, .int .u8 241, .int .u8 241, .int .u8 241, .int .u8 241, .int .u8 241, .int .u8 241, .int .u8 241, .int .u8 241, .int .u8 241, .int .u8 241, .int .u8 241, .int .u8 241, .int .u8 241, .int .u8 241, .int .u8 241, .int .u8 241, .int .u8 241, .int .u8 241, .int .u8 241, .int .u8 241, .int .u8 241, .int .u8 241, .int .u8 241, .int .u8 241, .int .u8 241, .int .u8 241, .int .u8 241, .int .u8 241, .int .u8 241, .int .u8 241, .int .u8 2, .int .u8 2, .int .u8 2, .int .u8 2, .int .u8 2, .int .u8 2, .int .u8 2, .int .u8 2, .int .u8 2, .int .u8 2, .int .u8 2, .int .u8 2, .int .u8 2, .int .u8 2, .int .u8 2, .int .u8 2, .int .u8 2, .int .u8 2, .int .u8 2, .int .u8 2, .int .u8 2, .int .u8 2, .int .u8 2, .int .u8 2, .int .u8 2, .int .u8 2, .int .u8 2, .int .u8 2, .int .u8 2, .int .u8 2, .int .u8 19, .int .u8 3, .int .u8 3, .int .u8 3, .int .u8 3, .int .u8 3, .int .u8 3, .int .u8 3, .int .u8 3, .int .u8 3, .int .u8 3, .int .u8 3, .int .u8 3, .int .u8 35, .int .u8 3, .int .u8 3, .int .u8 52, .int .u8 4, .int .u8 4, .int .u8 4, .int .u8 68, .int .u8 241, .int .u8 241, .int .u8 241, .int .u8 241, .int .u8 241, .int .u8 241, .int .u8 241, .int .u8 241, .int .u8 241, .int .u8 241, .int .u8 241]
def glAccept : List AV := [.int .u8 128, .int .u8 191, .int .u8 160, .int .u8 191, .int .u8 128, .int .u8 159, .int .u8 144, .int .u8 191, .int .u8 128, .int .u8 143, .int .u8 0, .int .u8 0, .int .u8 0, .int .u8 0, .int .u8 0, .int .u8 0, .int .u8 0, .int .u8 0, .int .u8 0, .int .u8 0, .int .u8 0, .int .u8 0, .int .u8 0, .int .u8 0, .int .u8 0, .int .u8 0, .int .u8 0, .int .u8 0, .int .u8 0, .int .u8 0, .int .u8 0, .int .u8 0]
def glOwn : List AV := [.str [116, 111, 107], .str [114, 117, 108, 101], .str [105, 110, 116], .str [99, 97, 108, 108], .str [114, 101, 116], .str [102, 114, 101, 101]]
def glPow10 : List AV := [.int .u64 1, .int .u64 10, .int .u64 100, .int .u64 1000, .int .u64 10000, .int .u64 100000, .int .u64 1000000, .int .u64 10000000, .int .u64 100000000, .int .u64 1000000000, .int .u64 10000000000, .int .u64 100000000000, .int .u64 1000000000000, .int .u64 10000000000000, .int .u64 100000000000000, .int .u64 1000000000000000, .int .u64 10000000000000000, .int .u64 100000000000000000, .int .u64 1000000000000000000, .int .u64 10000000000000000000]
def glDB32 : List AV := [.int .u8 0, .int .u8 1, .int .u8 28, .int .u8 2, .int .u8 29, .int .u8 14, .int .u8 24, .int .u8 3, .int .u8 30, .int .u8 22, .int .u8 20, .int .u8 15, .int .u8 25, .int .u8 17, .int .u8 4, .int .u8 8, .int .u8 31, .int .u8 27, .int .u8 13, .int .u8 23, .int .u8 21, .int .u8 19, .int .u8 16, .int .u8 7, .int .u8 26, .int .u8 12, .int .u8 18, .int .u8 6, .int .u8 11, .int .u8 5, .int .u8 10, .int .u8 9]
def glDB64 : List AV := [.int .u8 0, .int .u8 1, .int .u8 56, .int .u8 2, .int .u8 57, .int .u8 49, .int .u8 28, .int .u8 3, .int .u8 61, .int .u8 58, .int .u8 42, .int .u8 50, .int .u8 38, .int .u8 29, .int .u8 17, .int .u8 4, .int .u8 62, .int .u8 47, .int .u8 59, .int .u8 36, .int .u8 45, .int .u8 43, .int .u8 51, .int .u8 22, .int .u8 53, .int .u8 39, .int .u8 33, .int .u8 30, .int .u8 24, .int .u8 18, .int .u8 12, .int .u8 5, .int .u8 63, .int .u8 55, .int .u8 48, .int .u8 27, .int .u8 60, .int .u8 41, .int .u8 37, .int .u8 16, .int .u8 46, .int .u8 35, .int .u8 44, .int .u8 21, .int .u8 52, .int .u8 32, .int .u8 23, .int .u8 11, .int .u8 54, .int .u8 26, .int .u8 40, .int .u8 15, .int .u8 34, .int .u8 20, .int .u8 31, .int .u8 10, .int .u8 25, .int .u8 14, .int .u8 19, .int .u8 9, .int .u8 13, .int .u8 8, .int .u8 7, .int .u8 6]
def gl : List Blk := [.cells glOwn .ro, .cells glPow10 .ro, .dead, .cells glFirst .ro, .cells glAccept .ro, .dead, .cells glDB32 .ro, .cells glDB64 .ro]
/-- Other variables that stay. -/
def glExtra : List (Nat × Blk) := [(0, .cells glOwn .ro), (1, .cells glPow10 .ro), (6, .cells glDB32 .ro), (7, .cells glDB64 .ro)]
theorem glExtra_lt : ∀ p ∈ glExtra, p.1 < 8 := fun p hp => by simp [glExtra] at hp; rcases hp with rfl | rfl | rfl | rfl <;> decide
theorem gl_ok : gl.all glBlk = true := by kernel_rfl
theorem gl_len : gl.length = Tryz.prog.globals.size := by kernel_rfl
/-- Does it come to 'true'? -/
def retB : Option (Ev.End × Heap) → Bool
  | some (.ret (.bool b), _) => b
  | _ => false
theorem retB_some {x : Option (Ev.End × Heap)} (h : retB x = true) : ∃ H, x = some (.ret (.bool true), H) := by
  unfold retB at h
  split at h
  · subst h; exact ⟨_, rfl⟩
  · cases h
theorem callOK (n B : Nat) : CallOK Tryz.prog B (evFn bt.get n) := fn_sound table (drawn_all _) n
end Go.Ev
/- Bytes to runes: what it is, plainly; what utf8.DecodeRune comes to. -/
namespace Go.Ev
open Go
/-- The tables of unicode/utf8 lie there. -/
def GlH (H : Heap) : Prop := 8 ≤ H.size ∧ H.get 3 = .cells glFirst .ro ∧ H.get 4 = .cells glAccept .ro ∧ ∀ p ∈ glExtra, H.get p.1 = p.2
theorem GlH.ext {n0 : Nat} {H H' : Heap} (h : GlH H) (hn : 8 ≤ n0) (e : Ext n0 H H') : GlH H' := ⟨Nat.le_trans h.1 e.1, by rw [e.2 3 (by omega), h.2.1], by rw [e.2 4 (by omega), h.2.2.1], fun p hp => by rw [e.2 p.1 (Nat.lt_of_lt_of_le (glExtra_lt p hp) hn), h.2.2.2 p hp]⟩
def longN (n : Nat) : Nat := if n < 128 then 1 else if 194 ≤ n ∧ n ≤ 223 then 2 else if 224 ≤ n ∧ n ≤ 239 then 3 else if 240 ≤ n ∧ n ≤ 244 then 4 else 0
def longB (c : UInt8) : Nat := longN c.toNat
def secLo (n : Nat) : Nat := if n = 224 then 160 else if n = 240 then 144 else 128
def secHi (n : Nat) : Nat := if n = 237 then 159 else if n = 244 then 143 else 191
/-- May a byte stand behind those that are held? -/
def okB (held : List UInt8) (c : UInt8) : Bool := match held with
  | [] => decide (longB c ≠ 0)
  | [h] => decide (secLo h.toNat ≤ c.toNat ∧ c.toNat ≤ secHi h.toNat)
  | _ => decide (128 ≤ c.toNat ∧ c.toNat ≤ 191)
/-- The rune of a whole sequence. -/
def decR : List UInt8 → Nat
  | [a] => a.toNat
  | [a, b] => (a.toNat % 32) * 64 + b.toNat % 64
  | [a, b, c] => (a.toNat % 16) * 4096 + (b.toNat % 64) * 64 + c.toNat % 64
  | [a, b, c, d] => (a.toNat % 8) * 262144 + (b.toNat % 64) * 4096 + (c.toNat % 64) * 64 + d.toNat % 64
  | _ => 65533
/-- Whole sequences. -/
def whole : List UInt8 → Bool
  | [a] => longB a == 1
  | [a, b] => longB a == 2 && okB [a] b
  | [a, b, c] => longB a == 3 && okB [a] b && okB [a, b] c
  | [a, b, c, d] => longB a == 4 && okB [a] b && okB [a, b] c && okB [a, b, c] d
  | _ => false
def firstN (n : Nat) : Nat := if n < 128 then 240 else if n < 194 then 241 else if n < 224 then 2 else if n = 224 then 19 else if n = 237 then 35 else if n < 240 then 3 else if n = 240 then 52 else if n < 244 then 4 else if n = 244 then 68 else 241
theorem first_all : ((List.range 256).all fun n => match glFirst[n]? with | some v => AV.beq v (.int .u8 (firstN n)) | none => false) = true := by kernel_rfl
theorem first_at (c : UInt8) : glFirst[c.toNat]? = some (.int .u8 (firstN c.toNat)) := by
  have h := List.all_eq_true.1 first_all c.toNat (List.mem_range.2 c.toNat_lt)
  split at h
  · rename_i v hv; rw [hv, AV.beq_eq _ _ h]
  · cases h
def u8and (n m : Int) : Int := IntKind.u8.wrap (BitVec.ofInt 8 n &&& BitVec.ofInt 8 m).toNat
theorem intBin_u8and {n m : Int} : intBin .and .u8 n m = some (.int .u8 (u8and n m)) := rfl
theorem u8and_all : ((List.range 256).all fun n => decide (u8and n 31 = (n % 32 : Nat)) && decide (u8and n 15 = (n % 16 : Nat)) && decide (u8and n 7 = (n % 8 : Nat)) && decide (u8and n 63 = (n % 64 : Nat))) = true := by kernel_rfl
theorem u8and_at (c : UInt8) : u8and c.toNat 31 = (c.toNat % 32 : Nat) ∧ u8and c.toNat 15 = (c.toNat % 16 : Nat) ∧ u8and c.toNat 7 = (c.toNat % 8 : Nat) ∧ u8and c.toNat 63 = (c.toNat % 64 : Nat) := by
  have h := List.all_eq_true.1 u8and_all c.toNat (List.mem_range.2 c.toNat_lt)
  simp only [Bool.and_eq_true, decide_eq_true_eq] at h
  exact ⟨h.1.1.1, h.1.1.2, h.1.2, h.2⟩
theorem wi32 {x : Int} (h0 : -2147483648 ≤ x) (h1 : x ≤ 2147483647) : IntKind.i32.wrap x = x := by rw [IntKind.wrap_i32]; omega
theorem shl_i32 {a : Nat} {k : Nat} (hk : k ≤ 32) (h : a * 2 ^ k ≤ 2147483647) : shiftA .shl .i32 (a : Int) (k : Int) = some (.int .i32 ((a * 2 ^ k : Nat) : Int)) := by
  have e : min ((k : Int).toNat) IntKind.i32.bits = k := by simp only [Int.toNat_natCast]; exact Nat.min_eq_left hk
  simp only [shiftA, if_neg (show ¬((k : Int) < 0) by omega), e]
  have e2 : (a : Int) * 2 ^ k = ((a * 2 ^ k : Nat) : Int) := by rw [Int.natCast_mul, Int.natCast_pow]; rfl
  rw [e2]
  generalize a * 2 ^ k = z at h ⊢
  rw [wi32 (by omega) (by omega)]
theorem or_i32 {a b k : Nat} (hb : b < 2 ^ k) (h : 2 ^ k * a + b ≤ 2147483647) : intBin .or .i32 ((2 ^ k * a : Nat) : Int) (b : Int) = some (.int .i32 ((2 ^ k * a + b : Nat) : Int)) := by
  have e : (BitVec.ofInt 32 ((2 ^ k * a : Nat) : Int) ||| BitVec.ofInt 32 (b : Int)).toNat = 2 ^ k * a + b := by
    rw [BitVec.toNat_or, BitVec.ofInt_natCast, BitVec.ofInt_natCast, BitVec.toNat_ofNat, BitVec.toNat_ofNat, Nat.mod_eq_of_lt (by omega), Nat.mod_eq_of_lt (by omega), Nat.two_pow_add_eq_or_of_lt hb]
  show some (AV.int .i32 (IntKind.i32.wrap ((BitVec.ofInt 32 ((2 ^ k * a : Nat) : Int) ||| BitVec.ofInt 32 (b : Int)).toNat : Int))) = _
  rw [e, wi32 (by omega) (by omega)]
end Go.Ev
