/- Several texts of this claim, joined. -/
import Derived.Test.YtkpjindnackmdaaGreatDoorT14
import Derived.KernelRfl
import Derived.Test.YtkpjindnackmdaaGreatDoorProg

/- Each printed function is the program's: printed by gen.py. -/
namespace Go.Ev
open Go Go.Proofs
theorem chk_gobolaw13_ParseRunes : chkFn Tryz.prog chkDrawn Tryz.f3 cf_gobolaw13_ParseRunes = true := by kernel_rfl
theorem at_gobolaw13_ParseRunes : Tryz.prog.funcs[F_gobolaw13_ParseRunes]? = some Tryz.f3 := by kernel_rfl
theorem chk_parse_Re : chkFn Tryz.prog chkDrawn Tryz.f4 cf_parse_Re = true := by kernel_rfl
theorem at_parse_Re : Tryz.prog.funcs[F_parse_Re]? = some Tryz.f4 := by kernel_rfl
theorem chk_gobolaw13_told : chkFn Tryz.prog chkDrawn Tryz.f5 cf_gobolaw13_told = true := by kernel_rfl
theorem at_gobolaw13_told : Tryz.prog.funcs[F_gobolaw13_told]? = some Tryz.f5 := by kernel_rfl
theorem chk_goboref6_Same : chkFn Tryz.prog chkDrawn Tryz.f6 cf_goboref6_Same = true := by kernel_rfl
theorem at_goboref6_Same : Tryz.prog.funcs[F_goboref6_Same]? = some Tryz.f6 := by kernel_rfl
theorem chk_gobolaw6_One : chkFn Tryz.prog chkDrawn Tryz.f7 cf_gobolaw6_One = true := by kernel_rfl
theorem at_gobolaw6_One : Tryz.prog.funcs[F_gobolaw6_One]? = some Tryz.f7 := by kernel_rfl
theorem chk_word_Caught : chkFn Tryz.prog chkDrawn Tryz.f8 cf_word_Caught = true := by kernel_rfl
theorem at_word_Caught : Tryz.prog.funcs[F_word_Caught]? = some Tryz.f8 := by kernel_rfl
theorem chk_parse_Re_1 : chkFn Tryz.prog chkDrawn Tryz.f9 cf_parse_Re_1 = true := by kernel_rfl
theorem at_parse_Re_1 : Tryz.prog.funcs[F_parse_Re_1]? = some Tryz.f9 := by kernel_rfl
theorem chk_word_Read : chkFn Tryz.prog chkDrawn Tryz.f10 cf_word_Read = true := by kernel_rfl
theorem at_word_Read : Tryz.prog.funcs[F_word_Read]? = some Tryz.f10 := by kernel_rfl
theorem chk_parse_regex_all : chkFn Tryz.prog chkDrawn Tryz.f11 cf_parse_regex_all = true := by kernel_rfl
theorem at_parse_regex_all : Tryz.prog.funcs[F_parse_regex_all]? = some Tryz.f11 := by kernel_rfl
theorem chk_word_Reader_Peek : chkFn Tryz.prog chkDrawn Tryz.f12 cf_word_Reader_Peek = true := by kernel_rfl
theorem at_word_Reader_Peek : Tryz.prog.funcs[F_word_Reader_Peek]? = some Tryz.f12 := by kernel_rfl
theorem chk_word_Fail : chkFn Tryz.prog chkDrawn Tryz.f13 cf_word_Fail = true := by kernel_rfl
theorem at_word_Fail : Tryz.prog.funcs[F_word_Fail]? = some Tryz.f13 := by kernel_rfl
theorem chk_word_Reader_At : chkFn Tryz.prog chkDrawn Tryz.f14 cf_word_Reader_At = true := by kernel_rfl
theorem at_word_Reader_At : Tryz.prog.funcs[F_word_Reader_At]? = some Tryz.f14 := by kernel_rfl
theorem chk_parse_Source : chkFn Tryz.prog chkDrawn Tryz.f15 cf_parse_Source = true := by kernel_rfl
theorem at_parse_Source : Tryz.prog.funcs[F_parse_Source]? = some Tryz.f15 := by kernel_rfl
theorem chk_goboref3_Same : chkFn Tryz.prog chkDrawn Tryz.f16 cf_goboref3_Same = true := by kernel_rfl
theorem at_goboref3_Same : Tryz.prog.funcs[F_goboref3_Same]? = some Tryz.f16 := by kernel_rfl
theorem chk_word_Caught_1 : chkFn Tryz.prog chkDrawn Tryz.f17 cf_word_Caught_1 = true := by kernel_rfl
theorem at_word_Caught_1 : Tryz.prog.funcs[F_word_Caught_1]? = some Tryz.f17 := by kernel_rfl
theorem chk_decode_All : chkFn Tryz.prog chkDrawn Tryz.f18 cf_decode_All = true := by kernel_rfl
theorem at_decode_All : Tryz.prog.funcs[F_decode_All]? = some Tryz.f18 := by kernel_rfl
theorem chk_parse_regex_row : chkFn Tryz.prog chkDrawn Tryz.f19 cf_parse_regex_row = true := by kernel_rfl
theorem at_parse_regex_row : Tryz.prog.funcs[F_parse_regex_row]? = some Tryz.f19 := by kernel_rfl
theorem chk_word_Reader_Skip : chkFn Tryz.prog chkDrawn Tryz.f20 cf_word_Reader_Skip = true := by kernel_rfl
theorem at_word_Reader_Skip : Tryz.prog.funcs[F_word_Reader_Skip]? = some Tryz.f20 := by kernel_rfl
theorem chk_parse_two : chkFn Tryz.prog chkDrawn Tryz.f21 cf_parse_two = true := by kernel_rfl
theorem at_parse_two : Tryz.prog.funcs[F_parse_two]? = some Tryz.f21 := by kernel_rfl
theorem chk_word_All : chkFn Tryz.prog chkDrawn Tryz.f22 cf_word_All = true := by kernel_rfl
theorem at_word_All : Tryz.prog.funcs[F_word_All]? = some Tryz.f22 := by kernel_rfl
theorem chk_parse_Source_1 : chkFn Tryz.prog chkDrawn Tryz.f23 cf_parse_Source_1 = true := by kernel_rfl
theorem at_parse_Source_1 : Tryz.prog.funcs[F_parse_Source_1]? = some Tryz.f23 := by kernel_rfl
theorem chk_parse_source_peek : chkFn Tryz.prog chkDrawn Tryz.f24 cf_parse_source_peek = true := by kernel_rfl
theorem at_parse_source_peek : Tryz.prog.funcs[F_parse_source_peek]? = some Tryz.f24 := by kernel_rfl
theorem chk_parse_source_line : chkFn Tryz.prog chkDrawn Tryz.f25 cf_parse_source_line = true := by kernel_rfl
theorem at_parse_source_line : Tryz.prog.funcs[F_parse_source_line]? = some Tryz.f25 := by kernel_rfl
theorem chk_gram_Check : chkFn Tryz.prog chkDrawn Tryz.f26 cf_gram_Check = true := by kernel_rfl
theorem at_gram_Check : Tryz.prog.funcs[F_gram_Check]? = some Tryz.f26 := by kernel_rfl
end Go.Ev

/- Each printed function is the program's: printed by gen.py. -/
namespace Go.Ev
open Go Go.Proofs
theorem chk_parse_source_place : chkFn Tryz.prog chkDrawn Tryz.f27 cf_parse_source_place = true := by kernel_rfl
theorem at_parse_source_place : Tryz.prog.funcs[F_parse_source_place]? = some Tryz.f27 := by kernel_rfl
theorem chk_decode_New : chkFn Tryz.prog chkDrawn Tryz.f28 cf_decode_New = true := by kernel_rfl
theorem at_decode_New : Tryz.prog.funcs[F_decode_New]? = some Tryz.f28 := by kernel_rfl
theorem chk_decode_Dec_Feed : chkFn Tryz.prog chkDrawn Tryz.f29 cf_decode_Dec_Feed = true := by kernel_rfl
theorem at_decode_Dec_Feed : Tryz.prog.funcs[F_decode_Dec_Feed]? = some Tryz.f29 := by kernel_rfl
theorem chk_decode_Dec_Close : chkFn Tryz.prog chkDrawn Tryz.f30 cf_decode_Dec_Close = true := by kernel_rfl
theorem at_decode_Dec_Close : Tryz.prog.funcs[F_decode_Dec_Close]? = some Tryz.f30 := by kernel_rfl
theorem chk_parse_regex_atom : chkFn Tryz.prog chkDrawn Tryz.f31 cf_parse_regex_atom = true := by kernel_rfl
theorem at_parse_regex_atom : Tryz.prog.funcs[F_parse_regex_atom]? = some Tryz.f31 := by kernel_rfl
theorem chk_word_All_1 : chkFn Tryz.prog chkDrawn Tryz.f32 cf_word_All_1 = true := by kernel_rfl
theorem at_word_All_1 : Tryz.prog.funcs[F_word_All_1]? = some Tryz.f32 := by kernel_rfl
theorem chk_word_words : chkFn Tryz.prog chkDrawn Tryz.f33 cf_word_words = true := by kernel_rfl
theorem at_word_words : Tryz.prog.funcs[F_word_words]? = some Tryz.f33 := by kernel_rfl
theorem chk_parse_source_next : chkFn Tryz.prog chkDrawn Tryz.f34 cf_parse_source_next = true := by kernel_rfl
theorem at_parse_source_next : Tryz.prog.funcs[F_parse_source_next]? = some Tryz.f34 := by kernel_rfl
theorem chk_parse_source_token : chkFn Tryz.prog chkDrawn Tryz.f35 cf_parse_source_token = true := by kernel_rfl
theorem at_parse_source_token : Tryz.prog.funcs[F_parse_source_token]? = some Tryz.f35 := by kernel_rfl
theorem chk_parse_source_rule : chkFn Tryz.prog chkDrawn Tryz.f36 cf_parse_source_rule = true := by kernel_rfl
theorem at_parse_source_rule : Tryz.prog.funcs[F_parse_source_rule]? = some Tryz.f36 := by kernel_rfl
theorem chk_gram_caught : chkFn Tryz.prog chkDrawn Tryz.f37 cf_gram_caught = true := by kernel_rfl
theorem at_gram_caught : Tryz.prog.funcs[F_gram_caught]? = some Tryz.f37 := by kernel_rfl
theorem chk_gram_Check_1 : chkFn Tryz.prog chkDrawn Tryz.f38 cf_gram_Check_1 = true := by kernel_rfl
theorem at_gram_Check_1 : Tryz.prog.funcs[F_gram_Check_1]? = some Tryz.f38 := by kernel_rfl
theorem chk_gram_court_must : chkFn Tryz.prog chkDrawn Tryz.f39 cf_gram_court_must = true := by kernel_rfl
theorem at_gram_court_must : Tryz.prog.funcs[F_gram_court_must]? = some Tryz.f39 := by kernel_rfl
theorem chk_gram_court_token : chkFn Tryz.prog chkDrawn Tryz.f40 cf_gram_court_token = true := by kernel_rfl
theorem at_gram_court_token : Tryz.prog.funcs[F_gram_court_token]? = some Tryz.f40 := by kernel_rfl
theorem chk_gram_court_rule : chkFn Tryz.prog chkDrawn Tryz.f41 cf_gram_court_rule = true := by kernel_rfl
theorem at_gram_court_rule : Tryz.prog.funcs[F_gram_court_rule]? = some Tryz.f41 := by kernel_rfl
theorem chk_decode_Dec_take : chkFn Tryz.prog chkDrawn Tryz.f42 cf_decode_Dec_take = true := by kernel_rfl
theorem at_decode_Dec_take : Tryz.prog.funcs[F_decode_Dec_take]? = some Tryz.f42 := by kernel_rfl
theorem chk_decode_Dec_taken : chkFn Tryz.prog chkDrawn Tryz.f43 cf_decode_Dec_taken = true := by kernel_rfl
theorem at_decode_Dec_taken : Tryz.prog.funcs[F_decode_Dec_taken]? = some Tryz.f43 := by kernel_rfl
theorem chk_decode_Dec_tell : chkFn Tryz.prog chkDrawn Tryz.f44 cf_decode_Dec_tell = true := by kernel_rfl
theorem at_decode_Dec_tell : Tryz.prog.funcs[F_decode_Dec_tell]? = some Tryz.f44 := by kernel_rfl
theorem chk_word_Reader_Must : chkFn Tryz.prog chkDrawn Tryz.f45 cf_word_Reader_Must = true := by kernel_rfl
theorem at_word_Reader_Must : Tryz.prog.funcs[F_word_Reader_Must]? = some Tryz.f45 := by kernel_rfl
theorem chk_word_Reader_Class : chkFn Tryz.prog chkDrawn Tryz.f46 cf_word_Reader_Class = true := by kernel_rfl
theorem at_word_Reader_Class : Tryz.prog.funcs[F_word_Reader_Class]? = some Tryz.f46 := by kernel_rfl
theorem chk_parse_set : chkFn Tryz.prog chkDrawn Tryz.f47 cf_parse_set = true := by kernel_rfl
theorem at_parse_set : Tryz.prog.funcs[F_parse_set]? = some Tryz.f47 := by kernel_rfl
theorem chk_runes_Not : chkFn Tryz.prog chkDrawn Tryz.f48 cf_runes_Not = true := by kernel_rfl
theorem at_runes_Not : Tryz.prog.funcs[F_runes_Not]? = some Tryz.f48 := by kernel_rfl
theorem chk_word_Reader_Rune : chkFn Tryz.prog chkDrawn Tryz.f49 cf_word_Reader_Rune = true := by kernel_rfl
theorem at_word_Reader_Rune : Tryz.prog.funcs[F_word_Reader_Rune]? = some Tryz.f49 := by kernel_rfl
theorem chk_word_run : chkFn Tryz.prog chkDrawn Tryz.f50 cf_word_run = true := by kernel_rfl
theorem at_word_run : Tryz.prog.funcs[F_word_run]? = some Tryz.f50 := by kernel_rfl
end Go.Ev

/- Each printed function is the program's: printed by gen.py. -/
namespace Go.Ev
open Go Go.Proofs
theorem chk_word_words_1 : chkFn Tryz.prog chkDrawn Tryz.f51 cf_word_words_1 = true := by kernel_rfl
theorem at_word_words_1 : Tryz.prog.funcs[F_word_words_1]? = some Tryz.f51 := by kernel_rfl
theorem chk_word_letter : chkFn Tryz.prog chkDrawn Tryz.f52 cf_word_letter = true := by kernel_rfl
theorem at_word_letter : Tryz.prog.funcs[F_word_letter]? = some Tryz.f52 := by kernel_rfl
theorem chk_word_words_2 : chkFn Tryz.prog chkDrawn Tryz.f53 cf_word_words_2 = true := by kernel_rfl
theorem at_word_words_2 : Tryz.prog.funcs[F_word_words_2]? = some Tryz.f53 := by kernel_rfl
theorem chk_word_digit : chkFn Tryz.prog chkDrawn Tryz.f54 cf_word_digit = true := by kernel_rfl
theorem at_word_digit : Tryz.prog.funcs[F_word_digit]? = some Tryz.f54 := by kernel_rfl
theorem chk_strings_IndexByte : chkFn Tryz.prog chkDrawn Tryz.f55 cf_strings_IndexByte = true := by kernel_rfl
theorem at_strings_IndexByte : Tryz.prog.funcs[F_strings_IndexByte]? = some Tryz.f55 := by kernel_rfl
theorem chk_word_closed : chkFn Tryz.prog chkDrawn Tryz.f56 cf_word_closed = true := by kernel_rfl
theorem at_word_closed : Tryz.prog.funcs[F_word_closed]? = some Tryz.f56 := by kernel_rfl
theorem chk_parse_source_name : chkFn Tryz.prog chkDrawn Tryz.f57 cf_parse_source_name = true := by kernel_rfl
theorem at_parse_source_name : Tryz.prog.funcs[F_parse_source_name]? = some Tryz.f57 := by kernel_rfl
theorem chk_parse_source_class : chkFn Tryz.prog chkDrawn Tryz.f58 cf_parse_source_class = true := by kernel_rfl
theorem at_parse_source_class : Tryz.prog.funcs[F_parse_source_class]? = some Tryz.f58 := by kernel_rfl
theorem chk_parse_source_must : chkFn Tryz.prog chkDrawn Tryz.f59 cf_parse_source_must = true := by kernel_rfl
theorem at_parse_source_must : Tryz.prog.funcs[F_parse_source_must]? = some Tryz.f59 := by kernel_rfl
theorem chk_parse_source_is : chkFn Tryz.prog chkDrawn Tryz.f60 cf_parse_source_is = true := by kernel_rfl
theorem at_parse_source_is : Tryz.prog.funcs[F_parse_source_is]? = some Tryz.f60 := by kernel_rfl
theorem chk_parse_source_skip : chkFn Tryz.prog chkDrawn Tryz.f61 cf_parse_source_skip = true := by kernel_rfl
theorem at_parse_source_skip : Tryz.prog.funcs[F_parse_source_skip]? = some Tryz.f61 := by kernel_rfl
theorem chk_parse_source_list : chkFn Tryz.prog chkDrawn Tryz.f62 cf_parse_source_list = true := by kernel_rfl
theorem at_parse_source_list : Tryz.prog.funcs[F_parse_source_list]? = some Tryz.f62 := by kernel_rfl
theorem chk_parse_source_pattern : chkFn Tryz.prog chkDrawn Tryz.f63 cf_parse_source_pattern = true := by kernel_rfl
theorem at_parse_source_pattern : Tryz.prog.funcs[F_parse_source_pattern]? = some Tryz.f63 := by kernel_rfl
theorem chk_gram_caught_1 : chkFn Tryz.prog chkDrawn Tryz.f64 cf_gram_caught_1 = true := by kernel_rfl
theorem at_gram_caught_1 : Tryz.prog.funcs[F_gram_caught_1]? = some Tryz.f64 := by kernel_rfl
theorem chk_gram_Name : chkFn Tryz.prog chkDrawn Tryz.f65 cf_gram_Name = true := by kernel_rfl
theorem at_gram_Name : Tryz.prog.funcs[F_gram_Name]? = some Tryz.f65 := by kernel_rfl
theorem chk_gram_Find : chkFn Tryz.prog chkDrawn Tryz.f66 cf_gram_Find = true := by kernel_rfl
theorem at_gram_Find : Tryz.prog.funcs[F_gram_Find]? = some Tryz.f66 := by kernel_rfl
theorem chk_gram_court_class : chkFn Tryz.prog chkDrawn Tryz.f67 cf_gram_court_class = true := by kernel_rfl
theorem at_gram_court_class : Tryz.prog.funcs[F_gram_court_class]? = some Tryz.f67 := by kernel_rfl
theorem chk_regex_May : chkFn Tryz.prog chkDrawn Tryz.f68 cf_regex_May = true := by kernel_rfl
theorem at_regex_May : Tryz.prog.funcs[F_regex_May]? = some Tryz.f68 := by kernel_rfl
theorem chk_regex_Empty : chkFn Tryz.prog chkDrawn Tryz.f69 cf_regex_Empty = true := by kernel_rfl
theorem at_regex_Empty : Tryz.prog.funcs[F_regex_Empty]? = some Tryz.f69 := by kernel_rfl
theorem chk_gram_court_names : chkFn Tryz.prog chkDrawn Tryz.f70 cf_gram_court_names = true := by kernel_rfl
theorem at_gram_court_names : Tryz.prog.funcs[F_gram_court_names]? = some Tryz.f70 := by kernel_rfl
theorem chk_gram_court_pattern : chkFn Tryz.prog chkDrawn Tryz.f71 cf_gram_court_pattern = true := by kernel_rfl
theorem at_gram_court_pattern : Tryz.prog.funcs[F_gram_court_pattern]? = some Tryz.f71 := by kernel_rfl
theorem chk_decode_Dec_more : chkFn Tryz.prog chkDrawn Tryz.f72 cf_decode_Dec_more = true := by kernel_rfl
theorem at_decode_Dec_more : Tryz.prog.funcs[F_decode_Dec_more]? = some Tryz.f72 := by kernel_rfl
theorem chk_utf8_DecodeRune : chkFn Tryz.prog chkDrawn Tryz.f73 cf_utf8_DecodeRune = true := by kernel_rfl
theorem at_utf8_DecodeRune : Tryz.prog.funcs[F_utf8_DecodeRune]? = some Tryz.f73 := by kernel_rfl
theorem chk_runes_Norm : chkFn Tryz.prog chkDrawn Tryz.f74 cf_runes_Norm = true := by kernel_rfl
theorem at_runes_Norm : Tryz.prog.funcs[F_runes_Norm]? = some Tryz.f74 := by kernel_rfl
end Go.Ev

/- Each printed function is the program's: printed by gen.py. -/
namespace Go.Ev
open Go Go.Proofs
theorem chk_runes_Not_1 : chkFn Tryz.prog chkDrawn Tryz.f75 cf_runes_Not_1 = true := by kernel_rfl
theorem at_runes_Not_1 : Tryz.prog.funcs[F_runes_Not_1]? = some Tryz.f75 := by kernel_rfl
theorem chk_runes_spans : chkFn Tryz.prog chkDrawn Tryz.f76 cf_runes_spans = true := by kernel_rfl
theorem at_runes_spans : Tryz.prog.funcs[F_runes_spans]? = some Tryz.f76 := by kernel_rfl
theorem chk_runes_ranges : chkFn Tryz.prog chkDrawn Tryz.f77 cf_runes_ranges = true := by kernel_rfl
theorem at_runes_ranges : Tryz.prog.funcs[F_runes_ranges]? = some Tryz.f77 := by kernel_rfl
theorem chk_word_hasRune : chkFn Tryz.prog chkDrawn Tryz.f78 cf_word_hasRune = true := by kernel_rfl
theorem at_word_hasRune : Tryz.prog.funcs[F_word_hasRune]? = some Tryz.f78 := by kernel_rfl
theorem chk_word_Reader_number : chkFn Tryz.prog chkDrawn Tryz.f79 cf_word_Reader_number = true := by kernel_rfl
theorem at_word_Reader_number : Tryz.prog.funcs[F_word_Reader_number]? = some Tryz.f79 := by kernel_rfl
theorem chk_stringslite_IndexByte : chkFn Tryz.prog chkDrawn Tryz.f80 cf_stringslite_IndexByte = true := by kernel_rfl
theorem at_stringslite_IndexByte : Tryz.prog.funcs[F_stringslite_IndexByte]? = some Tryz.f80 := by kernel_rfl
theorem chk_strconv_Atoi : chkFn Tryz.prog chkDrawn Tryz.f81 cf_strconv_Atoi = true := by kernel_rfl
theorem at_strconv_Atoi : Tryz.prog.funcs[F_strconv_Atoi]? = some Tryz.f81 := by kernel_rfl
theorem chk_parse_source_names : chkFn Tryz.prog chkDrawn Tryz.f82 cf_parse_source_names = true := by kernel_rfl
theorem at_parse_source_names : Tryz.prog.funcs[F_parse_source_names]? = some Tryz.f82 := by kernel_rfl
theorem chk_parse_source_row : chkFn Tryz.prog chkDrawn Tryz.f83 cf_parse_source_row = true := by kernel_rfl
theorem at_parse_source_row : Tryz.prog.funcs[F_parse_source_row]? = some Tryz.f83 := by kernel_rfl
theorem chk_slices_Contains_string_string : chkFn Tryz.prog chkDrawn Tryz.f84 cf_slices_Contains_string_string = true := by kernel_rfl
theorem at_slices_Contains_string_string : Tryz.prog.funcs[F_slices_Contains_string_string]? = some Tryz.f84 := by kernel_rfl
theorem chk_slices_IndexFunc_api_Token_api_Token : chkFn Tryz.prog chkDrawn Tryz.f85 cf_slices_IndexFunc_api_Token_api_Token = true := by kernel_rfl
theorem at_slices_IndexFunc_api_Token_api_Token : Tryz.prog.funcs[F_slices_IndexFunc_api_Token_api_Token]? = some Tryz.f85 := by kernel_rfl
theorem chk_gram_Find_1 : chkFn Tryz.prog chkDrawn Tryz.f86 cf_gram_Find_1 = true := by kernel_rfl
theorem at_gram_Find_1 : Tryz.prog.funcs[F_gram_Find_1]? = some Tryz.f86 := by kernel_rfl
theorem chk_regex_within : chkFn Tryz.prog chkDrawn Tryz.f87 cf_regex_within = true := by kernel_rfl
theorem at_regex_within : Tryz.prog.funcs[F_regex_within]? = some Tryz.f87 := by kernel_rfl
theorem chk_regex_may : chkFn Tryz.prog chkDrawn Tryz.f88 cf_regex_may = true := by kernel_rfl
theorem at_regex_may : Tryz.prog.funcs[F_regex_may]? = some Tryz.f88 := by kernel_rfl
theorem chk_regex_empty : chkFn Tryz.prog chkDrawn Tryz.f89 cf_regex_empty = true := by kernel_rfl
theorem at_regex_empty : Tryz.prog.funcs[F_regex_empty]? = some Tryz.f89 := by kernel_rfl
theorem chk_gram_few : chkFn Tryz.prog chkDrawn Tryz.f90 cf_gram_few = true := by kernel_rfl
theorem at_gram_few : Tryz.prog.funcs[F_gram_few]? = some Tryz.f90 := by kernel_rfl
theorem chk_gram_court_node : chkFn Tryz.prog chkDrawn Tryz.f91 cf_gram_court_node = true := by kernel_rfl
theorem at_gram_court_node : Tryz.prog.funcs[F_gram_court_node]? = some Tryz.f91 := by kernel_rfl
theorem chk_decode_Dec_more_1 : chkFn Tryz.prog chkDrawn Tryz.f92 cf_decode_Dec_more_1 = true := by kernel_rfl
theorem at_decode_Dec_more_1 : Tryz.prog.funcs[F_decode_Dec_more_1]? = some Tryz.f92 := by kernel_rfl
theorem chk_decode_grow : chkFn Tryz.prog chkDrawn Tryz.f93 cf_decode_grow = true := by kernel_rfl
theorem at_decode_grow : Tryz.prog.funcs[F_decode_grow]? = some Tryz.f93 := by kernel_rfl
theorem chk_decode_long : chkFn Tryz.prog chkDrawn Tryz.f94 cf_decode_long = true := by kernel_rfl
theorem at_decode_long : Tryz.prog.funcs[F_decode_long]? = some Tryz.f94 := by kernel_rfl
theorem chk_utf8_decodeRuneSlow : chkFn Tryz.prog chkDrawn Tryz.f95 cf_utf8_decodeRuneSlow = true := by kernel_rfl
theorem at_utf8_decodeRuneSlow : Tryz.prog.funcs[F_utf8_decodeRuneSlow]? = some Tryz.f95 := by kernel_rfl
theorem chk_runes_number : chkFn Tryz.prog chkDrawn Tryz.f96 cf_runes_number = true := by kernel_rfl
theorem at_runes_number : Tryz.prog.funcs[F_runes_number]? = some Tryz.f96 := by kernel_rfl
theorem chk_runes_behind : chkFn Tryz.prog chkDrawn Tryz.f97 cf_runes_behind = true := by kernel_rfl
theorem at_runes_behind : Tryz.prog.funcs[F_runes_behind]? = some Tryz.f97 := by kernel_rfl
theorem chk_slices_SortFunc_runes_span_runes_span : chkFn Tryz.prog chkDrawn Tryz.f98 cf_slices_SortFunc_runes_span_runes_span = true := by kernel_rfl
theorem at_slices_SortFunc_runes_span_runes_span : Tryz.prog.funcs[F_slices_SortFunc_runes_span_runes_span]? = some Tryz.f98 := by kernel_rfl
end Go.Ev

/- Each printed function is the program's: printed by gen.py. -/
namespace Go.Ev
open Go Go.Proofs
theorem chk_runes_spans_1 : chkFn Tryz.prog chkDrawn Tryz.f99 cf_runes_spans_1 = true := by kernel_rfl
theorem at_runes_spans_1 : Tryz.prog.funcs[F_runes_spans_1]? = some Tryz.f99 := by kernel_rfl
theorem chk_cmp_Compare_int : chkFn Tryz.prog chkDrawn Tryz.f100 cf_cmp_Compare_int = true := by kernel_rfl
theorem at_cmp_Compare_int : Tryz.prog.funcs[F_cmp_Compare_int]? = some Tryz.f100 := by kernel_rfl
theorem chk_runes_value : chkFn Tryz.prog chkDrawn Tryz.f101 cf_runes_value = true := by kernel_rfl
theorem at_runes_value : Tryz.prog.funcs[F_runes_value]? = some Tryz.f101 := by kernel_rfl
theorem chk_word_hex : chkFn Tryz.prog chkDrawn Tryz.f102 cf_word_hex = true := by kernel_rfl
theorem at_word_hex : Tryz.prog.funcs[F_word_hex]? = some Tryz.f102 := by kernel_rfl
theorem chk_strconv_Atoi_104 : chkFn Tryz.prog chkDrawn Tryz.f104 cf_strconv_Atoi_104 = true := by kernel_rfl
theorem at_strconv_Atoi_104 : Tryz.prog.funcs[F_strconv_Atoi_104]? = some Tryz.f104 := by kernel_rfl
theorem chk_parse_source_post : chkFn Tryz.prog chkDrawn Tryz.f106 cf_parse_source_post = true := by kernel_rfl
theorem at_parse_source_post : Tryz.prog.funcs[F_parse_source_post]? = some Tryz.f106 := by kernel_rfl
theorem chk_parse_source_begins : chkFn Tryz.prog chkDrawn Tryz.f107 cf_parse_source_begins = true := by kernel_rfl
theorem at_parse_source_begins : Tryz.prog.funcs[F_parse_source_begins]? = some Tryz.f107 := by kernel_rfl
theorem chk_slices_Index_string_string : chkFn Tryz.prog chkDrawn Tryz.f108 cf_slices_Index_string_string = true := by kernel_rfl
theorem at_slices_Index_string_string : Tryz.prog.funcs[F_slices_Index_string_string]? = some Tryz.f108 := by kernel_rfl
theorem chk_regex_within_1 : chkFn Tryz.prog chkDrawn Tryz.f109 cf_regex_within_1 = true := by kernel_rfl
theorem at_regex_within_1 : Tryz.prog.funcs[F_regex_within_1]? = some Tryz.f109 := by kernel_rfl
theorem chk_slices_ContainsFunc_api_Re_api_Re : chkFn Tryz.prog chkDrawn Tryz.f110 cf_slices_ContainsFunc_api_Re_api_Re = true := by kernel_rfl
theorem at_slices_ContainsFunc_api_Re_api_Re : Tryz.prog.funcs[F_slices_ContainsFunc_api_Re_api_Re]? = some Tryz.f110 := by kernel_rfl
theorem chk_regex_within_1_1 : chkFn Tryz.prog chkDrawn Tryz.f111 cf_regex_within_1_1 = true := by kernel_rfl
theorem at_regex_within_1_1 : Tryz.prog.funcs[F_regex_within_1_1]? = some Tryz.f111 := by kernel_rfl
theorem chk_regex_parts : chkFn Tryz.prog chkDrawn Tryz.f112 cf_regex_parts = true := by kernel_rfl
theorem at_regex_parts : Tryz.prog.funcs[F_regex_parts]? = some Tryz.f112 := by kernel_rfl
theorem chk_regex_may_1 : chkFn Tryz.prog chkDrawn Tryz.f113 cf_regex_may_1 = true := by kernel_rfl
theorem at_regex_may_1 : Tryz.prog.funcs[F_regex_may_1]? = some Tryz.f113 := by kernel_rfl
theorem chk_runes_May : chkFn Tryz.prog chkDrawn Tryz.f114 cf_runes_May = true := by kernel_rfl
theorem at_runes_May : Tryz.prog.funcs[F_runes_May]? = some Tryz.f114 := by kernel_rfl
theorem chk_gram_few_1 : chkFn Tryz.prog chkDrawn Tryz.f115 cf_gram_few_1 = true := by kernel_rfl
theorem at_gram_few_1 : Tryz.prog.funcs[F_gram_few_1]? = some Tryz.f115 := by kernel_rfl
theorem chk_slices_ContainsFunc_api_Pat_api_Pat : chkFn Tryz.prog chkDrawn Tryz.f116 cf_slices_ContainsFunc_api_Pat_api_Pat = true := by kernel_rfl
theorem at_slices_ContainsFunc_api_Pat_api_Pat : Tryz.prog.funcs[F_slices_ContainsFunc_api_Pat_api_Pat]? = some Tryz.f116 := by kernel_rfl
theorem chk_gram_few_1_1 : chkFn Tryz.prog chkDrawn Tryz.f117 cf_gram_few_1_1 = true := by kernel_rfl
theorem at_gram_few_1_1 : Tryz.prog.funcs[F_gram_few_1_1]? = some Tryz.f117 := by kernel_rfl
theorem chk_gram_shaped : chkFn Tryz.prog chkDrawn Tryz.f118 cf_gram_shaped = true := by kernel_rfl
theorem at_gram_shaped : Tryz.prog.funcs[F_gram_shaped]? = some Tryz.f118 := by kernel_rfl
theorem chk_decode_second : chkFn Tryz.prog chkDrawn Tryz.f119 cf_decode_second = true := by kernel_rfl
theorem at_decode_second : Tryz.prog.funcs[F_decode_second]? = some Tryz.f119 := by kernel_rfl
theorem chk_slices_Clone_byte_byte : chkFn Tryz.prog chkDrawn Tryz.f120 cf_slices_Clone_byte_byte = true := by kernel_rfl
theorem at_slices_Clone_byte_byte : Tryz.prog.funcs[F_slices_Clone_byte_byte]? = some Tryz.f120 := by kernel_rfl
theorem chk_runes_is : chkFn Tryz.prog chkDrawn Tryz.f121 cf_runes_is = true := by kernel_rfl
theorem at_runes_is : Tryz.prog.funcs[F_runes_is]? = some Tryz.f121 := by kernel_rfl
theorem chk_slices_pdqsortCmpFunc_runes_span : chkFn Tryz.prog chkDrawn Tryz.f122 cf_slices_pdqsortCmpFunc_runes_span = true := by kernel_rfl
theorem at_slices_pdqsortCmpFunc_runes_span : Tryz.prog.funcs[F_slices_pdqsortCmpFunc_runes_span]? = some Tryz.f122 := by kernel_rfl
theorem chk_bits_Len : chkFn Tryz.prog chkDrawn Tryz.f123 cf_bits_Len = true := by kernel_rfl
theorem at_bits_Len : Tryz.prog.funcs[F_bits_Len]? = some Tryz.f123 := by kernel_rfl
theorem chk_cmp_isNaN_int : chkFn Tryz.prog chkDrawn Tryz.f124 cf_cmp_isNaN_int = true := by kernel_rfl
theorem at_cmp_isNaN_int : Tryz.prog.funcs[F_cmp_isNaN_int]? = some Tryz.f124 := by kernel_rfl
end Go.Ev

/- Each printed function is the program's: printed by gen.py. -/
namespace Go.Ev
open Go Go.Proofs
theorem chk_parse_source_atom : chkFn Tryz.prog chkDrawn Tryz.f130 cf_parse_source_atom = true := by kernel_rfl
theorem at_parse_source_atom : Tryz.prog.funcs[F_parse_source_atom]? = some Tryz.f130 := by kernel_rfl
theorem chk_slices_IndexFunc_api_Re_api_Re : chkFn Tryz.prog chkDrawn Tryz.f131 cf_slices_IndexFunc_api_Re_api_Re = true := by kernel_rfl
theorem at_slices_IndexFunc_api_Re_api_Re : Tryz.prog.funcs[F_slices_IndexFunc_api_Re_api_Re]? = some Tryz.f131 := by kernel_rfl
theorem chk_slices_Equal_api_Range_api_Range : chkFn Tryz.prog chkDrawn Tryz.f132 cf_slices_Equal_api_Range_api_Range = true := by kernel_rfl
theorem at_slices_Equal_api_Range_api_Range : Tryz.prog.funcs[F_slices_Equal_api_Range_api_Range]? = some Tryz.f132 := by kernel_rfl
theorem chk_slices_IndexFunc_api_Pat_api_Pat : chkFn Tryz.prog chkDrawn Tryz.f133 cf_slices_IndexFunc_api_Pat_api_Pat = true := by kernel_rfl
theorem at_slices_IndexFunc_api_Pat_api_Pat : Tryz.prog.funcs[F_slices_IndexFunc_api_Pat_api_Pat]? = some Tryz.f133 := by kernel_rfl
theorem chk_gram_parts : chkFn Tryz.prog chkDrawn Tryz.f134 cf_gram_parts = true := by kernel_rfl
theorem at_gram_parts : Tryz.prog.funcs[F_gram_parts]? = some Tryz.f134 := by kernel_rfl
theorem chk_slices_insertionSortCmpFunc_runes_span : chkFn Tryz.prog chkDrawn Tryz.f135 cf_slices_insertionSortCmpFunc_runes_span = true := by kernel_rfl
theorem at_slices_insertionSortCmpFunc_runes_span : Tryz.prog.funcs[F_slices_insertionSortCmpFunc_runes_span]? = some Tryz.f135 := by kernel_rfl
theorem chk_slices_heapSortCmpFunc_runes_span : chkFn Tryz.prog chkDrawn Tryz.f136 cf_slices_heapSortCmpFunc_runes_span = true := by kernel_rfl
theorem at_slices_heapSortCmpFunc_runes_span : Tryz.prog.funcs[F_slices_heapSortCmpFunc_runes_span]? = some Tryz.f136 := by kernel_rfl
theorem chk_slices_breakPatternsCmpFunc_runes_span : chkFn Tryz.prog chkDrawn Tryz.f137 cf_slices_breakPatternsCmpFunc_runes_span = true := by kernel_rfl
theorem at_slices_breakPatternsCmpFunc_runes_span : Tryz.prog.funcs[F_slices_breakPatternsCmpFunc_runes_span]? = some Tryz.f137 := by kernel_rfl
theorem chk_slices_choosePivotCmpFunc_runes_span : chkFn Tryz.prog chkDrawn Tryz.f138 cf_slices_choosePivotCmpFunc_runes_span = true := by kernel_rfl
theorem at_slices_choosePivotCmpFunc_runes_span : Tryz.prog.funcs[F_slices_choosePivotCmpFunc_runes_span]? = some Tryz.f138 := by kernel_rfl
theorem chk_slices_reverseRangeCmpFunc_runes_span : chkFn Tryz.prog chkDrawn Tryz.f139 cf_slices_reverseRangeCmpFunc_runes_span = true := by kernel_rfl
theorem at_slices_reverseRangeCmpFunc_runes_span : Tryz.prog.funcs[F_slices_reverseRangeCmpFunc_runes_span]? = some Tryz.f139 := by kernel_rfl
theorem chk_slices_partialInsertionSortCmpFunc_runes_span : chkFn Tryz.prog chkDrawn Tryz.f140 cf_slices_partialInsertionSortCmpFunc_runes_span = true := by kernel_rfl
theorem at_slices_partialInsertionSortCmpFunc_runes_span : Tryz.prog.funcs[F_slices_partialInsertionSortCmpFunc_runes_span]? = some Tryz.f140 := by kernel_rfl
theorem chk_slices_partitionEqualCmpFunc_runes_span : chkFn Tryz.prog chkDrawn Tryz.f141 cf_slices_partitionEqualCmpFunc_runes_span = true := by kernel_rfl
theorem at_slices_partitionEqualCmpFunc_runes_span : Tryz.prog.funcs[F_slices_partitionEqualCmpFunc_runes_span]? = some Tryz.f141 := by kernel_rfl
theorem chk_slices_partitionCmpFunc_runes_span : chkFn Tryz.prog chkDrawn Tryz.f142 cf_slices_partitionCmpFunc_runes_span = true := by kernel_rfl
theorem at_slices_partitionCmpFunc_runes_span : Tryz.prog.funcs[F_slices_partitionCmpFunc_runes_span]? = some Tryz.f142 := by kernel_rfl
theorem chk_bits_Len32 : chkFn Tryz.prog chkDrawn Tryz.f143 cf_bits_Len32 = true := by kernel_rfl
theorem at_bits_Len32 : Tryz.prog.funcs[F_bits_Len32]? = some Tryz.f143 := by kernel_rfl
theorem chk_bits_Len64 : chkFn Tryz.prog chkDrawn Tryz.f144 cf_bits_Len64 = true := by kernel_rfl
theorem at_bits_Len64 : Tryz.prog.funcs[F_bits_Len64]? = some Tryz.f144 := by kernel_rfl
theorem chk_parse_source_bracket : chkFn Tryz.prog chkDrawn Tryz.f149 cf_parse_source_bracket = true := by kernel_rfl
theorem at_parse_source_bracket : Tryz.prog.funcs[F_parse_source_bracket]? = some Tryz.f149 := by kernel_rfl
theorem chk_slices_siftDownCmpFunc_runes_span : chkFn Tryz.prog chkDrawn Tryz.f150 cf_slices_siftDownCmpFunc_runes_span = true := by kernel_rfl
theorem at_slices_siftDownCmpFunc_runes_span : Tryz.prog.funcs[F_slices_siftDownCmpFunc_runes_span]? = some Tryz.f150 := by kernel_rfl
theorem chk_slices_nextPowerOfTwo : chkFn Tryz.prog chkDrawn Tryz.f151 cf_slices_nextPowerOfTwo = true := by kernel_rfl
theorem at_slices_nextPowerOfTwo : Tryz.prog.funcs[F_slices_nextPowerOfTwo]? = some Tryz.f151 := by kernel_rfl
theorem chk_slices_xorshift_Next : chkFn Tryz.prog chkDrawn Tryz.f152 cf_slices_xorshift_Next = true := by kernel_rfl
theorem at_slices_xorshift_Next : Tryz.prog.funcs[F_slices_xorshift_Next]? = some Tryz.f152 := by kernel_rfl
theorem chk_slices_medianAdjacentCmpFunc_runes_span : chkFn Tryz.prog chkDrawn Tryz.f153 cf_slices_medianAdjacentCmpFunc_runes_span = true := by kernel_rfl
theorem at_slices_medianAdjacentCmpFunc_runes_span : Tryz.prog.funcs[F_slices_medianAdjacentCmpFunc_runes_span]? = some Tryz.f153 := by kernel_rfl
theorem chk_slices_medianCmpFunc_runes_span : chkFn Tryz.prog chkDrawn Tryz.f154 cf_slices_medianCmpFunc_runes_span = true := by kernel_rfl
theorem at_slices_medianCmpFunc_runes_span : Tryz.prog.funcs[F_slices_medianCmpFunc_runes_span]? = some Tryz.f154 := by kernel_rfl
theorem chk_slices_order2CmpFunc_runes_span : chkFn Tryz.prog chkDrawn Tryz.f158 cf_slices_order2CmpFunc_runes_span = true := by kernel_rfl
theorem at_slices_order2CmpFunc_runes_span : Tryz.prog.funcs[F_slices_order2CmpFunc_runes_span]? = some Tryz.f158 := by kernel_rfl
end Go.Ev

/- The table is the program's: printed by gen.py. -/
namespace Go.Ev
open Go Go.Proofs
theorem table : Table Tryz.prog chkDrawn bt.get := BT.table (P := Tryz.prog) bt (⟨⟨⟨⟨⟨⟨⟨⟨_, at_gobolaw13_ParseRunes, chk_gobolaw13_ParseRunes⟩, ⟨_, at_parse_Re, chk_parse_Re⟩⟩, ⟨⟨_, at_gobolaw13_told, chk_gobolaw13_told⟩, ⟨_, at_goboref6_Same, chk_goboref6_Same⟩⟩⟩, ⟨⟨⟨_, at_gobolaw6_One, chk_gobolaw6_One⟩, ⟨_, at_word_Caught, chk_word_Caught⟩⟩, ⟨⟨_, at_parse_Re_1, chk_parse_Re_1⟩, ⟨_, at_word_Read, chk_word_Read⟩⟩⟩⟩, ⟨⟨⟨⟨_, at_parse_regex_all, chk_parse_regex_all⟩, ⟨_, at_word_Reader_Peek, chk_word_Reader_Peek⟩⟩, ⟨⟨_, at_word_Fail, chk_word_Fail⟩, ⟨_, at_word_Reader_At, chk_word_Reader_At⟩⟩⟩, ⟨⟨⟨_, at_parse_Source, chk_parse_Source⟩, ⟨_, at_goboref3_Same, chk_goboref3_Same⟩⟩, ⟨⟨_, at_word_Caught_1, chk_word_Caught_1⟩, ⟨⟨_, at_decode_All, chk_decode_All⟩, ⟨_, at_parse_regex_row, chk_parse_regex_row⟩⟩⟩⟩⟩⟩, ⟨⟨⟨⟨⟨_, at_word_Reader_Skip, chk_word_Reader_Skip⟩, ⟨_, at_parse_two, chk_parse_two⟩⟩, ⟨⟨_, at_word_All, chk_word_All⟩, ⟨_, at_parse_Source_1, chk_parse_Source_1⟩⟩⟩, ⟨⟨⟨_, at_parse_source_peek, chk_parse_source_peek⟩, ⟨_, at_parse_source_line, chk_parse_source_line⟩⟩, ⟨⟨_, at_gram_Check, chk_gram_Check⟩, ⟨⟨_, at_parse_source_place, chk_parse_source_place⟩, ⟨_, at_decode_New, chk_decode_New⟩⟩⟩⟩⟩, ⟨⟨⟨⟨_, at_decode_Dec_Feed, chk_decode_Dec_Feed⟩, ⟨_, at_decode_Dec_Close, chk_decode_Dec_Close⟩⟩, ⟨⟨_, at_parse_regex_atom, chk_parse_regex_atom⟩, ⟨_, at_word_All_1, chk_word_All_1⟩⟩⟩, ⟨⟨⟨_, at_word_words, chk_word_words⟩, ⟨_, at_parse_source_next, chk_parse_source_next⟩⟩, ⟨⟨_, at_parse_source_token, chk_parse_source_token⟩, ⟨⟨_, at_parse_source_rule, chk_parse_source_rule⟩, ⟨_, at_gram_caught, chk_gram_caught⟩⟩⟩⟩⟩⟩⟩, ⟨⟨⟨⟨⟨⟨_, at_gram_Check_1, chk_gram_Check_1⟩, ⟨_, at_gram_court_must, chk_gram_court_must⟩⟩, ⟨⟨_, at_gram_court_token, chk_gram_court_token⟩, ⟨_, at_gram_court_rule, chk_gram_court_rule⟩⟩⟩, ⟨⟨⟨_, at_decode_Dec_take, chk_decode_Dec_take⟩, ⟨_, at_decode_Dec_taken, chk_decode_Dec_taken⟩⟩, ⟨⟨_, at_decode_Dec_tell, chk_decode_Dec_tell⟩, ⟨⟨_, at_word_Reader_Must, chk_word_Reader_Must⟩, ⟨_, at_word_Reader_Class, chk_word_Reader_Class⟩⟩⟩⟩⟩, ⟨⟨⟨⟨_, at_parse_set, chk_parse_set⟩, ⟨_, at_runes_Not, chk_runes_Not⟩⟩, ⟨⟨_, at_word_Reader_Rune, chk_word_Reader_Rune⟩, ⟨_, at_word_run, chk_word_run⟩⟩⟩, ⟨⟨⟨_, at_word_words_1, chk_word_words_1⟩, ⟨_, at_word_letter, chk_word_letter⟩⟩, ⟨⟨_, at_word_words_2, chk_word_words_2⟩, ⟨⟨_, at_word_digit, chk_word_digit⟩, ⟨_, at_strings_IndexByte, chk_strings_IndexByte⟩⟩⟩⟩⟩⟩, ⟨⟨⟨⟨⟨_, at_word_closed, chk_word_closed⟩, ⟨_, at_parse_source_name, chk_parse_source_name⟩⟩, ⟨⟨_, at_parse_source_class, chk_parse_source_class⟩, ⟨_, at_parse_source_must, chk_parse_source_must⟩⟩⟩, ⟨⟨⟨_, at_parse_source_is, chk_parse_source_is⟩, ⟨_, at_parse_source_skip, chk_parse_source_skip⟩⟩, ⟨⟨_, at_parse_source_list, chk_parse_source_list⟩, ⟨⟨_, at_parse_source_pattern, chk_parse_source_pattern⟩, ⟨_, at_gram_caught_1, chk_gram_caught_1⟩⟩⟩⟩⟩, ⟨⟨⟨⟨_, at_gram_Name, chk_gram_Name⟩, ⟨_, at_gram_Find, chk_gram_Find⟩⟩, ⟨⟨_, at_gram_court_class, chk_gram_court_class⟩, ⟨_, at_regex_May, chk_regex_May⟩⟩⟩, ⟨⟨⟨_, at_regex_Empty, chk_regex_Empty⟩, ⟨_, at_gram_court_names, chk_gram_court_names⟩⟩, ⟨⟨_, at_gram_court_pattern, chk_gram_court_pattern⟩, ⟨⟨_, at_decode_Dec_more, chk_decode_Dec_more⟩, ⟨_, at_utf8_DecodeRune, chk_utf8_DecodeRune⟩⟩⟩⟩⟩⟩⟩⟩, ⟨⟨⟨⟨⟨⟨⟨_, at_runes_Norm, chk_runes_Norm⟩, ⟨_, at_runes_Not_1, chk_runes_Not_1⟩⟩, ⟨⟨_, at_runes_spans, chk_runes_spans⟩, ⟨_, at_runes_ranges, chk_runes_ranges⟩⟩⟩, ⟨⟨⟨_, at_word_hasRune, chk_word_hasRune⟩, ⟨_, at_word_Reader_number, chk_word_Reader_number⟩⟩, ⟨⟨_, at_stringslite_IndexByte, chk_stringslite_IndexByte⟩, ⟨_, at_strconv_Atoi, chk_strconv_Atoi⟩⟩⟩⟩, ⟨⟨⟨⟨_, at_parse_source_names, chk_parse_source_names⟩, ⟨_, at_parse_source_row, chk_parse_source_row⟩⟩, ⟨⟨_, at_slices_Contains_string_string, chk_slices_Contains_string_string⟩, ⟨_, at_slices_IndexFunc_api_Token_api_Token, chk_slices_IndexFunc_api_Token_api_Token⟩⟩⟩, ⟨⟨⟨_, at_gram_Find_1, chk_gram_Find_1⟩, ⟨_, at_regex_within, chk_regex_within⟩⟩, ⟨⟨_, at_regex_may, chk_regex_may⟩, ⟨⟨_, at_regex_empty, chk_regex_empty⟩, ⟨_, at_gram_few, chk_gram_few⟩⟩⟩⟩⟩⟩, ⟨⟨⟨⟨⟨_, at_gram_court_node, chk_gram_court_node⟩, ⟨_, at_decode_Dec_more_1, chk_decode_Dec_more_1⟩⟩, ⟨⟨_, at_decode_grow, chk_decode_grow⟩, ⟨_, at_decode_long, chk_decode_long⟩⟩⟩, ⟨⟨⟨_, at_utf8_decodeRuneSlow, chk_utf8_decodeRuneSlow⟩, ⟨_, at_runes_number, chk_runes_number⟩⟩, ⟨⟨_, at_runes_behind, chk_runes_behind⟩, ⟨⟨_, at_slices_SortFunc_runes_span_runes_span, chk_slices_SortFunc_runes_span_runes_span⟩, ⟨_, at_runes_spans_1, chk_runes_spans_1⟩⟩⟩⟩⟩, ⟨⟨⟨⟨_, at_cmp_Compare_int, chk_cmp_Compare_int⟩, ⟨_, at_runes_value, chk_runes_value⟩⟩, ⟨⟨_, at_word_hex, chk_word_hex⟩, ⟨_, at_strconv_Atoi_104, chk_strconv_Atoi_104⟩⟩⟩, ⟨⟨⟨_, at_parse_source_post, chk_parse_source_post⟩, ⟨_, at_parse_source_begins, chk_parse_source_begins⟩⟩, ⟨⟨_, at_slices_Index_string_string, chk_slices_Index_string_string⟩, ⟨⟨_, at_regex_within_1, chk_regex_within_1⟩, ⟨_, at_slices_ContainsFunc_api_Re_api_Re, chk_slices_ContainsFunc_api_Re_api_Re⟩⟩⟩⟩⟩⟩⟩, ⟨⟨⟨⟨⟨⟨_, at_regex_within_1_1, chk_regex_within_1_1⟩, ⟨_, at_regex_parts, chk_regex_parts⟩⟩, ⟨⟨_, at_regex_may_1, chk_regex_may_1⟩, ⟨_, at_runes_May, chk_runes_May⟩⟩⟩, ⟨⟨⟨_, at_gram_few_1, chk_gram_few_1⟩, ⟨_, at_slices_ContainsFunc_api_Pat_api_Pat, chk_slices_ContainsFunc_api_Pat_api_Pat⟩⟩, ⟨⟨_, at_gram_few_1_1, chk_gram_few_1_1⟩, ⟨⟨_, at_gram_shaped, chk_gram_shaped⟩, ⟨_, at_decode_second, chk_decode_second⟩⟩⟩⟩⟩, ⟨⟨⟨⟨_, at_slices_Clone_byte_byte, chk_slices_Clone_byte_byte⟩, ⟨_, at_runes_is, chk_runes_is⟩⟩, ⟨⟨_, at_slices_pdqsortCmpFunc_runes_span, chk_slices_pdqsortCmpFunc_runes_span⟩, ⟨_, at_bits_Len, chk_bits_Len⟩⟩⟩, ⟨⟨⟨_, at_cmp_isNaN_int, chk_cmp_isNaN_int⟩, ⟨_, at_parse_source_atom, chk_parse_source_atom⟩⟩, ⟨⟨_, at_slices_IndexFunc_api_Re_api_Re, chk_slices_IndexFunc_api_Re_api_Re⟩, ⟨⟨_, at_slices_Equal_api_Range_api_Range, chk_slices_Equal_api_Range_api_Range⟩, ⟨_, at_slices_IndexFunc_api_Pat_api_Pat, chk_slices_IndexFunc_api_Pat_api_Pat⟩⟩⟩⟩⟩⟩, ⟨⟨⟨⟨⟨_, at_gram_parts, chk_gram_parts⟩, ⟨_, at_slices_insertionSortCmpFunc_runes_span, chk_slices_insertionSortCmpFunc_runes_span⟩⟩, ⟨⟨_, at_slices_heapSortCmpFunc_runes_span, chk_slices_heapSortCmpFunc_runes_span⟩, ⟨_, at_slices_breakPatternsCmpFunc_runes_span, chk_slices_breakPatternsCmpFunc_runes_span⟩⟩⟩, ⟨⟨⟨_, at_slices_choosePivotCmpFunc_runes_span, chk_slices_choosePivotCmpFunc_runes_span⟩, ⟨_, at_slices_reverseRangeCmpFunc_runes_span, chk_slices_reverseRangeCmpFunc_runes_span⟩⟩, ⟨⟨_, at_slices_partialInsertionSortCmpFunc_runes_span, chk_slices_partialInsertionSortCmpFunc_runes_span⟩, ⟨⟨_, at_slices_partitionEqualCmpFunc_runes_span, chk_slices_partitionEqualCmpFunc_runes_span⟩, ⟨_, at_slices_partitionCmpFunc_runes_span, chk_slices_partitionCmpFunc_runes_span⟩⟩⟩⟩⟩, ⟨⟨⟨⟨_, at_bits_Len32, chk_bits_Len32⟩, ⟨_, at_bits_Len64, chk_bits_Len64⟩⟩, ⟨⟨_, at_parse_source_bracket, chk_parse_source_bracket⟩, ⟨_, at_slices_siftDownCmpFunc_runes_span, chk_slices_siftDownCmpFunc_runes_span⟩⟩⟩, ⟨⟨⟨_, at_slices_nextPowerOfTwo, chk_slices_nextPowerOfTwo⟩, ⟨_, at_slices_xorshift_Next, chk_slices_xorshift_Next⟩⟩, ⟨⟨_, at_slices_medianAdjacentCmpFunc_runes_span, chk_slices_medianAdjacentCmpFunc_runes_span⟩, ⟨⟨_, at_slices_medianCmpFunc_runes_span, chk_slices_medianCmpFunc_runes_span⟩, ⟨_, at_slices_order2CmpFunc_runes_span, chk_slices_order2CmpFunc_runes_span⟩⟩⟩⟩⟩⟩⟩⟩⟩)
end Go.Ev
