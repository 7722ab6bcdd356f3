/- Several texts of this claim, joined. -/
import Derived.Test.YtimbiogcllmalaaDoorI
import Derived.Test.YtimbiogcllmalaaDoorF
import Derived.KernelRfl
import Derived.Test.YtimbiogcllmalaaDoorProg

/- Each printed function is the program's: printed by gen.py. -/
namespace Go.Ev
open Go Go.Proofs
theorem chk_gobolaw12_WordPlaces : chkFn Tryd.prog chkDrawn Tryd.f3 cf_gobolaw12_WordPlaces = true := by kernel_rfl
theorem at_gobolaw12_WordPlaces : Tryd.prog.funcs[F_gobolaw12_WordPlaces]? = some Tryd.f3 := by kernel_rfl
theorem chk_gobolaw12_WordBlanks : chkFn Tryd.prog chkDrawn Tryd.f4 cf_gobolaw12_WordBlanks = true := by kernel_rfl
theorem at_gobolaw12_WordBlanks : Tryd.prog.funcs[F_gobolaw12_WordBlanks]? = some Tryd.f4 := by kernel_rfl
theorem chk_gobolaw12_WordKinds : chkFn Tryd.prog chkDrawn Tryd.f5 cf_gobolaw12_WordKinds = true := by kernel_rfl
theorem at_gobolaw12_WordKinds : Tryd.prog.funcs[F_gobolaw12_WordKinds]? = some Tryd.f5 := by kernel_rfl
theorem chk_gobolaw12_WordClasses : chkFn Tryd.prog chkDrawn Tryd.f6 cf_gobolaw12_WordClasses = true := by kernel_rfl
theorem at_gobolaw12_WordClasses : Tryd.prog.funcs[F_gobolaw12_WordClasses]? = some Tryd.f6 := by kernel_rfl
theorem chk_gobolaw12_told : chkFn Tryd.prog chkDrawn Tryd.f7 cf_gobolaw12_told = true := by kernel_rfl
theorem at_gobolaw12_told : Tryd.prog.funcs[F_gobolaw12_told]? = some Tryd.f7 := by kernel_rfl
theorem chk_word_All : chkFn Tryd.prog chkDrawn Tryd.f8 cf_word_All = true := by kernel_rfl
theorem at_word_All : Tryd.prog.funcs[F_word_All]? = some Tryd.f8 := by kernel_rfl
theorem chk_word_Class : chkFn Tryd.prog chkDrawn Tryd.f9 cf_word_Class = true := by kernel_rfl
theorem at_word_Class : Tryd.prog.funcs[F_word_Class]? = some Tryd.f9 := by kernel_rfl
theorem chk_runes_Or : chkFn Tryd.prog chkDrawn Tryd.f10 cf_runes_Or = true := by kernel_rfl
theorem at_runes_Or : Tryd.prog.funcs[F_runes_Or]? = some Tryd.f10 := by kernel_rfl
theorem chk_runes_Same : chkFn Tryd.prog chkDrawn Tryd.f11 cf_runes_Same = true := by kernel_rfl
theorem at_runes_Same : Tryd.prog.funcs[F_runes_Same]? = some Tryd.f11 := by kernel_rfl
theorem chk_runes_Not : chkFn Tryd.prog chkDrawn Tryd.f12 cf_runes_Not = true := by kernel_rfl
theorem at_runes_Not : Tryd.prog.funcs[F_runes_Not]? = some Tryd.f12 := by kernel_rfl
theorem chk_word_Caught : chkFn Tryd.prog chkDrawn Tryd.f13 cf_word_Caught = true := by kernel_rfl
theorem at_word_Caught : Tryd.prog.funcs[F_word_Caught]? = some Tryd.f13 := by kernel_rfl
theorem chk_word_All_1 : chkFn Tryd.prog chkDrawn Tryd.f14 cf_word_All_1 = true := by kernel_rfl
theorem at_word_All_1 : Tryd.prog.funcs[F_word_All_1]? = some Tryd.f14 := by kernel_rfl
theorem chk_word_words : chkFn Tryd.prog chkDrawn Tryd.f15 cf_word_words = true := by kernel_rfl
theorem at_word_words : Tryd.prog.funcs[F_word_words]? = some Tryd.f15 := by kernel_rfl
theorem chk_decode_All : chkFn Tryd.prog chkDrawn Tryd.f16 cf_decode_All = true := by kernel_rfl
theorem at_decode_All : Tryd.prog.funcs[F_decode_All]? = some Tryd.f16 := by kernel_rfl
theorem chk_word_Class_1 : chkFn Tryd.prog chkDrawn Tryd.f17 cf_word_Class_1 = true := by kernel_rfl
theorem at_word_Class_1 : Tryd.prog.funcs[F_word_Class_1]? = some Tryd.f17 := by kernel_rfl
theorem chk_word_Read : chkFn Tryd.prog chkDrawn Tryd.f18 cf_word_Read = true := by kernel_rfl
theorem at_word_Read : Tryd.prog.funcs[F_word_Read]? = some Tryd.f18 := by kernel_rfl
theorem chk_word_Reader_Class : chkFn Tryd.prog chkDrawn Tryd.f19 cf_word_Reader_Class = true := by kernel_rfl
theorem at_word_Reader_Class : Tryd.prog.funcs[F_word_Reader_Class]? = some Tryd.f19 := by kernel_rfl
theorem chk_runes_Norm : chkFn Tryd.prog chkDrawn Tryd.f20 cf_runes_Norm = true := by kernel_rfl
theorem at_runes_Norm : Tryd.prog.funcs[F_runes_Norm]? = some Tryd.f20 := by kernel_rfl
theorem chk_slices_Concat_api_Range_api_Range : chkFn Tryd.prog chkDrawn Tryd.f21 cf_slices_Concat_api_Range_api_Range = true := by kernel_rfl
theorem at_slices_Concat_api_Range_api_Range : Tryd.prog.funcs[F_slices_Concat_api_Range_api_Range]? = some Tryd.f21 := by kernel_rfl
theorem chk_slices_Equal_api_Range_api_Range : chkFn Tryd.prog chkDrawn Tryd.f22 cf_slices_Equal_api_Range_api_Range = true := by kernel_rfl
theorem at_slices_Equal_api_Range_api_Range : Tryd.prog.funcs[F_slices_Equal_api_Range_api_Range]? = some Tryd.f22 := by kernel_rfl
theorem chk_runes_Not_1 : chkFn Tryd.prog chkDrawn Tryd.f23 cf_runes_Not_1 = true := by kernel_rfl
theorem at_runes_Not_1 : Tryd.prog.funcs[F_runes_Not_1]? = some Tryd.f23 := by kernel_rfl
theorem chk_runes_spans : chkFn Tryd.prog chkDrawn Tryd.f24 cf_runes_spans = true := by kernel_rfl
theorem at_runes_spans : Tryd.prog.funcs[F_runes_spans]? = some Tryd.f24 := by kernel_rfl
theorem chk_runes_ranges : chkFn Tryd.prog chkDrawn Tryd.f25 cf_runes_ranges = true := by kernel_rfl
theorem at_runes_ranges : Tryd.prog.funcs[F_runes_ranges]? = some Tryd.f25 := by kernel_rfl
theorem chk_word_Caught_1 : chkFn Tryd.prog chkDrawn Tryd.f26 cf_word_Caught_1 = true := by kernel_rfl
theorem at_word_Caught_1 : Tryd.prog.funcs[F_word_Caught_1]? = some Tryd.f26 := by kernel_rfl
end Go.Ev

/- Each printed function is the program's: printed by gen.py. -/
namespace Go.Ev
open Go Go.Proofs
theorem chk_word_run : chkFn Tryd.prog chkDrawn Tryd.f27 cf_word_run = true := by kernel_rfl
theorem at_word_run : Tryd.prog.funcs[F_word_run]? = some Tryd.f27 := by kernel_rfl
theorem chk_word_words_1 : chkFn Tryd.prog chkDrawn Tryd.f28 cf_word_words_1 = true := by kernel_rfl
theorem at_word_words_1 : Tryd.prog.funcs[F_word_words_1]? = some Tryd.f28 := by kernel_rfl
theorem chk_word_letter : chkFn Tryd.prog chkDrawn Tryd.f29 cf_word_letter = true := by kernel_rfl
theorem at_word_letter : Tryd.prog.funcs[F_word_letter]? = some Tryd.f29 := by kernel_rfl
theorem chk_word_words_2 : chkFn Tryd.prog chkDrawn Tryd.f30 cf_word_words_2 = true := by kernel_rfl
theorem at_word_words_2 : Tryd.prog.funcs[F_word_words_2]? = some Tryd.f30 := by kernel_rfl
theorem chk_word_digit : chkFn Tryd.prog chkDrawn Tryd.f31 cf_word_digit = true := by kernel_rfl
theorem at_word_digit : Tryd.prog.funcs[F_word_digit]? = some Tryd.f31 := by kernel_rfl
theorem chk_strings_IndexByte : chkFn Tryd.prog chkDrawn Tryd.f32 cf_strings_IndexByte = true := by kernel_rfl
theorem at_strings_IndexByte : Tryd.prog.funcs[F_strings_IndexByte]? = some Tryd.f32 := by kernel_rfl
theorem chk_word_closed : chkFn Tryd.prog chkDrawn Tryd.f33 cf_word_closed = true := by kernel_rfl
theorem at_word_closed : Tryd.prog.funcs[F_word_closed]? = some Tryd.f33 := by kernel_rfl
theorem chk_word_Fail : chkFn Tryd.prog chkDrawn Tryd.f34 cf_word_Fail = true := by kernel_rfl
theorem at_word_Fail : Tryd.prog.funcs[F_word_Fail]? = some Tryd.f34 := by kernel_rfl
theorem chk_decode_New : chkFn Tryd.prog chkDrawn Tryd.f35 cf_decode_New = true := by kernel_rfl
theorem at_decode_New : Tryd.prog.funcs[F_decode_New]? = some Tryd.f35 := by kernel_rfl
theorem chk_decode_Dec_Feed : chkFn Tryd.prog chkDrawn Tryd.f36 cf_decode_Dec_Feed = true := by kernel_rfl
theorem at_decode_Dec_Feed : Tryd.prog.funcs[F_decode_Dec_Feed]? = some Tryd.f36 := by kernel_rfl
theorem chk_decode_Dec_Close : chkFn Tryd.prog chkDrawn Tryd.f37 cf_decode_Dec_Close = true := by kernel_rfl
theorem at_decode_Dec_Close : Tryd.prog.funcs[F_decode_Dec_Close]? = some Tryd.f37 := by kernel_rfl
theorem chk_word_Reader_Skip : chkFn Tryd.prog chkDrawn Tryd.f38 cf_word_Reader_Skip = true := by kernel_rfl
theorem at_word_Reader_Skip : Tryd.prog.funcs[F_word_Reader_Skip]? = some Tryd.f38 := by kernel_rfl
theorem chk_word_Reader_Peek : chkFn Tryd.prog chkDrawn Tryd.f39 cf_word_Reader_Peek = true := by kernel_rfl
theorem at_word_Reader_Peek : Tryd.prog.funcs[F_word_Reader_Peek]? = some Tryd.f39 := by kernel_rfl
theorem chk_word_Reader_Rune : chkFn Tryd.prog chkDrawn Tryd.f40 cf_word_Reader_Rune = true := by kernel_rfl
theorem at_word_Reader_Rune : Tryd.prog.funcs[F_word_Reader_Rune]? = some Tryd.f40 := by kernel_rfl
theorem chk_word_Reader_At : chkFn Tryd.prog chkDrawn Tryd.f41 cf_word_Reader_At = true := by kernel_rfl
theorem at_word_Reader_At : Tryd.prog.funcs[F_word_Reader_At]? = some Tryd.f41 := by kernel_rfl
theorem chk_slices_Grow_api_Range_api_Range : chkFn Tryd.prog chkDrawn Tryd.f42 cf_slices_Grow_api_Range_api_Range = true := by kernel_rfl
theorem at_slices_Grow_api_Range_api_Range : Tryd.prog.funcs[F_slices_Grow_api_Range_api_Range]? = some Tryd.f42 := by kernel_rfl
theorem chk_runes_number : chkFn Tryd.prog chkDrawn Tryd.f43 cf_runes_number = true := by kernel_rfl
theorem at_runes_number : Tryd.prog.funcs[F_runes_number]? = some Tryd.f43 := by kernel_rfl
theorem chk_runes_behind : chkFn Tryd.prog chkDrawn Tryd.f44 cf_runes_behind = true := by kernel_rfl
theorem at_runes_behind : Tryd.prog.funcs[F_runes_behind]? = some Tryd.f44 := by kernel_rfl
theorem chk_slices_SortFunc_runes_span_runes_span : chkFn Tryd.prog chkDrawn Tryd.f45 cf_slices_SortFunc_runes_span_runes_span = true := by kernel_rfl
theorem at_slices_SortFunc_runes_span_runes_span : Tryd.prog.funcs[F_slices_SortFunc_runes_span_runes_span]? = some Tryd.f45 := by kernel_rfl
theorem chk_runes_spans_1 : chkFn Tryd.prog chkDrawn Tryd.f46 cf_runes_spans_1 = true := by kernel_rfl
theorem at_runes_spans_1 : Tryd.prog.funcs[F_runes_spans_1]? = some Tryd.f46 := by kernel_rfl
theorem chk_cmp_Compare_int : chkFn Tryd.prog chkDrawn Tryd.f47 cf_cmp_Compare_int = true := by kernel_rfl
theorem at_cmp_Compare_int : Tryd.prog.funcs[F_cmp_Compare_int]? = some Tryd.f47 := by kernel_rfl
theorem chk_runes_value : chkFn Tryd.prog chkDrawn Tryd.f48 cf_runes_value = true := by kernel_rfl
theorem at_runes_value : Tryd.prog.funcs[F_runes_value]? = some Tryd.f48 := by kernel_rfl
theorem chk_stringslite_IndexByte : chkFn Tryd.prog chkDrawn Tryd.f49 cf_stringslite_IndexByte = true := by kernel_rfl
theorem at_stringslite_IndexByte : Tryd.prog.funcs[F_stringslite_IndexByte]? = some Tryd.f49 := by kernel_rfl
theorem chk_decode_Dec_take : chkFn Tryd.prog chkDrawn Tryd.f50 cf_decode_Dec_take = true := by kernel_rfl
theorem at_decode_Dec_take : Tryd.prog.funcs[F_decode_Dec_take]? = some Tryd.f50 := by kernel_rfl
end Go.Ev
