/- Several texts of this claim, joined. -/
import Derived.Test.YtimbiogcllmalaaDoorI
import Derived.Test.YtimbiogcllmalaaDoorF
import Derived.KernelRfl
import Derived.Test.YtimbiogcllmalaaDoorProg
import Derived.Test.YtimbiogcllmalaaDoorJ

/- Each printed function is the program's: printed by gen.py. -/
namespace Go.Ev
open Go Go.Proofs
theorem chk_decode_Dec_taken : chkFn Tryd.prog chkDrawn Tryd.f51 cf_decode_Dec_taken = true := by kernel_rfl
theorem at_decode_Dec_taken : Tryd.prog.funcs[F_decode_Dec_taken]? = some Tryd.f51 := by kernel_rfl
theorem chk_decode_Dec_tell : chkFn Tryd.prog chkDrawn Tryd.f52 cf_decode_Dec_tell = true := by kernel_rfl
theorem at_decode_Dec_tell : Tryd.prog.funcs[F_decode_Dec_tell]? = some Tryd.f52 := by kernel_rfl
theorem chk_word_hasRune : chkFn Tryd.prog chkDrawn Tryd.f53 cf_word_hasRune = true := by kernel_rfl
theorem at_word_hasRune : Tryd.prog.funcs[F_word_hasRune]? = some Tryd.f53 := by kernel_rfl
theorem chk_word_Reader_number : chkFn Tryd.prog chkDrawn Tryd.f54 cf_word_Reader_number = true := by kernel_rfl
theorem at_word_Reader_number : Tryd.prog.funcs[F_word_Reader_number]? = some Tryd.f54 := by kernel_rfl
theorem chk_runes_is : chkFn Tryd.prog chkDrawn Tryd.f55 cf_runes_is = true := by kernel_rfl
theorem at_runes_is : Tryd.prog.funcs[F_runes_is]? = some Tryd.f55 := by kernel_rfl
theorem chk_slices_pdqsortCmpFunc_runes_span : chkFn Tryd.prog chkDrawn Tryd.f56 cf_slices_pdqsortCmpFunc_runes_span = true := by kernel_rfl
theorem at_slices_pdqsortCmpFunc_runes_span : Tryd.prog.funcs[F_slices_pdqsortCmpFunc_runes_span]? = some Tryd.f56 := by kernel_rfl
theorem chk_bits_Len : chkFn Tryd.prog chkDrawn Tryd.f57 cf_bits_Len = true := by kernel_rfl
theorem at_bits_Len : Tryd.prog.funcs[F_bits_Len]? = some Tryd.f57 := by kernel_rfl
theorem chk_cmp_isNaN_int : chkFn Tryd.prog chkDrawn Tryd.f58 cf_cmp_isNaN_int = true := by kernel_rfl
theorem at_cmp_isNaN_int : Tryd.prog.funcs[F_cmp_isNaN_int]? = some Tryd.f58 := by kernel_rfl
theorem chk_decode_Dec_more : chkFn Tryd.prog chkDrawn Tryd.f60 cf_decode_Dec_more = true := by kernel_rfl
theorem at_decode_Dec_more : Tryd.prog.funcs[F_decode_Dec_more]? = some Tryd.f60 := by kernel_rfl
theorem chk_utf8_DecodeRune : chkFn Tryd.prog chkDrawn Tryd.f61 cf_utf8_DecodeRune = true := by kernel_rfl
theorem at_utf8_DecodeRune : Tryd.prog.funcs[F_utf8_DecodeRune]? = some Tryd.f61 := by kernel_rfl
theorem chk_word_Reader_Must : chkFn Tryd.prog chkDrawn Tryd.f62 cf_word_Reader_Must = true := by kernel_rfl
theorem at_word_Reader_Must : Tryd.prog.funcs[F_word_Reader_Must]? = some Tryd.f62 := by kernel_rfl
theorem chk_word_hex : chkFn Tryd.prog chkDrawn Tryd.f63 cf_word_hex = true := by kernel_rfl
theorem at_word_hex : Tryd.prog.funcs[F_word_hex]? = some Tryd.f63 := by kernel_rfl
theorem chk_slices_insertionSortCmpFunc_runes_span : chkFn Tryd.prog chkDrawn Tryd.f64 cf_slices_insertionSortCmpFunc_runes_span = true := by kernel_rfl
theorem at_slices_insertionSortCmpFunc_runes_span : Tryd.prog.funcs[F_slices_insertionSortCmpFunc_runes_span]? = some Tryd.f64 := by kernel_rfl
theorem chk_slices_heapSortCmpFunc_runes_span : chkFn Tryd.prog chkDrawn Tryd.f65 cf_slices_heapSortCmpFunc_runes_span = true := by kernel_rfl
theorem at_slices_heapSortCmpFunc_runes_span : Tryd.prog.funcs[F_slices_heapSortCmpFunc_runes_span]? = some Tryd.f65 := by kernel_rfl
theorem chk_slices_breakPatternsCmpFunc_runes_span : chkFn Tryd.prog chkDrawn Tryd.f66 cf_slices_breakPatternsCmpFunc_runes_span = true := by kernel_rfl
theorem at_slices_breakPatternsCmpFunc_runes_span : Tryd.prog.funcs[F_slices_breakPatternsCmpFunc_runes_span]? = some Tryd.f66 := by kernel_rfl
theorem chk_slices_choosePivotCmpFunc_runes_span : chkFn Tryd.prog chkDrawn Tryd.f67 cf_slices_choosePivotCmpFunc_runes_span = true := by kernel_rfl
theorem at_slices_choosePivotCmpFunc_runes_span : Tryd.prog.funcs[F_slices_choosePivotCmpFunc_runes_span]? = some Tryd.f67 := by kernel_rfl
theorem chk_slices_reverseRangeCmpFunc_runes_span : chkFn Tryd.prog chkDrawn Tryd.f68 cf_slices_reverseRangeCmpFunc_runes_span = true := by kernel_rfl
theorem at_slices_reverseRangeCmpFunc_runes_span : Tryd.prog.funcs[F_slices_reverseRangeCmpFunc_runes_span]? = some Tryd.f68 := by kernel_rfl
theorem chk_slices_partialInsertionSortCmpFunc_runes_span : chkFn Tryd.prog chkDrawn Tryd.f69 cf_slices_partialInsertionSortCmpFunc_runes_span = true := by kernel_rfl
theorem at_slices_partialInsertionSortCmpFunc_runes_span : Tryd.prog.funcs[F_slices_partialInsertionSortCmpFunc_runes_span]? = some Tryd.f69 := by kernel_rfl
theorem chk_slices_partitionEqualCmpFunc_runes_span : chkFn Tryd.prog chkDrawn Tryd.f70 cf_slices_partitionEqualCmpFunc_runes_span = true := by kernel_rfl
theorem at_slices_partitionEqualCmpFunc_runes_span : Tryd.prog.funcs[F_slices_partitionEqualCmpFunc_runes_span]? = some Tryd.f70 := by kernel_rfl
theorem chk_slices_partitionCmpFunc_runes_span : chkFn Tryd.prog chkDrawn Tryd.f71 cf_slices_partitionCmpFunc_runes_span = true := by kernel_rfl
theorem at_slices_partitionCmpFunc_runes_span : Tryd.prog.funcs[F_slices_partitionCmpFunc_runes_span]? = some Tryd.f71 := by kernel_rfl
theorem chk_bits_Len32 : chkFn Tryd.prog chkDrawn Tryd.f72 cf_bits_Len32 = true := by kernel_rfl
theorem at_bits_Len32 : Tryd.prog.funcs[F_bits_Len32]? = some Tryd.f72 := by kernel_rfl
theorem chk_bits_Len64 : chkFn Tryd.prog chkDrawn Tryd.f73 cf_bits_Len64 = true := by kernel_rfl
theorem at_bits_Len64 : Tryd.prog.funcs[F_bits_Len64]? = some Tryd.f73 := by kernel_rfl
theorem chk_decode_Dec_more_1 : chkFn Tryd.prog chkDrawn Tryd.f74 cf_decode_Dec_more_1 = true := by kernel_rfl
theorem at_decode_Dec_more_1 : Tryd.prog.funcs[F_decode_Dec_more_1]? = some Tryd.f74 := by kernel_rfl
theorem chk_decode_grow : chkFn Tryd.prog chkDrawn Tryd.f75 cf_decode_grow = true := by kernel_rfl
theorem at_decode_grow : Tryd.prog.funcs[F_decode_grow]? = some Tryd.f75 := by kernel_rfl
end Go.Ev

/- Each printed function is the program's: printed by gen.py. -/
namespace Go.Ev
open Go Go.Proofs
theorem chk_decode_long : chkFn Tryd.prog chkDrawn Tryd.f76 cf_decode_long = true := by kernel_rfl
theorem at_decode_long : Tryd.prog.funcs[F_decode_long]? = some Tryd.f76 := by kernel_rfl
theorem chk_utf8_decodeRuneSlow : chkFn Tryd.prog chkDrawn Tryd.f77 cf_utf8_decodeRuneSlow = true := by kernel_rfl
theorem at_utf8_decodeRuneSlow : Tryd.prog.funcs[F_utf8_decodeRuneSlow]? = some Tryd.f77 := by kernel_rfl
theorem chk_slices_siftDownCmpFunc_runes_span : chkFn Tryd.prog chkDrawn Tryd.f78 cf_slices_siftDownCmpFunc_runes_span = true := by kernel_rfl
theorem at_slices_siftDownCmpFunc_runes_span : Tryd.prog.funcs[F_slices_siftDownCmpFunc_runes_span]? = some Tryd.f78 := by kernel_rfl
theorem chk_slices_nextPowerOfTwo : chkFn Tryd.prog chkDrawn Tryd.f79 cf_slices_nextPowerOfTwo = true := by kernel_rfl
theorem at_slices_nextPowerOfTwo : Tryd.prog.funcs[F_slices_nextPowerOfTwo]? = some Tryd.f79 := by kernel_rfl
theorem chk_slices_xorshift_Next : chkFn Tryd.prog chkDrawn Tryd.f80 cf_slices_xorshift_Next = true := by kernel_rfl
theorem at_slices_xorshift_Next : Tryd.prog.funcs[F_slices_xorshift_Next]? = some Tryd.f80 := by kernel_rfl
theorem chk_slices_medianAdjacentCmpFunc_runes_span : chkFn Tryd.prog chkDrawn Tryd.f81 cf_slices_medianAdjacentCmpFunc_runes_span = true := by kernel_rfl
theorem at_slices_medianAdjacentCmpFunc_runes_span : Tryd.prog.funcs[F_slices_medianAdjacentCmpFunc_runes_span]? = some Tryd.f81 := by kernel_rfl
theorem chk_slices_medianCmpFunc_runes_span : chkFn Tryd.prog chkDrawn Tryd.f82 cf_slices_medianCmpFunc_runes_span = true := by kernel_rfl
theorem at_slices_medianCmpFunc_runes_span : Tryd.prog.funcs[F_slices_medianCmpFunc_runes_span]? = some Tryd.f82 := by kernel_rfl
theorem chk_decode_second : chkFn Tryd.prog chkDrawn Tryd.f83 cf_decode_second = true := by kernel_rfl
theorem at_decode_second : Tryd.prog.funcs[F_decode_second]? = some Tryd.f83 := by kernel_rfl
theorem chk_slices_Clone_byte_byte : chkFn Tryd.prog chkDrawn Tryd.f84 cf_slices_Clone_byte_byte = true := by kernel_rfl
theorem at_slices_Clone_byte_byte : Tryd.prog.funcs[F_slices_Clone_byte_byte]? = some Tryd.f84 := by kernel_rfl
theorem chk_slices_order2CmpFunc_runes_span : chkFn Tryd.prog chkDrawn Tryd.f85 cf_slices_order2CmpFunc_runes_span = true := by kernel_rfl
theorem at_slices_order2CmpFunc_runes_span : Tryd.prog.funcs[F_slices_order2CmpFunc_runes_span]? = some Tryd.f85 := by kernel_rfl
end Go.Ev

/- The table is the program's: printed by gen.py. -/
namespace Go.Ev
open Go Go.Proofs
theorem table : Table Tryd.prog chkDrawn bt.get := BT.table (P := Tryd.prog) bt (⟨⟨⟨⟨⟨⟨⟨_, at_gobolaw12_WordPlaces, chk_gobolaw12_WordPlaces⟩, ⟨_, at_gobolaw12_WordBlanks, chk_gobolaw12_WordBlanks⟩⟩, ⟨⟨_, at_gobolaw12_WordKinds, chk_gobolaw12_WordKinds⟩, ⟨⟨_, at_gobolaw12_WordClasses, chk_gobolaw12_WordClasses⟩, ⟨_, at_gobolaw12_told, chk_gobolaw12_told⟩⟩⟩⟩, ⟨⟨⟨_, at_word_All, chk_word_All⟩, ⟨_, at_word_Class, chk_word_Class⟩⟩, ⟨⟨_, at_runes_Or, chk_runes_Or⟩, ⟨⟨_, at_runes_Same, chk_runes_Same⟩, ⟨_, at_runes_Not, chk_runes_Not⟩⟩⟩⟩⟩, ⟨⟨⟨⟨_, at_word_Caught, chk_word_Caught⟩, ⟨_, at_word_All_1, chk_word_All_1⟩⟩, ⟨⟨_, at_word_words, chk_word_words⟩, ⟨⟨_, at_decode_All, chk_decode_All⟩, ⟨_, at_word_Class_1, chk_word_Class_1⟩⟩⟩⟩, ⟨⟨⟨_, at_word_Read, chk_word_Read⟩, ⟨_, at_word_Reader_Class, chk_word_Reader_Class⟩⟩, ⟨⟨_, at_runes_Norm, chk_runes_Norm⟩, ⟨⟨_, at_slices_Concat_api_Range_api_Range, chk_slices_Concat_api_Range_api_Range⟩, ⟨_, at_slices_Equal_api_Range_api_Range, chk_slices_Equal_api_Range_api_Range⟩⟩⟩⟩⟩⟩, ⟨⟨⟨⟨⟨_, at_runes_Not_1, chk_runes_Not_1⟩, ⟨_, at_runes_spans, chk_runes_spans⟩⟩, ⟨⟨_, at_runes_ranges, chk_runes_ranges⟩, ⟨⟨_, at_word_Caught_1, chk_word_Caught_1⟩, ⟨_, at_word_run, chk_word_run⟩⟩⟩⟩, ⟨⟨⟨_, at_word_words_1, chk_word_words_1⟩, ⟨_, at_word_letter, chk_word_letter⟩⟩, ⟨⟨_, at_word_words_2, chk_word_words_2⟩, ⟨⟨_, at_word_digit, chk_word_digit⟩, ⟨_, at_strings_IndexByte, chk_strings_IndexByte⟩⟩⟩⟩⟩, ⟨⟨⟨⟨_, at_word_closed, chk_word_closed⟩, ⟨_, at_word_Fail, chk_word_Fail⟩⟩, ⟨⟨_, at_decode_New, chk_decode_New⟩, ⟨⟨_, at_decode_Dec_Feed, chk_decode_Dec_Feed⟩, ⟨_, at_decode_Dec_Close, chk_decode_Dec_Close⟩⟩⟩⟩, ⟨⟨⟨_, at_word_Reader_Skip, chk_word_Reader_Skip⟩, ⟨⟨_, at_word_Reader_Peek, chk_word_Reader_Peek⟩, ⟨_, at_word_Reader_Rune, chk_word_Reader_Rune⟩⟩⟩, ⟨⟨_, at_word_Reader_At, chk_word_Reader_At⟩, ⟨⟨_, at_slices_Grow_api_Range_api_Range, chk_slices_Grow_api_Range_api_Range⟩, ⟨_, at_runes_number, chk_runes_number⟩⟩⟩⟩⟩⟩⟩, ⟨⟨⟨⟨⟨⟨_, at_runes_behind, chk_runes_behind⟩, ⟨_, at_slices_SortFunc_runes_span_runes_span, chk_slices_SortFunc_runes_span_runes_span⟩⟩, ⟨⟨_, at_runes_spans_1, chk_runes_spans_1⟩, ⟨⟨_, at_cmp_Compare_int, chk_cmp_Compare_int⟩, ⟨_, at_runes_value, chk_runes_value⟩⟩⟩⟩, ⟨⟨⟨_, at_stringslite_IndexByte, chk_stringslite_IndexByte⟩, ⟨_, at_decode_Dec_take, chk_decode_Dec_take⟩⟩, ⟨⟨_, at_decode_Dec_taken, chk_decode_Dec_taken⟩, ⟨⟨_, at_decode_Dec_tell, chk_decode_Dec_tell⟩, ⟨_, at_word_hasRune, chk_word_hasRune⟩⟩⟩⟩⟩, ⟨⟨⟨⟨_, at_word_Reader_number, chk_word_Reader_number⟩, ⟨_, at_runes_is, chk_runes_is⟩⟩, ⟨⟨_, at_slices_pdqsortCmpFunc_runes_span, chk_slices_pdqsortCmpFunc_runes_span⟩, ⟨⟨_, at_bits_Len, chk_bits_Len⟩, ⟨_, at_cmp_isNaN_int, chk_cmp_isNaN_int⟩⟩⟩⟩, ⟨⟨⟨_, at_decode_Dec_more, chk_decode_Dec_more⟩, ⟨_, at_utf8_DecodeRune, chk_utf8_DecodeRune⟩⟩, ⟨⟨_, at_word_Reader_Must, chk_word_Reader_Must⟩, ⟨⟨_, at_word_hex, chk_word_hex⟩, ⟨_, at_slices_insertionSortCmpFunc_runes_span, chk_slices_insertionSortCmpFunc_runes_span⟩⟩⟩⟩⟩⟩, ⟨⟨⟨⟨⟨_, at_slices_heapSortCmpFunc_runes_span, chk_slices_heapSortCmpFunc_runes_span⟩, ⟨_, at_slices_breakPatternsCmpFunc_runes_span, chk_slices_breakPatternsCmpFunc_runes_span⟩⟩, ⟨⟨_, at_slices_choosePivotCmpFunc_runes_span, chk_slices_choosePivotCmpFunc_runes_span⟩, ⟨⟨_, at_slices_reverseRangeCmpFunc_runes_span, chk_slices_reverseRangeCmpFunc_runes_span⟩, ⟨_, at_slices_partialInsertionSortCmpFunc_runes_span, chk_slices_partialInsertionSortCmpFunc_runes_span⟩⟩⟩⟩, ⟨⟨⟨_, at_slices_partitionEqualCmpFunc_runes_span, chk_slices_partitionEqualCmpFunc_runes_span⟩, ⟨_, at_slices_partitionCmpFunc_runes_span, chk_slices_partitionCmpFunc_runes_span⟩⟩, ⟨⟨_, at_bits_Len32, chk_bits_Len32⟩, ⟨⟨_, at_bits_Len64, chk_bits_Len64⟩, ⟨_, at_decode_Dec_more_1, chk_decode_Dec_more_1⟩⟩⟩⟩⟩, ⟨⟨⟨⟨_, at_decode_grow, chk_decode_grow⟩, ⟨_, at_decode_long, chk_decode_long⟩⟩, ⟨⟨_, at_utf8_decodeRuneSlow, chk_utf8_decodeRuneSlow⟩, ⟨⟨_, at_slices_siftDownCmpFunc_runes_span, chk_slices_siftDownCmpFunc_runes_span⟩, ⟨_, at_slices_nextPowerOfTwo, chk_slices_nextPowerOfTwo⟩⟩⟩⟩, ⟨⟨⟨_, at_slices_xorshift_Next, chk_slices_xorshift_Next⟩, ⟨⟨_, at_slices_medianAdjacentCmpFunc_runes_span, chk_slices_medianAdjacentCmpFunc_runes_span⟩, ⟨_, at_slices_medianCmpFunc_runes_span, chk_slices_medianCmpFunc_runes_span⟩⟩⟩, ⟨⟨_, at_decode_second, chk_decode_second⟩, ⟨⟨_, at_slices_Clone_byte_byte, chk_slices_Clone_byte_byte⟩, ⟨_, at_slices_order2CmpFunc_runes_span, chk_slices_order2CmpFunc_runes_span⟩⟩⟩⟩⟩⟩⟩⟩)
end Go.Ev

/- The package-level variables that the rows list. -/
namespace Go.Ev
open Go Go.Proofs
def glFirst : List AV := [.int .u8 240, .int .u8 240, .int .u8 240, .int .u8 240, .int .u8 240, .int .u8 240, .int .u8 240, .int .u8 240, .int .u8 240, .int .u8 240, .int .u8 240, .int .u8 240, .int .u8 240, .int .u8 240, .int .u8 240, .int .u8 240, .int .u8 240, .int .u8 240, .int .u8 240, .int .u8 240, .int .u8 240, .int .u8 240, .int .u8 240, .int .u8 240, .int .u8 240, .int .u8 240, .int .u8 240, .int .u8 240, .int .u8 240, .int .u8 240, .int .u8 240, .int .u8 240, .int .u8 240, .int .u8 240, .int .u8 240, .int .u8 240, .int .u8 240, .int .u8 240, .int .u8 240, .int .u8 240, .int .u8 240, .int .u8 240, .int .u8 240, .int .u8 240, .int .u8 240, .int .u8 240, .int .u8 240, .int .u8 240, .int .u8 240, .int .u8 240, .int .u8 240, .int .u8 240, .int .u8 240, .int .u8 240, .int .u8 240, .int .u8 240, .int .u8 240, .int .u8 240, .int .u8 240, .int .u8 240, .int .u8 240, .int .u8 240, .int .u8 240, .int .u8 240, .int .u8 240, .int .u8 240, .int .u8 240, .int .u8 240, .int .u8 240, .int .u8 240, .int .u8 240, .int .u8 240, .int .u8 240, .int .u8 240, .int .u8 240, .int .u8 240, .int .u8 240, .int .u8 240, .int .u8 240, .int .u8 240, .int .u8 240, .int .u8 240, .int .u8 240, .int .u8 240, .int .u8 240, .int .u8 240, .int .u8 240, .int .u8 240, .int .u8 240, .int .u8 240, .int .u8 240, .int .u8 240, .int .u8 240, .int .u8 240, .int .u8 240, .int .u8 240, .int .u8 240, .int .u8 240, .int .u8 240, .int .u8 240, .int .u8 240, .int .u8 240, .int .u8 240, .int .u8 240, .int .u8 240, .int .u8 240, .int .u8 240, .int .u8 240, .int .u8 240, .int .u8 240, .int .u8 240, .int .u8 240, .int .u8 240, .int .u8 240, .int .u8 240, .int .u8 240, .int .u8 240, .int .u8 240, .int .u8 240, .int .u8 240, .int .u8 240, .int .u8 240, .int .u8 240, .int .u8 240, .int .u8 240, .int .u8 240, .int .u8 240, .int .u8 240, .int .u8 241, .int .u8 241, .int .u8 241, .int .u8 241, .int .u8 241, .int .u8 241, .int .u8 241, .int .u8 241, .int .u8 241, .int .u8 241, .int .u8 241, .int .u8 241, .int .u8 241, .int .u8 241, .int .u8 241, .int .u8 241, .int .u8 241, .int .u8 241, .int .u8 241, .int .u8 241, .int .u8 241, .int .u8 241, .int .u8 241, .int .u8 241, .int .u8 241, .int .u8 241, .int .u8 241, .int .u8 241, .int .u8 241, .int .u8 241, .int .u8 241, .int .u8 241, .int .u8 241, .int .u8 241, .int .u8 241, .int .u8 241, .int .u8 241, .int .u8 241, .int .u8 241, .int .u8 241, .int .u8 241, .int .u8 241, .int .u8 241, .int .u8 241, .int .u8 241, .int .u8 241, .int .u8 241, .int .u8 241, .int .u8 241, .int .u8 241, .int .u8 241, .int .u8 241, .int .u8 241, .int .u8 241, .int .u8 241, .int .u8 241, .int .u8 241, .int .u8 241, .int .u8 241, .int .u8 241, .int .u8 241, .int .u8 241, .int .u8 241, .int .u8 241, .int .u8 241, .int .u8 241, .int .u8 2, .int .u8 2, .int .u8 2, .int .u8 2, .int .u8 2, .int .u8 2, .int .u8 2, .int .u8 2, .int .u8 2, .int .u8 2, .int .u8 2, .int .u8 2, .int .u8 2, .int .u8 2, .int .u8 2, .int .u8 2, .int .u8 2, .int .u8 2, .int .u8 2, .int .u8 2, .int .u8 2, .int .u8 2, .int .u8 2, .int .u8 2, .int .u8 2, .int .u8 2, .int .u8 2, .int .u8 2, .int .u8 2, .int .u8 2, .int .u8 19, .int .u8 3, .int .u8 3, .int .u8 3, .int .u8 3, .int .u8 3, .int .u8 3, .int .u8 3, .int .u8 3, .int .u8 3, .int .u8 3, .int .u8 3, .int .u8 3, .int .u8 35, .int .u8 3, .int .u8 3, .int .u8 52, .int .u8 4, .int .u8 4, .int .u8 4, .int .u8 68, .int .u8 241, .int .u8 241, .int .u8 241, .int .u8 241, .int .u8 241, .int .u8 241, .int .u8 241, .int .u8 241, .int .u8 241, .int .u8 241, .int .u8 241]
def glAccept : List AV := [.int .u8 128, .int .u8 191, .int .u8 160, .int .u8 191, .int .u8 128, .int .u8 159, .int .u8 144, .int .u8 191, .int .u8 128, .int .u8 143, .int .u8 0, .int .u8 0, .int .u8 0, .int .u8 0, .int .u8 0, .int .u8 0, .int .u8 0, .int .u8 0, .int .u8 0, .int .u8 0, .int .u8 0, .int .u8 0, .int .u8 0, .int .u8 0, .int .u8 0, .int .u8 0, .int .u8 0, .int .u8 0, .int .u8 0, .int .u8 0, .int .u8 0, .int .u8 0]
def gl : List Blk := [.dead, .cells glFirst .ro, .cells glAccept .ro]
theorem gl_ok : gl.all glBlk = true := by kernel_rfl
theorem gl_len : gl.length = Tryd.prog.globals.size := by kernel_rfl
/-- Does it come to 'true'? -/
def retB : Option (Ev.End × Heap) → Bool
  | some (.ret (.bool b), _) => b
  | _ => false
theorem retB_some {x : Option (Ev.End × Heap)} (h : retB x = true) : ∃ H, x = some (.ret (.bool true), H) := by
  unfold retB at h
  split at h
  · subst h; exact ⟨_, rfl⟩
  · cases h
theorem callOK (n B : Nat) : CallOK Tryd.prog B (evFn bt.get n) := fn_sound table (drawn_all _) n
theorem told_run : retB (evFn bt.get 1000 F_gobolaw12_told [] (glHeap gl)) = true := by kernel_rfl
/-- 'told' comes to true. -/
def callT : FuncId → List AV → Heap → Option (Ev.End × Heap) := orCall (pureCall gl F_gobolaw12_told [] (.bool true)) (evFn bt.get 1000)
theorem callT_ok (B : Nat) : CallOK Tryd.prog B callT := by
  obtain ⟨H, h⟩ := retB_some told_run
  exact (pureCall_ok (callOK 1000 B) gl_ok gl_len rfl rfl h).or (callOK 1000 B)
end Go.Ev
