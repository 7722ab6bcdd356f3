/- Each printed function is the program's: printed by gen.py. -/
import Derived.Test.YtimbiogcllmalaaDoorWTab
import Derived.Test.YtimbiogcllmalaaDoorEvX
import Derived.KernelRfl
import Derived.Test.YtimbiogcllmalaaDoorProg
namespace Go.Ev
open Go Go.Proofs
theorem chk_decode_Dec_taken : chkFn Tryd.prog chkDrawn Tryd.f51 cf_decode_Dec_taken = true := by kernel_rfl
theorem at_decode_Dec_taken : Tryd.prog.funcs[F_decode_Dec_taken]? = some Tryd.f51 := by kernel_rfl
theorem chk_decode_Dec_tell : chkFn Tryd.prog chkDrawn Tryd.f52 cf_decode_Dec_tell = true := by kernel_rfl
theorem at_decode_Dec_tell : Tryd.prog.funcs[F_decode_Dec_tell]? = some Tryd.f52 := by kernel_rfl
theorem chk_word_hasRune : chkFn Tryd.prog chkDrawn Tryd.f53 cf_word_hasRune = true := by kernel_rfl
theorem at_word_hasRune : Tryd.prog.funcs[F_word_hasRune]? = some Tryd.f53 := by kernel_rfl
theorem chk_word_Reader_number : chkFn Tryd.prog chkDrawn Tryd.f54 cf_word_Reader_number = true := by kernel_rfl
theorem at_word_Reader_number : Tryd.prog.funcs[F_word_Reader_number]? = some Tryd.f54 := by kernel_rfl
theorem chk_runes_is : chkFn Tryd.prog chkDrawn Tryd.f55 cf_runes_is = true := by kernel_rfl
theorem at_runes_is : Tryd.prog.funcs[F_runes_is]? = some Tryd.f55 := by kernel_rfl
theorem chk_slices_pdqsortCmpFunc_runes_span : chkFn Tryd.prog chkDrawn Tryd.f56 cf_slices_pdqsortCmpFunc_runes_span = true := by kernel_rfl
theorem at_slices_pdqsortCmpFunc_runes_span : Tryd.prog.funcs[F_slices_pdqsortCmpFunc_runes_span]? = some Tryd.f56 := by kernel_rfl
theorem chk_bits_Len : chkFn Tryd.prog chkDrawn Tryd.f57 cf_bits_Len = true := by kernel_rfl
theorem at_bits_Len : Tryd.prog.funcs[F_bits_Len]? = some Tryd.f57 := by kernel_rfl
theorem chk_cmp_isNaN_int : chkFn Tryd.prog chkDrawn Tryd.f58 cf_cmp_isNaN_int = true := by kernel_rfl
theorem at_cmp_isNaN_int : Tryd.prog.funcs[F_cmp_isNaN_int]? = some Tryd.f58 := by kernel_rfl
theorem chk_decode_Dec_more : chkFn Tryd.prog chkDrawn Tryd.f60 cf_decode_Dec_more = true := by kernel_rfl
theorem at_decode_Dec_more : Tryd.prog.funcs[F_decode_Dec_more]? = some Tryd.f60 := by kernel_rfl
theorem chk_utf8_DecodeRune : chkFn Tryd.prog chkDrawn Tryd.f61 cf_utf8_DecodeRune = true := by kernel_rfl
theorem at_utf8_DecodeRune : Tryd.prog.funcs[F_utf8_DecodeRune]? = some Tryd.f61 := by kernel_rfl
theorem chk_word_Reader_Must : chkFn Tryd.prog chkDrawn Tryd.f62 cf_word_Reader_Must = true := by kernel_rfl
theorem at_word_Reader_Must : Tryd.prog.funcs[F_word_Reader_Must]? = some Tryd.f62 := by kernel_rfl
theorem chk_word_hex : chkFn Tryd.prog chkDrawn Tryd.f63 cf_word_hex = true := by kernel_rfl
theorem at_word_hex : Tryd.prog.funcs[F_word_hex]? = some Tryd.f63 := by kernel_rfl
theorem chk_slices_insertionSortCmpFunc_runes_span : chkFn Tryd.prog chkDrawn Tryd.f64 cf_slices_insertionSortCmpFunc_runes_span = true := by kernel_rfl
theorem at_slices_insertionSortCmpFunc_runes_span : Tryd.prog.funcs[F_slices_insertionSortCmpFunc_runes_span]? = some Tryd.f64 := by kernel_rfl
theorem chk_slices_heapSortCmpFunc_runes_span : chkFn Tryd.prog chkDrawn Tryd.f65 cf_slices_heapSortCmpFunc_runes_span = true := by kernel_rfl
theorem at_slices_heapSortCmpFunc_runes_span : Tryd.prog.funcs[F_slices_heapSortCmpFunc_runes_span]? = some Tryd.f65 := by kernel_rfl
theorem chk_slices_breakPatternsCmpFunc_runes_span : chkFn Tryd.prog chkDrawn Tryd.f66 cf_slices_breakPatternsCmpFunc_runes_span = true := by kernel_rfl
theorem at_slices_breakPatternsCmpFunc_runes_span : Tryd.prog.funcs[F_slices_breakPatternsCmpFunc_runes_span]? = some Tryd.f66 := by kernel_rfl
theorem chk_slices_choosePivotCmpFunc_runes_span : chkFn Tryd.prog chkDrawn Tryd.f67 cf_slices_choosePivotCmpFunc_runes_span = true := by kernel_rfl
theorem at_slices_choosePivotCmpFunc_runes_span : Tryd.prog.funcs[F_slices_choosePivotCmpFunc_runes_span]? = some Tryd.f67 := by kernel_rfl
theorem chk_slices_reverseRangeCmpFunc_runes_span : chkFn Tryd.prog chkDrawn Tryd.f68 cf_slices_reverseRangeCmpFunc_runes_span = true := by kernel_rfl
theorem at_slices_reverseRangeCmpFunc_runes_span : Tryd.prog.funcs[F_slices_reverseRangeCmpFunc_runes_span]? = some Tryd.f68 := by kernel_rfl
theorem chk_slices_partialInsertionSortCmpFunc_runes_span : chkFn Tryd.prog chkDrawn Tryd.f69 cf_slices_partialInsertionSortCmpFunc_runes_span = true := by kernel_rfl
theorem at_slices_partialInsertionSortCmpFunc_runes_span : Tryd.prog.funcs[F_slices_partialInsertionSortCmpFunc_runes_span]? = some Tryd.f69 := by kernel_rfl
theorem chk_slices_partitionEqualCmpFunc_runes_span : chkFn Tryd.prog chkDrawn Tryd.f70 cf_slices_partitionEqualCmpFunc_runes_span = true := by kernel_rfl
theorem at_slices_partitionEqualCmpFunc_runes_span : Tryd.prog.funcs[F_slices_partitionEqualCmpFunc_runes_span]? = some Tryd.f70 := by kernel_rfl
theorem chk_slices_partitionCmpFunc_runes_span : chkFn Tryd.prog chkDrawn Tryd.f71 cf_slices_partitionCmpFunc_runes_span = true := by kernel_rfl
theorem at_slices_partitionCmpFunc_runes_span : Tryd.prog.funcs[F_slices_partitionCmpFunc_runes_span]? = some Tryd.f71 := by kernel_rfl
theorem chk_bits_Len32 : chkFn Tryd.prog chkDrawn Tryd.f72 cf_bits_Len32 = true := by kernel_rfl
theorem at_bits_Len32 : Tryd.prog.funcs[F_bits_Len32]? = some Tryd.f72 := by kernel_rfl
theorem chk_bits_Len64 : chkFn Tryd.prog chkDrawn Tryd.f73 cf_bits_Len64 = true := by kernel_rfl
theorem at_bits_Len64 : Tryd.prog.funcs[F_bits_Len64]? = some Tryd.f73 := by kernel_rfl
theorem chk_decode_Dec_more_1 : chkFn Tryd.prog chkDrawn Tryd.f74 cf_decode_Dec_more_1 = true := by kernel_rfl
theorem at_decode_Dec_more_1 : Tryd.prog.funcs[F_decode_Dec_more_1]? = some Tryd.f74 := by kernel_rfl
theorem chk_decode_grow : chkFn Tryd.prog chkDrawn Tryd.f75 cf_decode_grow = true := by kernel_rfl
theorem at_decode_grow : Tryd.prog.funcs[F_decode_grow]? = some Tryd.f75 := by kernel_rfl
end Go.Ev
