/- Each printed function is the program's: printed by gen.py. -/
import Derived.Test.YtimbiogcllmalaaDoorWTab
import Derived.Test.YtimbiogcllmalaaDoorEvX
import Derived.KernelRfl
import Derived.Test.YtimbiogcllmalaaDoorProg
namespace Go.Ev
open Go Go.Proofs
theorem chk_gobolaw12_WordPlaces : chkFn Tryd.prog chkDrawn Tryd.f3 cf_gobolaw12_WordPlaces = true := by kernel_rfl
theorem at_gobolaw12_WordPlaces : Tryd.prog.funcs[F_gobolaw12_WordPlaces]? = some Tryd.f3 := by kernel_rfl
theorem chk_gobolaw12_WordBlanks : chkFn Tryd.prog chkDrawn Tryd.f4 cf_gobolaw12_WordBlanks = true := by kernel_rfl
theorem at_gobolaw12_WordBlanks : Tryd.prog.funcs[F_gobolaw12_WordBlanks]? = some Tryd.f4 := by kernel_rfl
theorem chk_gobolaw12_WordKinds : chkFn Tryd.prog chkDrawn Tryd.f5 cf_gobolaw12_WordKinds = true := by kernel_rfl
theorem at_gobolaw12_WordKinds : Tryd.prog.funcs[F_gobolaw12_WordKinds]? = some Tryd.f5 := by kernel_rfl
theorem chk_gobolaw12_WordClasses : chkFn Tryd.prog chkDrawn Tryd.f6 cf_gobolaw12_WordClasses = true := by kernel_rfl
theorem at_gobolaw12_WordClasses : Tryd.prog.funcs[F_gobolaw12_WordClasses]? = some Tryd.f6 := by kernel_rfl
theorem chk_gobolaw12_told : chkFn Tryd.prog chkDrawn Tryd.f7 cf_gobolaw12_told = true := by kernel_rfl
theorem at_gobolaw12_told : Tryd.prog.funcs[F_gobolaw12_told]? = some Tryd.f7 := by kernel_rfl
theorem chk_word_All : chkFn Tryd.prog chkDrawn Tryd.f8 cf_word_All = true := by kernel_rfl
theorem at_word_All : Tryd.prog.funcs[F_word_All]? = some Tryd.f8 := by kernel_rfl
theorem chk_word_Class : chkFn Tryd.prog chkDrawn Tryd.f9 cf_word_Class = true := by kernel_rfl
theorem at_word_Class : Tryd.prog.funcs[F_word_Class]? = some Tryd.f9 := by kernel_rfl
theorem chk_runes_Or : chkFn Tryd.prog chkDrawn Tryd.f10 cf_runes_Or = true := by kernel_rfl
theorem at_runes_Or : Tryd.prog.funcs[F_runes_Or]? = some Tryd.f10 := by kernel_rfl
theorem chk_runes_Same : chkFn Tryd.prog chkDrawn Tryd.f11 cf_runes_Same = true := by kernel_rfl
theorem at_runes_Same : Tryd.prog.funcs[F_runes_Same]? = some Tryd.f11 := by kernel_rfl
theorem chk_runes_Not : chkFn Tryd.prog chkDrawn Tryd.f12 cf_runes_Not = true := by kernel_rfl
theorem at_runes_Not : Tryd.prog.funcs[F_runes_Not]? = some Tryd.f12 := by kernel_rfl
theorem chk_word_Caught : chkFn Tryd.prog chkDrawn Tryd.f13 cf_word_Caught = true := by kernel_rfl
theorem at_word_Caught : Tryd.prog.funcs[F_word_Caught]? = some Tryd.f13 := by kernel_rfl
theorem chk_word_All_1 : chkFn Tryd.prog chkDrawn Tryd.f14 cf_word_All_1 = true := by kernel_rfl
theorem at_word_All_1 : Tryd.prog.funcs[F_word_All_1]? = some Tryd.f14 := by kernel_rfl
theorem chk_word_words : chkFn Tryd.prog chkDrawn Tryd.f15 cf_word_words = true := by kernel_rfl
theorem at_word_words : Tryd.prog.funcs[F_word_words]? = some Tryd.f15 := by kernel_rfl
theorem chk_decode_All : chkFn Tryd.prog chkDrawn Tryd.f16 cf_decode_All = true := by kernel_rfl
theorem at_decode_All : Tryd.prog.funcs[F_decode_All]? = some Tryd.f16 := by kernel_rfl
theorem chk_word_Class_1 : chkFn Tryd.prog chkDrawn Tryd.f17 cf_word_Class_1 = true := by kernel_rfl
theorem at_word_Class_1 : Tryd.prog.funcs[F_word_Class_1]? = some Tryd.f17 := by kernel_rfl
theorem chk_word_Read : chkFn Tryd.prog chkDrawn Tryd.f18 cf_word_Read = true := by kernel_rfl
theorem at_word_Read : Tryd.prog.funcs[F_word_Read]? = some Tryd.f18 := by kernel_rfl
theorem chk_word_Reader_Class : chkFn Tryd.prog chkDrawn Tryd.f19 cf_word_Reader_Class = true := by kernel_rfl
theorem at_word_Reader_Class : Tryd.prog.funcs[F_word_Reader_Class]? = some Tryd.f19 := by kernel_rfl
theorem chk_runes_Norm : chkFn Tryd.prog chkDrawn Tryd.f20 cf_runes_Norm = true := by kernel_rfl
theorem at_runes_Norm : Tryd.prog.funcs[F_runes_Norm]? = some Tryd.f20 := by kernel_rfl
theorem chk_slices_Concat_api_Range_api_Range : chkFn Tryd.prog chkDrawn Tryd.f21 cf_slices_Concat_api_Range_api_Range = true := by kernel_rfl
theorem at_slices_Concat_api_Range_api_Range : Tryd.prog.funcs[F_slices_Concat_api_Range_api_Range]? = some Tryd.f21 := by kernel_rfl
theorem chk_slices_Equal_api_Range_api_Range : chkFn Tryd.prog chkDrawn Tryd.f22 cf_slices_Equal_api_Range_api_Range = true := by kernel_rfl
theorem at_slices_Equal_api_Range_api_Range : Tryd.prog.funcs[F_slices_Equal_api_Range_api_Range]? = some Tryd.f22 := by kernel_rfl
theorem chk_runes_Not_1 : chkFn Tryd.prog chkDrawn Tryd.f23 cf_runes_Not_1 = true := by kernel_rfl
theorem at_runes_Not_1 : Tryd.prog.funcs[F_runes_Not_1]? = some Tryd.f23 := by kernel_rfl
theorem chk_runes_spans : chkFn Tryd.prog chkDrawn Tryd.f24 cf_runes_spans = true := by kernel_rfl
theorem at_runes_spans : Tryd.prog.funcs[F_runes_spans]? = some Tryd.f24 := by kernel_rfl
theorem chk_runes_ranges : chkFn Tryd.prog chkDrawn Tryd.f25 cf_runes_ranges = true := by kernel_rfl
theorem at_runes_ranges : Tryd.prog.funcs[F_runes_ranges]? = some Tryd.f25 := by kernel_rfl
theorem chk_word_Caught_1 : chkFn Tryd.prog chkDrawn Tryd.f26 cf_word_Caught_1 = true := by kernel_rfl
theorem at_word_Caught_1 : Tryd.prog.funcs[F_word_Caught_1]? = some Tryd.f26 := by kernel_rfl
end Go.Ev
