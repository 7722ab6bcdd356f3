/- Several texts of this claim, joined. -/
import Derived.Test.YtimbiogcllmalaaDoorH
import Derived.Test.YtimbiogcllmalaaDoorF

/- Functions of the program, printed by gen.py. -/
namespace Go.Ev
open Go
/- (*gobo/word.Reader).Must -/
def bd_word_Reader_Must : CCode :=
 .seq (.reg [⟨.t 4, .mov (.p 0), none⟩,
    ⟨.t 5, .mov (.p 1), none⟩,
    ⟨.t 6, .call F_word_Reader_Skip [.t 4, .t 5], none⟩,
    ⟨.p 7, .un .not (.t 6), none⟩])
    (.cond (.p 7)
    (.reg [⟨.t 8, .mov (.p 0), none⟩,
    ⟨.t 9, .call F_word_Reader_At [.t 8], none⟩,
    ⟨.t 10, .call F_word_Fail [.c (.int .i64 3), .t 9], none⟩])
    (.skip))
def cf_word_Reader_Must : CFunc :=
{ nargs := 2, ps := [0, 1, 7], results := [], body := bd_word_Reader_Must }

/- gobo/word.hex -/
def bd_word_hex : CCode :=
 .seq (.reg [⟨.p 2, .mov (.c (.int .i32 0)), none⟩])
    (.seq (.block 0 []
    (.seq (.reg [⟨.t 4, .mov (.p 0), none⟩,
    ⟨.t 5, .bin .geq (.t 4) (.c (.int .i32 48)), none⟩,
    ⟨.t 6, .mov (.t 5), none⟩,
    ⟨.t 7, .mov (.p 0), some (.t 6, true)⟩,
    ⟨.t 8, .bin .leq (.t 7) (.c (.int .i32 57)), some (.t 6, true)⟩,
    ⟨.t 9, .pick (.t 6) (.t 8) (.c (.bool false)), none⟩,
    ⟨.p 3, .mov (.t 9), none⟩])
    (.cond (.p 3)
    (.seq (.reg [⟨.t 10, .mov (.p 0), none⟩,
    ⟨.t 11, .bin .sub (.t 10) (.c (.int .i32 48)), none⟩,
    ⟨.p 2, .mov (.t 11), none⟩])
    (.ret))
    (.seq (.reg [⟨.t 13, .mov (.p 0), none⟩,
    ⟨.t 14, .bin .geq (.t 13) (.c (.int .i32 65)), none⟩,
    ⟨.t 15, .mov (.t 14), none⟩,
    ⟨.t 16, .mov (.p 0), some (.t 15, true)⟩,
    ⟨.t 17, .bin .leq (.t 16) (.c (.int .i32 70)), some (.t 15, true)⟩,
    ⟨.t 18, .pick (.t 15) (.t 17) (.c (.bool false)), none⟩,
    ⟨.p 12, .mov (.t 18), none⟩])
    (.cond (.p 12)
    (.seq (.reg [⟨.t 19, .mov (.p 0), none⟩,
    ⟨.t 20, .bin .sub (.t 19) (.c (.int .i32 65)), none⟩,
    ⟨.t 21, .bin .add (.t 20) (.c (.int .i32 10)), none⟩,
    ⟨.p 2, .mov (.t 21), none⟩])
    (.ret))
    (.skip))))))
    (.seq (.reg [⟨.p 2, .mov (.c (.int .i32 (-1))), none⟩])
    (.ret)))
def cf_word_hex : CFunc :=
{ nargs := 1, ps := [0, 2, 3, 12], results := [.slot 2], body := bd_word_hex }

/- slices.insertionSortCmpFunc[gobo/runes.span] -/
def lb_slices_insertionSortCmpFunc_runes_span_0 : CCode :=
 .seq (.seq (.dreg [⟨⟨.t 18, .mov (.p 9), none⟩, false, false, []⟩,
    ⟨⟨.t 19, .mov (.p 1), none⟩, false, false, []⟩,
    ⟨⟨.t 20, .bin .gtr (.t 18) (.t 19), none⟩, false, false, []⟩,
    ⟨⟨.t 21, .mov (.t 20), none⟩, false, false, []⟩,
    ⟨⟨.t 22, .mov (.p 3), some (.t 21, true)⟩, false, false, []⟩,
    ⟨⟨.t 23, .mov (.p 0), some (.t 21, true)⟩, false, false, []⟩,
    ⟨⟨.t 24, .mov (.p 9), some (.t 21, true)⟩, false, false, []⟩,
    ⟨⟨.t 25, .idxAddr 2 (.t 23) (.t 24), some (.t 21, true)⟩, false, false, []⟩,
    ⟨⟨.t 26, .loadN 2 (.t 25), some (.t 21, true)⟩, false, false, []⟩,
    ⟨⟨.t 27, .mov (.p 0), some (.t 21, true)⟩, false, false, []⟩,
    ⟨⟨.t 28, .mov (.p 9), some (.t 21, true)⟩, false, false, []⟩,
    ⟨⟨.t 29, .bin .sub (.t 28) (.c (.int .i64 1)), some (.t 21, true)⟩, false, false, []⟩,
    ⟨⟨.t 30, .idxAddr 2 (.t 27) (.t 29), some (.t 21, true)⟩, false, false, []⟩,
    ⟨⟨.t 31, .loadN 2 (.t 30), some (.t 21, true)⟩, false, false, []⟩,
    ⟨⟨.t 32, .callV (.t 22) [.t 26, .t 31], some (.t 21, true)⟩, false, false, []⟩,
    ⟨⟨.t 33, .bin .lss (.t 32) (.c (.int .i64 0)), some (.t 21, true)⟩, false, false, []⟩,
    ⟨⟨.p 34, .pick (.t 21) (.t 33) (.c (.bool false)), none⟩, false, false, []⟩])
    (.cond (.p 34)
    (.skip)
    (.exit 2)))
    (.seq (.block 3 [0, 1, 2, 3, 8, 9]
    (.dreg [⟨⟨.t 37, .mov (.p 0), none⟩, false, false, []⟩,
    ⟨⟨.t 38, .mov (.p 9), none⟩, false, false, []⟩,
    ⟨⟨.t 39, .mov (.p 0), none⟩, false, false, []⟩,
    ⟨⟨.t 40, .mov (.p 9), none⟩, false, false, []⟩,
    ⟨⟨.t 41, .bin .sub (.t 40) (.c (.int .i64 1)), none⟩, false, false, []⟩,
    ⟨⟨.t 42, .mov (.p 0), none⟩, false, false, []⟩,
    ⟨⟨.t 43, .mov (.p 9), none⟩, false, false, []⟩,
    ⟨⟨.t 44, .bin .sub (.t 43) (.c (.int .i64 1)), none⟩, false, false, []⟩,
    ⟨⟨.t 45, .idxAddr 2 (.t 42) (.t 44), none⟩, false, false, []⟩,
    ⟨⟨.t 46, .loadN 2 (.t 45), none⟩, false, false, []⟩,
    ⟨⟨.t 47, .mov (.p 0), none⟩, false, false, []⟩,
    ⟨⟨.t 48, .mov (.p 9), none⟩, false, false, []⟩,
    ⟨⟨.t 49, .idxAddr 2 (.t 47) (.t 48), none⟩, false, false, []⟩,
    ⟨⟨.t 50, .loadN 2 (.t 49), none⟩, false, false, []⟩,
    ⟨⟨.t 51, .idxAddr 2 (.t 37) (.t 38), none⟩, false, false, []⟩,
    ⟨⟨.no, .store 2 (.t 51) (.t 46), none⟩, false, false, []⟩,
    ⟨⟨.t 52, .idxAddr 2 (.t 39) (.t 41), none⟩, false, false, []⟩,
    ⟨⟨.no, .store 2 (.t 52) (.t 50), none⟩, false, false, []⟩]))
    (.reg [⟨.t 35, .mov (.p 9), none⟩,
    ⟨.t 36, .bin .sub (.t 35) (.c (.int .i64 1)), none⟩,
    ⟨.p 9, .mov (.t 36), none⟩]))
def lb_slices_insertionSortCmpFunc_runes_span_1 : CCode :=
 .seq (.seq (.reg [⟨.t 12, .mov (.p 8), none⟩,
    ⟨.t 13, .mov (.p 2), none⟩,
    ⟨.p 14, .bin .lss (.t 12) (.t 13), none⟩])
    (.cond (.p 14)
    (.skip)
    (.exit 0)))
    (.seq (.block 1 [0, 1, 2, 3, 8]
    (.seq (.reg [⟨.t 17, .mov (.p 8), none⟩,
    ⟨.p 9, .mov (.t 17), none⟩])
    (.block 2 [0, 1, 2, 3, 8]
    (.loop [0, 1, 2, 3, 8, 9] lb_slices_insertionSortCmpFunc_runes_span_0))))
    (.reg [⟨.t 15, .mov (.p 8), none⟩,
    ⟨.t 16, .bin .add (.t 15) (.c (.int .i64 1)), none⟩,
    ⟨.p 8, .mov (.t 16), none⟩]))
def bd_slices_insertionSortCmpFunc_runes_span : CCode :=
 .seq (.reg [⟨.t 10, .mov (.p 1), none⟩,
    ⟨.t 11, .bin .add (.t 10) (.c (.int .i64 1)), none⟩,
    ⟨.p 8, .mov (.t 11), none⟩])
    (.block 0 []
    (.loop [0, 1, 2, 3, 8] lb_slices_insertionSortCmpFunc_runes_span_1))
def cf_slices_insertionSortCmpFunc_runes_span : CFunc :=
{ nargs := 4, ps := [0, 1, 2, 3, 8, 9, 14, 34], results := [], body := bd_slices_insertionSortCmpFunc_runes_span }

/- slices.heapSortCmpFunc[gobo/runes.span] -/
def lb_slices_heapSortCmpFunc_runes_span_0 : CCode :=
 .seq (.seq (.reg [⟨.t 20, .mov (.p 11), none⟩,
    ⟨.p 21, .bin .geq (.t 20) (.c (.int .i64 0)), none⟩])
    (.cond (.p 21)
    (.skip)
    (.exit 0)))
    (.seq (.block 1 [0, 3, 8, 9, 10, 11]
    (.reg [⟨.t 24, .mov (.p 0), none⟩,
    ⟨.t 25, .mov (.p 11), none⟩,
    ⟨.t 26, .mov (.p 10), none⟩,
    ⟨.t 27, .mov (.p 8), none⟩,
    ⟨.t 28, .mov (.p 3), none⟩,
    ⟨.t 29, .call F_slices_siftDownCmpFunc_runes_span [.t 24, .t 25, .t 26, .t 27, .t 28], none⟩]))
    (.reg [⟨.t 22, .mov (.p 11), none⟩,
    ⟨.t 23, .bin .sub (.t 22) (.c (.int .i64 1)), none⟩,
    ⟨.p 11, .mov (.t 23), none⟩]))
def lb_slices_heapSortCmpFunc_runes_span_1 : CCode :=
 .seq (.seq (.reg [⟨.t 32, .mov (.p 12), none⟩,
    ⟨.p 33, .bin .geq (.t 32) (.c (.int .i64 0)), none⟩])
    (.cond (.p 33)
    (.skip)
    (.exit 2)))
    (.seq (.block 3 [0, 3, 8, 9, 12]
    (.seq (.dreg [⟨⟨.t 36, .mov (.p 0), none⟩, false, false, []⟩,
    ⟨⟨.t 37, .mov (.p 8), none⟩, false, false, []⟩,
    ⟨⟨.t 38, .mov (.p 0), none⟩, false, false, []⟩,
    ⟨⟨.t 39, .mov (.p 8), none⟩, false, false, []⟩,
    ⟨⟨.t 40, .mov (.p 12), none⟩, false, false, []⟩,
    ⟨⟨.t 41, .bin .add (.t 39) (.t 40), none⟩, false, false, []⟩,
    ⟨⟨.t 42, .mov (.p 0), none⟩, false, false, []⟩,
    ⟨⟨.t 43, .mov (.p 8), none⟩, false, false, []⟩,
    ⟨⟨.t 44, .mov (.p 12), none⟩, false, false, []⟩,
    ⟨⟨.t 45, .bin .add (.t 43) (.t 44), none⟩, false, false, []⟩,
    ⟨⟨.t 46, .idxAddr 2 (.t 42) (.t 45), none⟩, false, false, []⟩,
    ⟨⟨.t 47, .loadN 2 (.t 46), none⟩, false, false, []⟩,
    ⟨⟨.t 48, .mov (.p 0), none⟩, false, false, []⟩,
    ⟨⟨.t 49, .mov (.p 8), none⟩, false, false, []⟩,
    ⟨⟨.t 50, .idxAddr 2 (.t 48) (.t 49), none⟩, false, false, []⟩,
    ⟨⟨.t 51, .loadN 2 (.t 50), none⟩, false, false, []⟩,
    ⟨⟨.t 52, .idxAddr 2 (.t 36) (.t 37), none⟩, false, false, []⟩,
    ⟨⟨.no, .store 2 (.t 52) (.t 47), none⟩, false, false, []⟩,
    ⟨⟨.t 53, .idxAddr 2 (.t 38) (.t 41), none⟩, false, false, []⟩,
    ⟨⟨.no, .store 2 (.t 53) (.t 51), none⟩, false, false, []⟩])
    (.reg [⟨.t 54, .mov (.p 0), none⟩,
    ⟨.t 55, .mov (.p 9), none⟩,
    ⟨.t 56, .mov (.p 12), none⟩,
    ⟨.t 57, .mov (.p 8), none⟩,
    ⟨.t 58, .mov (.p 3), none⟩,
    ⟨.t 59, .call F_slices_siftDownCmpFunc_runes_span [.t 54, .t 55, .t 56, .t 57, .t 58], none⟩])))
    (.reg [⟨.t 34, .mov (.p 12), none⟩,
    ⟨.t 35, .bin .sub (.t 34) (.c (.int .i64 1)), none⟩,
    ⟨.p 12, .mov (.t 35), none⟩]))
def bd_slices_heapSortCmpFunc_runes_span : CCode :=
 .seq (.reg [⟨.t 13, .mov (.p 1), none⟩,
    ⟨.p 8, .mov (.t 13), none⟩])
    (.seq (.reg [⟨.p 9, .mov (.c (.int .i64 0)), none⟩])
    (.seq (.reg [⟨.t 14, .mov (.p 2), none⟩,
    ⟨.t 15, .mov (.p 1), none⟩,
    ⟨.t 16, .bin .sub (.t 14) (.t 15), none⟩,
    ⟨.p 10, .mov (.t 16), none⟩])
    (.seq (.seq (.reg [⟨.t 17, .mov (.p 10), none⟩,
    ⟨.t 18, .bin .sub (.t 17) (.c (.int .i64 1)), none⟩,
    ⟨.t 19, .bin .quo (.t 18) (.c (.int .i64 2)), none⟩,
    ⟨.p 11, .mov (.t 19), none⟩])
    (.block 0 [0, 3, 8, 9, 10]
    (.loop [0, 3, 8, 9, 10, 11] lb_slices_heapSortCmpFunc_runes_span_0)))
    (.seq (.reg [⟨.t 30, .mov (.p 10), none⟩,
    ⟨.t 31, .bin .sub (.t 30) (.c (.int .i64 1)), none⟩,
    ⟨.p 12, .mov (.t 31), none⟩])
    (.block 2 []
    (.loop [0, 3, 8, 9, 12] lb_slices_heapSortCmpFunc_runes_span_1))))))
def cf_slices_heapSortCmpFunc_runes_span : CFunc :=
{ nargs := 4, ps := [0, 1, 2, 3, 8, 9, 10, 11, 12, 21, 33], results := [], body := bd_slices_heapSortCmpFunc_runes_span }

/- slices.breakPatternsCmpFunc[gobo/runes.span] -/
def lb_slices_breakPatternsCmpFunc_runes_span_0 : CCode :=
 .seq (.seq (.reg [⟨.t 28, .mov (.p 11), none⟩,
    ⟨.t 29, .mov (.p 1), none⟩,
    ⟨.t 30, .mov (.p 8), none⟩,
    ⟨.t 31, .bin .quo (.t 30) (.c (.int .i64 4)), none⟩,
    ⟨.t 32, .bin .mul (.t 31) (.c (.int .i64 2)), none⟩,
    ⟨.t 33, .bin .add (.t 29) (.t 32), none⟩,
    ⟨.t 34, .bin .add (.t 33) (.c (.int .i64 1)), none⟩,
    ⟨.p 35, .bin .leq (.t 28) (.t 34), none⟩])
    (.cond (.p 35)
    (.skip)
    (.exit 0)))
    (.seq (.block 1 [0, 1, 8, 9, 10, 11]
    (.seq (.reg [⟨.t 38, .call F_slices_xorshift_Next [.p 9], none⟩,
    ⟨.t 39, .mov (.p 10), none⟩,
    ⟨.t 40, .bin .sub (.t 39) (.c (.int .u64 1)), none⟩,
    ⟨.t 41, .bin .and (.t 38) (.t 40), none⟩,
    ⟨.t 42, .convI .i64 (.t 41), none⟩,
    ⟨.p 12, .mov (.t 42), none⟩])
    (.seq (.seq (.reg [⟨.t 43, .mov (.p 12), none⟩,
    ⟨.t 44, .mov (.p 8), none⟩,
    ⟨.p 45, .bin .geq (.t 43) (.t 44), none⟩])
    (.cond (.p 45)
    (.reg [⟨.t 46, .mov (.p 12), none⟩,
    ⟨.t 47, .mov (.p 8), none⟩,
    ⟨.t 48, .bin .sub (.t 46) (.t 47), none⟩,
    ⟨.p 12, .mov (.t 48), none⟩])
    (.skip)))
    (.dreg [⟨⟨.t 49, .mov (.p 0), none⟩, false, false, []⟩,
    ⟨⟨.t 50, .mov (.p 11), none⟩, false, false, []⟩,
    ⟨⟨.t 51, .mov (.p 0), none⟩, false, false, []⟩,
    ⟨⟨.t 52, .mov (.p 1), none⟩, false, false, []⟩,
    ⟨⟨.t 53, .mov (.p 12), none⟩, false, false, []⟩,
    ⟨⟨.t 54, .bin .add (.t 52) (.t 53), none⟩, false, false, []⟩,
    ⟨⟨.t 55, .mov (.p 0), none⟩, false, false, []⟩,
    ⟨⟨.t 56, .mov (.p 1), none⟩, false, false, []⟩,
    ⟨⟨.t 57, .mov (.p 12), none⟩, false, false, []⟩,
    ⟨⟨.t 58, .bin .add (.t 56) (.t 57), none⟩, false, false, []⟩,
    ⟨⟨.t 59, .idxAddr 2 (.t 55) (.t 58), none⟩, false, false, []⟩,
    ⟨⟨.t 60, .loadN 2 (.t 59), none⟩, false, false, []⟩,
    ⟨⟨.t 61, .mov (.p 0), none⟩, false, false, []⟩,
    ⟨⟨.t 62, .mov (.p 11), none⟩, false, false, []⟩,
    ⟨⟨.t 63, .idxAddr 2 (.t 61) (.t 62), none⟩, false, false, []⟩,
    ⟨⟨.t 64, .loadN 2 (.t 63), none⟩, false, false, []⟩,
    ⟨⟨.t 65, .idxAddr 2 (.t 49) (.t 50), none⟩, false, false, []⟩,
    ⟨⟨.no, .store 2 (.t 65) (.t 60), none⟩, false, false, []⟩,
    ⟨⟨.t 66, .idxAddr 2 (.t 51) (.t 54), none⟩, false, false, []⟩,
    ⟨⟨.no, .store 2 (.t 66) (.t 64), none⟩, false, false, []⟩]))))
    (.reg [⟨.t 36, .mov (.p 11), none⟩,
    ⟨.t 37, .bin .add (.t 36) (.c (.int .i64 1)), none⟩,
    ⟨.p 11, .mov (.t 37), none⟩]))
def bd_slices_breakPatternsCmpFunc_runes_span : CCode :=
 .seq (.reg [⟨.t 13, .mov (.p 2), none⟩,
    ⟨.t 14, .mov (.p 1), none⟩,
    ⟨.t 15, .bin .sub (.t 13) (.t 14), none⟩,
    ⟨.p 8, .mov (.t 15), none⟩])
    (.seq (.reg [⟨.t 16, .mov (.p 8), none⟩,
    ⟨.p 17, .bin .geq (.t 16) (.c (.int .i64 8)), none⟩])
    (.cond (.p 17)
    (.seq (.reg [⟨.t 18, .mov (.p 8), none⟩,
    ⟨.t 19, .convI .u64 (.t 18), none⟩,
    ⟨.p 9, .alloc [.int .u64 0], none⟩,
    ⟨.no, .store 1 (.p 9) (.t 19), none⟩])
    (.seq (.reg [⟨.t 20, .mov (.p 8), none⟩,
    ⟨.t 21, .call F_slices_nextPowerOfTwo [.t 20], none⟩,
    ⟨.p 10, .mov (.t 21), none⟩])
    (.seq (.reg [⟨.t 22, .mov (.p 1), none⟩,
    ⟨.t 23, .mov (.p 8), none⟩,
    ⟨.t 24, .bin .quo (.t 23) (.c (.int .i64 4)), none⟩,
    ⟨.t 25, .bin .mul (.t 24) (.c (.int .i64 2)), none⟩,
    ⟨.t 26, .bin .add (.t 22) (.t 25), none⟩,
    ⟨.t 27, .bin .sub (.t 26) (.c (.int .i64 1)), none⟩,
    ⟨.p 11, .mov (.t 27), none⟩])
    (.block 0 []
    (.loop [0, 1, 8, 9, 10, 11] lb_slices_breakPatternsCmpFunc_runes_span_0)))))
    (.skip)))
def cf_slices_breakPatternsCmpFunc_runes_span : CFunc :=
{ nargs := 4, ps := [0, 1, 2, 3, 8, 9, 10, 11, 12, 17, 35, 45], results := [], body := bd_slices_breakPatternsCmpFunc_runes_span }

/- slices.choosePivotCmpFunc[gobo/runes.span] -/
def bd_slices_choosePivotCmpFunc_runes_span : CCode :=
 .seq (.reg [⟨.p 8, .mov (.c (.int .i64 0)), none⟩,
    ⟨.p 9, .mov (.c (.int .i64 0)), none⟩])
    (.seq (.reg [⟨.t 15, .mov (.p 2), none⟩,
    ⟨.t 16, .mov (.p 1), none⟩,
    ⟨.t 17, .bin .sub (.t 15) (.t 16), none⟩,
    ⟨.p 10, .mov (.t 17), none⟩])
    (.seq (.reg [⟨.p 11, .alloc [.int .i64 0], none⟩])
    (.seq (.reg [⟨.t 18, .mov (.p 1), none⟩,
    ⟨.t 19, .mov (.p 10), none⟩,
    ⟨.t 20, .bin .quo (.t 19) (.c (.int .i64 4)), none⟩,
    ⟨.t 21, .bin .mul (.t 20) (.c (.int .i64 1)), none⟩,
    ⟨.t 22, .bin .add (.t 18) (.t 21), none⟩,
    ⟨.p 12, .mov (.t 22), none⟩])
    (.seq (.reg [⟨.t 23, .mov (.p 1), none⟩,
    ⟨.t 24, .mov (.p 10), none⟩,
    ⟨.t 25, .bin .quo (.t 24) (.c (.int .i64 4)), none⟩,
    ⟨.t 26, .bin .mul (.t 25) (.c (.int .i64 2)), none⟩,
    ⟨.t 27, .bin .add (.t 23) (.t 26), none⟩,
    ⟨.p 13, .mov (.t 27), none⟩])
    (.seq (.reg [⟨.t 28, .mov (.p 1), none⟩,
    ⟨.t 29, .mov (.p 10), none⟩,
    ⟨.t 30, .bin .quo (.t 29) (.c (.int .i64 4)), none⟩,
    ⟨.t 31, .bin .mul (.t 30) (.c (.int .i64 3)), none⟩,
    ⟨.t 32, .bin .add (.t 28) (.t 31), none⟩,
    ⟨.p 14, .mov (.t 32), none⟩])
    (.seq (.seq (.reg [⟨.t 33, .mov (.p 10), none⟩,
    ⟨.p 34, .bin .geq (.t 33) (.c (.int .i64 8)), none⟩])
    (.cond (.p 34)
    (.seq (.seq (.reg [⟨.t 35, .mov (.p 10), none⟩,
    ⟨.p 36, .bin .geq (.t 35) (.c (.int .i64 50)), none⟩])
    (.cond (.p 36)
    (.seq (.reg [⟨.t 37, .mov (.p 0), none⟩,
    ⟨.t 38, .mov (.p 12), none⟩,
    ⟨.t 39, .mov (.p 3), none⟩,
    ⟨.t 40, .call F_slices_medianAdjacentCmpFunc_runes_span [.t 37, .t 38, .p 11, .t 39], none⟩,
    ⟨.p 12, .mov (.t 40), none⟩])
    (.seq (.reg [⟨.t 41, .mov (.p 0), none⟩,
    ⟨.t 42, .mov (.p 13), none⟩,
    ⟨.t 43, .mov (.p 3), none⟩,
    ⟨.t 44, .call F_slices_medianAdjacentCmpFunc_runes_span [.t 41, .t 42, .p 11, .t 43], none⟩,
    ⟨.p 13, .mov (.t 44), none⟩])
    (.reg [⟨.t 45, .mov (.p 0), none⟩,
    ⟨.t 46, .mov (.p 14), none⟩,
    ⟨.t 47, .mov (.p 3), none⟩,
    ⟨.t 48, .call F_slices_medianAdjacentCmpFunc_runes_span [.t 45, .t 46, .p 11, .t 47], none⟩,
    ⟨.p 14, .mov (.t 48), none⟩])))
    (.skip)))
    (.reg [⟨.t 49, .mov (.p 0), none⟩,
    ⟨.t 50, .mov (.p 12), none⟩,
    ⟨.t 51, .mov (.p 13), none⟩,
    ⟨.t 52, .mov (.p 14), none⟩,
    ⟨.t 53, .mov (.p 3), none⟩,
    ⟨.t 54, .call F_slices_medianCmpFunc_runes_span [.t 49, .t 50, .t 51, .t 52, .p 11, .t 53], none⟩,
    ⟨.p 13, .mov (.t 54), none⟩]))
    (.skip)))
    (.seq (.reg [⟨.p 55, .load1 (.p 11), none⟩])
    (.block 0 [8, 9]
    (.seq (.reg [⟨.t 58, .bin .eql (.p 55) (.c (.int .i64 0)), none⟩,
    ⟨.p 57, .mov (.t 58), none⟩])
    (.cond (.p 57)
    (.seq (.reg [⟨.t 59, .mov (.p 13), none⟩,
    ⟨.p 8, .mov (.t 59), none⟩,
    ⟨.p 9, .mov (.c (.int .i64 1)), none⟩])
    (.ret))
    (.seq (.reg [⟨.t 61, .bin .eql (.p 55) (.c (.int .i64 12)), none⟩,
    ⟨.p 60, .mov (.t 61), none⟩])
    (.cond (.p 60)
    (.seq (.reg [⟨.t 62, .mov (.p 13), none⟩,
    ⟨.p 8, .mov (.t 62), none⟩,
    ⟨.p 9, .mov (.c (.int .i64 2)), none⟩])
    (.ret))
    (.seq (.reg [⟨.t 56, .mov (.p 13), none⟩,
    ⟨.p 8, .mov (.t 56), none⟩,
    ⟨.p 9, .mov (.c (.int .i64 0)), none⟩])
    (.ret))))))))))))))
def cf_slices_choosePivotCmpFunc_runes_span : CFunc :=
{ nargs := 4, ps := [0, 1, 2, 3, 8, 9, 10, 11, 12, 13, 14, 34, 36, 55, 57, 60], results := [.slot 8, .slot 9], body := bd_slices_choosePivotCmpFunc_runes_span }

/- slices.reverseRangeCmpFunc[gobo/runes.span] -/
def lb_slices_reverseRangeCmpFunc_runes_span_0 : CCode :=
 .seq (.seq (.reg [⟨.t 13, .mov (.p 8), none⟩,
    ⟨.t 14, .mov (.p 9), none⟩,
    ⟨.p 15, .bin .lss (.t 13) (.t 14), none⟩])
    (.cond (.p 15)
    (.skip)
    (.exit 0)))
    (.block 1 [0, 8, 9]
    (.seq (.dreg [⟨⟨.t 16, .mov (.p 0), none⟩, false, false, []⟩,
    ⟨⟨.t 17, .mov (.p 8), none⟩, false, false, []⟩,
    ⟨⟨.t 18, .mov (.p 0), none⟩, false, false, []⟩,
    ⟨⟨.t 19, .mov (.p 9), none⟩, false, false, []⟩,
    ⟨⟨.t 20, .mov (.p 0), none⟩, false, false, []⟩,
    ⟨⟨.t 21, .mov (.p 9), none⟩, false, false, []⟩,
    ⟨⟨.t 22, .idxAddr 2 (.t 20) (.t 21), none⟩, false, false, []⟩,
    ⟨⟨.t 23, .loadN 2 (.t 22), none⟩, false, false, []⟩,
    ⟨⟨.t 24, .mov (.p 0), none⟩, false, false, []⟩,
    ⟨⟨.t 25, .mov (.p 8), none⟩, false, false, []⟩,
    ⟨⟨.t 26, .idxAddr 2 (.t 24) (.t 25), none⟩, false, false, []⟩,
    ⟨⟨.t 27, .loadN 2 (.t 26), none⟩, false, false, []⟩,
    ⟨⟨.t 28, .idxAddr 2 (.t 16) (.t 17), none⟩, false, false, []⟩,
    ⟨⟨.no, .store 2 (.t 28) (.t 23), none⟩, false, false, []⟩,
    ⟨⟨.t 29, .idxAddr 2 (.t 18) (.t 19), none⟩, false, false, []⟩,
    ⟨⟨.no, .store 2 (.t 29) (.t 27), none⟩, false, false, []⟩])
    (.seq (.reg [⟨.t 30, .mov (.p 8), none⟩,
    ⟨.t 31, .bin .add (.t 30) (.c (.int .i64 1)), none⟩,
    ⟨.p 8, .mov (.t 31), none⟩])
    (.reg [⟨.t 32, .mov (.p 9), none⟩,
    ⟨.t 33, .bin .sub (.t 32) (.c (.int .i64 1)), none⟩,
    ⟨.p 9, .mov (.t 33), none⟩]))))
def bd_slices_reverseRangeCmpFunc_runes_span : CCode :=
 .seq (.reg [⟨.t 10, .mov (.p 1), none⟩,
    ⟨.p 8, .mov (.t 10), none⟩])
    (.seq (.reg [⟨.t 11, .mov (.p 2), none⟩,
    ⟨.t 12, .bin .sub (.t 11) (.c (.int .i64 1)), none⟩,
    ⟨.p 9, .mov (.t 12), none⟩])
    (.block 0 []
    (.loop [0, 8, 9] lb_slices_reverseRangeCmpFunc_runes_span_0)))
def cf_slices_reverseRangeCmpFunc_runes_span : CFunc :=
{ nargs := 4, ps := [0, 1, 2, 3, 8, 9, 15], results := [], body := bd_slices_reverseRangeCmpFunc_runes_span }

/- slices.partialInsertionSortCmpFunc[gobo/runes.span] -/
def lb_slices_partialInsertionSortCmpFunc_runes_span_0 : CCode :=
 .seq (.seq (.dreg [⟨⟨.t 19, .mov (.p 9), none⟩, false, false, []⟩,
    ⟨⟨.t 20, .mov (.p 2), none⟩, false, false, []⟩,
    ⟨⟨.t 21, .bin .lss (.t 19) (.t 20), none⟩, false, false, []⟩,
    ⟨⟨.t 22, .mov (.t 21), none⟩, false, false, []⟩,
    ⟨⟨.t 23, .mov (.p 3), some (.t 22, true)⟩, false, false, []⟩,
    ⟨⟨.t 24, .mov (.p 0), some (.t 22, true)⟩, false, false, []⟩,
    ⟨⟨.t 25, .mov (.p 9), some (.t 22, true)⟩, false, false, []⟩,
    ⟨⟨.t 26, .idxAddr 2 (.t 24) (.t 25), some (.t 22, true)⟩, false, false, []⟩,
    ⟨⟨.t 27, .loadN 2 (.t 26), some (.t 22, true)⟩, false, false, []⟩,
    ⟨⟨.t 28, .mov (.p 0), some (.t 22, true)⟩, false, false, []⟩,
    ⟨⟨.t 29, .mov (.p 9), some (.t 22, true)⟩, false, false, []⟩,
    ⟨⟨.t 30, .bin .sub (.t 29) (.c (.int .i64 1)), some (.t 22, true)⟩, false, false, []⟩,
    ⟨⟨.t 31, .idxAddr 2 (.t 28) (.t 30), some (.t 22, true)⟩, false, false, []⟩,
    ⟨⟨.t 32, .loadN 2 (.t 31), some (.t 22, true)⟩, false, false, []⟩,
    ⟨⟨.t 33, .callV (.t 23) [.t 27, .t 32], some (.t 22, true)⟩, false, false, []⟩,
    ⟨⟨.t 34, .bin .lss (.t 33) (.c (.int .i64 0)), some (.t 22, true)⟩, false, false, []⟩,
    ⟨⟨.t 35, .un .not (.t 34), some (.t 22, true)⟩, false, false, []⟩,
    ⟨⟨.p 36, .pick (.t 22) (.t 35) (.c (.bool false)), none⟩, false, false, []⟩])
    (.cond (.p 36)
    (.skip)
    (.exit 2)))
    (.block 3 [0, 1, 2, 3, 9, 10]
    (.reg [⟨.t 37, .mov (.p 9), none⟩,
    ⟨.t 38, .bin .add (.t 37) (.c (.int .i64 1)), none⟩,
    ⟨.p 9, .mov (.t 38), none⟩]))
def lb_slices_partialInsertionSortCmpFunc_runes_span_1 : CCode :=
 .seq (.seq (.reg [⟨.t 68, .mov (.p 11), none⟩,
    ⟨.p 69, .bin .geq (.t 68) (.c (.int .i64 1)), none⟩])
    (.cond (.p 69)
    (.skip)
    (.exit 4)))
    (.seq (.block 5 [0, 1, 2, 3, 9, 10, 11]
    (.seq (.seq (.dreg [⟨⟨.t 72, .mov (.p 3), none⟩, false, false, []⟩,
    ⟨⟨.t 73, .mov (.p 0), none⟩, false, false, []⟩,
    ⟨⟨.t 74, .mov (.p 11), none⟩, false, false, []⟩,
    ⟨⟨.t 75, .idxAddr 2 (.t 73) (.t 74), none⟩, false, false, []⟩,
    ⟨⟨.t 76, .loadN 2 (.t 75), none⟩, false, false, []⟩,
    ⟨⟨.t 77, .mov (.p 0), none⟩, false, false, []⟩,
    ⟨⟨.t 78, .mov (.p 11), none⟩, false, false, []⟩,
    ⟨⟨.t 79, .bin .sub (.t 78) (.c (.int .i64 1)), none⟩, false, false, []⟩,
    ⟨⟨.t 80, .idxAddr 2 (.t 77) (.t 79), none⟩, false, false, []⟩,
    ⟨⟨.t 81, .loadN 2 (.t 80), none⟩, false, false, []⟩,
    ⟨⟨.t 82, .callV (.t 72) [.t 76, .t 81], none⟩, false, false, []⟩,
    ⟨⟨.t 83, .bin .lss (.t 82) (.c (.int .i64 0)), none⟩, false, false, []⟩,
    ⟨⟨.p 84, .un .not (.t 83), none⟩, false, false, []⟩])
    (.cond (.p 84)
    (.exit 4)
    (.skip)))
    (.dreg [⟨⟨.t 85, .mov (.p 0), none⟩, false, false, []⟩,
    ⟨⟨.t 86, .mov (.p 11), none⟩, false, false, []⟩,
    ⟨⟨.t 87, .mov (.p 0), none⟩, false, false, []⟩,
    ⟨⟨.t 88, .mov (.p 11), none⟩, false, false, []⟩,
    ⟨⟨.t 89, .bin .sub (.t 88) (.c (.int .i64 1)), none⟩, false, false, []⟩,
    ⟨⟨.t 90, .mov (.p 0), none⟩, false, false, []⟩,
    ⟨⟨.t 91, .mov (.p 11), none⟩, false, false, []⟩,
    ⟨⟨.t 92, .bin .sub (.t 91) (.c (.int .i64 1)), none⟩, false, false, []⟩,
    ⟨⟨.t 93, .idxAddr 2 (.t 90) (.t 92), none⟩, false, false, []⟩,
    ⟨⟨.t 94, .loadN 2 (.t 93), none⟩, false, false, []⟩,
    ⟨⟨.t 95, .mov (.p 0), none⟩, false, false, []⟩,
    ⟨⟨.t 96, .mov (.p 11), none⟩, false, false, []⟩,
    ⟨⟨.t 97, .idxAddr 2 (.t 95) (.t 96), none⟩, false, false, []⟩,
    ⟨⟨.t 98, .loadN 2 (.t 97), none⟩, false, false, []⟩,
    ⟨⟨.t 99, .idxAddr 2 (.t 85) (.t 86), none⟩, false, false, []⟩,
    ⟨⟨.no, .store 2 (.t 99) (.t 94), none⟩, false, false, []⟩,
    ⟨⟨.t 100, .idxAddr 2 (.t 87) (.t 89), none⟩, false, false, []⟩,
    ⟨⟨.no, .store 2 (.t 100) (.t 98), none⟩, false, false, []⟩])))
    (.reg [⟨.t 70, .mov (.p 11), none⟩,
    ⟨.t 71, .bin .sub (.t 70) (.c (.int .i64 1)), none⟩,
    ⟨.p 11, .mov (.t 71), none⟩]))
def lb_slices_partialInsertionSortCmpFunc_runes_span_2 : CCode :=
 .seq (.seq (.reg [⟨.t 107, .mov (.p 12), none⟩,
    ⟨.t 108, .mov (.p 2), none⟩,
    ⟨.p 109, .bin .lss (.t 107) (.t 108), none⟩])
    (.cond (.p 109)
    (.skip)
    (.exit 6)))
    (.seq (.block 7 [0, 1, 2, 3, 9, 10, 12]
    (.seq (.seq (.dreg [⟨⟨.t 112, .mov (.p 3), none⟩, false, false, []⟩,
    ⟨⟨.t 113, .mov (.p 0), none⟩, false, false, []⟩,
    ⟨⟨.t 114, .mov (.p 12), none⟩, false, false, []⟩,
    ⟨⟨.t 115, .idxAddr 2 (.t 113) (.t 114), none⟩, false, false, []⟩,
    ⟨⟨.t 116, .loadN 2 (.t 115), none⟩, false, false, []⟩,
    ⟨⟨.t 117, .mov (.p 0), none⟩, false, false, []⟩,
    ⟨⟨.t 118, .mov (.p 12), none⟩, false, false, []⟩,
    ⟨⟨.t 119, .bin .sub (.t 118) (.c (.int .i64 1)), none⟩, false, false, []⟩,
    ⟨⟨.t 120, .idxAddr 2 (.t 117) (.t 119), none⟩, false, false, []⟩,
    ⟨⟨.t 121, .loadN 2 (.t 120), none⟩, false, false, []⟩,
    ⟨⟨.t 122, .callV (.t 112) [.t 116, .t 121], none⟩, false, false, []⟩,
    ⟨⟨.t 123, .bin .lss (.t 122) (.c (.int .i64 0)), none⟩, false, false, []⟩,
    ⟨⟨.p 124, .un .not (.t 123), none⟩, false, false, []⟩])
    (.cond (.p 124)
    (.exit 6)
    (.skip)))
    (.dreg [⟨⟨.t 125, .mov (.p 0), none⟩, false, false, []⟩,
    ⟨⟨.t 126, .mov (.p 12), none⟩, false, false, []⟩,
    ⟨⟨.t 127, .mov (.p 0), none⟩, false, false, []⟩,
    ⟨⟨.t 128, .mov (.p 12), none⟩, false, false, []⟩,
    ⟨⟨.t 129, .bin .sub (.t 128) (.c (.int .i64 1)), none⟩, false, false, []⟩,
    ⟨⟨.t 130, .mov (.p 0), none⟩, false, false, []⟩,
    ⟨⟨.t 131, .mov (.p 12), none⟩, false, false, []⟩,
    ⟨⟨.t 132, .bin .sub (.t 131) (.c (.int .i64 1)), none⟩, false, false, []⟩,
    ⟨⟨.t 133, .idxAddr 2 (.t 130) (.t 132), none⟩, false, false, []⟩,
    ⟨⟨.t 134, .loadN 2 (.t 133), none⟩, false, false, []⟩,
    ⟨⟨.t 135, .mov (.p 0), none⟩, false, false, []⟩,
    ⟨⟨.t 136, .mov (.p 12), none⟩, false, false, []⟩,
    ⟨⟨.t 137, .idxAddr 2 (.t 135) (.t 136), none⟩, false, false, []⟩,
    ⟨⟨.t 138, .loadN 2 (.t 137), none⟩, false, false, []⟩,
    ⟨⟨.t 139, .idxAddr 2 (.t 125) (.t 126), none⟩, false, false, []⟩,
    ⟨⟨.no, .store 2 (.t 139) (.t 134), none⟩, false, false, []⟩,
    ⟨⟨.t 140, .idxAddr 2 (.t 127) (.t 129), none⟩, false, false, []⟩,
    ⟨⟨.no, .store 2 (.t 140) (.t 138), none⟩, false, false, []⟩])))
    (.reg [⟨.t 110, .mov (.p 12), none⟩,
    ⟨.t 111, .bin .add (.t 110) (.c (.int .i64 1)), none⟩,
    ⟨.p 12, .mov (.t 111), none⟩]))
def lb_slices_partialInsertionSortCmpFunc_runes_span_3 : CCode :=
 .seq (.seq (.reg [⟨.t 15, .mov (.p 10), none⟩,
    ⟨.p 16, .bin .lss (.t 15) (.c (.int .i64 5)), none⟩])
    (.cond (.p 16)
    (.skip)
    (.exit 0)))
    (.seq (.block 1 [0, 1, 2, 3, 9, 10]
    (.seq (.block 2 [0, 1, 2, 3, 9, 10]
    (.loop [0, 1, 2, 3, 9, 10] lb_slices_partialInsertionSortCmpFunc_runes_span_0))
    (.seq (.seq (.reg [⟨.t 39, .mov (.p 9), none⟩,
    ⟨.t 40, .mov (.p 2), none⟩,
    ⟨.p 41, .bin .eql (.t 39) (.t 40), none⟩])
    (.cond (.p 41)
    (.seq (.reg [⟨.p 8, .mov (.c (.bool true)), none⟩])
    (.ret))
    (.skip)))
    (.seq (.seq (.reg [⟨.t 42, .mov (.p 2), none⟩,
    ⟨.t 43, .mov (.p 1), none⟩,
    ⟨.t 44, .bin .sub (.t 42) (.t 43), none⟩,
    ⟨.p 45, .bin .lss (.t 44) (.c (.int .i64 50)), none⟩])
    (.cond (.p 45)
    (.seq (.reg [⟨.p 8, .mov (.c (.bool false)), none⟩])
    (.ret))
    (.skip)))
    (.seq (.dreg [⟨⟨.t 46, .mov (.p 0), none⟩, false, false, []⟩,
    ⟨⟨.t 47, .mov (.p 9), none⟩, false, false, []⟩,
    ⟨⟨.t 48, .mov (.p 0), none⟩, false, false, []⟩,
    ⟨⟨.t 49, .mov (.p 9), none⟩, false, false, []⟩,
    ⟨⟨.t 50, .bin .sub (.t 49) (.c (.int .i64 1)), none⟩, false, false, []⟩,
    ⟨⟨.t 51, .mov (.p 0), none⟩, false, false, []⟩,
    ⟨⟨.t 52, .mov (.p 9), none⟩, false, false, []⟩,
    ⟨⟨.t 53, .bin .sub (.t 52) (.c (.int .i64 1)), none⟩, false, false, []⟩,
    ⟨⟨.t 54, .idxAddr 2 (.t 51) (.t 53), none⟩, false, false, []⟩,
    ⟨⟨.t 55, .loadN 2 (.t 54), none⟩, false, false, []⟩,
    ⟨⟨.t 56, .mov (.p 0), none⟩, false, false, []⟩,
    ⟨⟨.t 57, .mov (.p 9), none⟩, false, false, []⟩,
    ⟨⟨.t 58, .idxAddr 2 (.t 56) (.t 57), none⟩, false, false, []⟩,
    ⟨⟨.t 59, .loadN 2 (.t 58), none⟩, false, false, []⟩,
    ⟨⟨.t 60, .idxAddr 2 (.t 46) (.t 47), none⟩, false, false, []⟩,
    ⟨⟨.no, .store 2 (.t 60) (.t 55), none⟩, false, false, []⟩,
    ⟨⟨.t 61, .idxAddr 2 (.t 48) (.t 50), none⟩, false, false, []⟩,
    ⟨⟨.no, .store 2 (.t 61) (.t 59), none⟩, false, false, []⟩])
    (.seq (.seq (.reg [⟨.t 62, .mov (.p 9), none⟩,
    ⟨.t 63, .mov (.p 1), none⟩,
    ⟨.t 64, .bin .sub (.t 62) (.t 63), none⟩,
    ⟨.p 65, .bin .geq (.t 64) (.c (.int .i64 2)), none⟩])
    (.cond (.p 65)
    (.seq (.reg [⟨.t 66, .mov (.p 9), none⟩,
    ⟨.t 67, .bin .sub (.t 66) (.c (.int .i64 1)), none⟩,
    ⟨.p 11, .mov (.t 67), none⟩])
    (.block 4 [0, 1, 2, 3, 9, 10]
    (.loop [0, 1, 2, 3, 9, 10, 11] lb_slices_partialInsertionSortCmpFunc_runes_span_1)))
    (.skip)))
    (.seq (.reg [⟨.t 101, .mov (.p 2), none⟩,
    ⟨.t 102, .mov (.p 9), none⟩,
    ⟨.t 103, .bin .sub (.t 101) (.t 102), none⟩,
    ⟨.p 104, .bin .geq (.t 103) (.c (.int .i64 2)), none⟩])
    (.cond (.p 104)
    (.seq (.reg [⟨.t 105, .mov (.p 9), none⟩,
    ⟨.t 106, .bin .add (.t 105) (.c (.int .i64 1)), none⟩,
    ⟨.p 12, .mov (.t 106), none⟩])
    (.block 6 [0, 1, 2, 3, 9, 10]
    (.loop [0, 1, 2, 3, 9, 10, 12] lb_slices_partialInsertionSortCmpFunc_runes_span_2)))
    (.skip)))))))))
    (.reg [⟨.t 17, .mov (.p 10), none⟩,
    ⟨.t 18, .bin .add (.t 17) (.c (.int .i64 1)), none⟩,
    ⟨.p 10, .mov (.t 18), none⟩]))
def bd_slices_partialInsertionSortCmpFunc_runes_span : CCode :=
 .seq (.reg [⟨.p 8, .mov (.c (.bool false)), none⟩])
    (.seq (.reg [⟨.t 13, .mov (.p 1), none⟩,
    ⟨.t 14, .bin .add (.t 13) (.c (.int .i64 1)), none⟩,
    ⟨.p 9, .mov (.t 14), none⟩])
    (.seq (.seq (.reg [⟨.p 10, .mov (.c (.int .i64 0)), none⟩])
    (.block 0 []
    (.loop [0, 1, 2, 3, 9, 10] lb_slices_partialInsertionSortCmpFunc_runes_span_3)))
    (.seq (.reg [⟨.p 8, .mov (.c (.bool false)), none⟩])
    (.ret))))
def cf_slices_partialInsertionSortCmpFunc_runes_span : CFunc :=
{ nargs := 4, ps := [0, 1, 2, 3, 8, 9, 10, 11, 12, 16, 36, 41, 45, 65, 69, 84, 104, 109, 124], results := [.slot 8], body := bd_slices_partialInsertionSortCmpFunc_runes_span }

/- slices.partitionEqualCmpFunc[gobo/runes.span] -/
def lb_slices_partitionEqualCmpFunc_runes_span_0 : CCode :=
 .seq (.seq (.dreg [⟨⟨.t 31, .mov (.p 11), none⟩, false, false, []⟩,
    ⟨⟨.t 32, .mov (.p 12), none⟩, false, false, []⟩,
    ⟨⟨.t 33, .bin .leq (.t 31) (.t 32), none⟩, false, false, []⟩,
    ⟨⟨.t 34, .mov (.t 33), none⟩, false, false, []⟩,
    ⟨⟨.t 35, .mov (.p 4), some (.t 34, true)⟩, false, false, []⟩,
    ⟨⟨.t 36, .mov (.p 0), some (.t 34, true)⟩, false, false, []⟩,
    ⟨⟨.t 37, .mov (.p 1), some (.t 34, true)⟩, false, false, []⟩,
    ⟨⟨.t 38, .idxAddr 2 (.t 36) (.t 37), some (.t 34, true)⟩, false, false, []⟩,
    ⟨⟨.t 39, .loadN 2 (.t 38), some (.t 34, true)⟩, false, false, []⟩,
    ⟨⟨.t 40, .mov (.p 0), some (.t 34, true)⟩, false, false, []⟩,
    ⟨⟨.t 41, .mov (.p 11), some (.t 34, true)⟩, false, false, []⟩,
    ⟨⟨.t 42, .idxAddr 2 (.t 40) (.t 41), some (.t 34, true)⟩, false, false, []⟩,
    ⟨⟨.t 43, .loadN 2 (.t 42), some (.t 34, true)⟩, false, false, []⟩,
    ⟨⟨.t 44, .callV (.t 35) [.t 39, .t 43], some (.t 34, true)⟩, false, false, []⟩,
    ⟨⟨.t 45, .bin .lss (.t 44) (.c (.int .i64 0)), some (.t 34, true)⟩, false, false, []⟩,
    ⟨⟨.t 46, .un .not (.t 45), some (.t 34, true)⟩, false, false, []⟩,
    ⟨⟨.p 47, .pick (.t 34) (.t 46) (.c (.bool false)), none⟩, false, false, []⟩])
    (.cond (.p 47)
    (.skip)
    (.exit 2)))
    (.block 3 [0, 1, 4, 11, 12]
    (.reg [⟨.t 48, .mov (.p 11), none⟩,
    ⟨.t 49, .bin .add (.t 48) (.c (.int .i64 1)), none⟩,
    ⟨.p 11, .mov (.t 49), none⟩]))
def lb_slices_partitionEqualCmpFunc_runes_span_1 : CCode :=
 .seq (.seq (.dreg [⟨⟨.t 50, .mov (.p 11), none⟩, false, false, []⟩,
    ⟨⟨.t 51, .mov (.p 12), none⟩, false, false, []⟩,
    ⟨⟨.t 52, .bin .leq (.t 50) (.t 51), none⟩, false, false, []⟩,
    ⟨⟨.t 53, .mov (.t 52), none⟩, false, false, []⟩,
    ⟨⟨.t 54, .mov (.p 4), some (.t 53, true)⟩, false, false, []⟩,
    ⟨⟨.t 55, .mov (.p 0), some (.t 53, true)⟩, false, false, []⟩,
    ⟨⟨.t 56, .mov (.p 1), some (.t 53, true)⟩, false, false, []⟩,
    ⟨⟨.t 57, .idxAddr 2 (.t 55) (.t 56), some (.t 53, true)⟩, false, false, []⟩,
    ⟨⟨.t 58, .loadN 2 (.t 57), some (.t 53, true)⟩, false, false, []⟩,
    ⟨⟨.t 59, .mov (.p 0), some (.t 53, true)⟩, false, false, []⟩,
    ⟨⟨.t 60, .mov (.p 12), some (.t 53, true)⟩, false, false, []⟩,
    ⟨⟨.t 61, .idxAddr 2 (.t 59) (.t 60), some (.t 53, true)⟩, false, false, []⟩,
    ⟨⟨.t 62, .loadN 2 (.t 61), some (.t 53, true)⟩, false, false, []⟩,
    ⟨⟨.t 63, .callV (.t 54) [.t 58, .t 62], some (.t 53, true)⟩, false, false, []⟩,
    ⟨⟨.t 64, .bin .lss (.t 63) (.c (.int .i64 0)), some (.t 53, true)⟩, false, false, []⟩,
    ⟨⟨.p 65, .pick (.t 53) (.t 64) (.c (.bool false)), none⟩, false, false, []⟩])
    (.cond (.p 65)
    (.skip)
    (.exit 4)))
    (.block 5 [0, 1, 4, 11, 12]
    (.reg [⟨.t 66, .mov (.p 12), none⟩,
    ⟨.t 67, .bin .sub (.t 66) (.c (.int .i64 1)), none⟩,
    ⟨.p 12, .mov (.t 67), none⟩]))
def lb_slices_partitionEqualCmpFunc_runes_span_2 : CCode :=
 .block 1 [0, 1, 4, 11, 12]
    (.seq (.block 2 [0, 1, 4, 11, 12]
    (.loop [0, 1, 4, 11, 12] lb_slices_partitionEqualCmpFunc_runes_span_0))
    (.seq (.block 4 [0, 1, 4, 11, 12]
    (.loop [0, 1, 4, 11, 12] lb_slices_partitionEqualCmpFunc_runes_span_1))
    (.seq (.seq (.reg [⟨.t 68, .mov (.p 11), none⟩,
    ⟨.t 69, .mov (.p 12), none⟩,
    ⟨.p 70, .bin .gtr (.t 68) (.t 69), none⟩])
    (.cond (.p 70)
    (.exit 0)
    (.skip)))
    (.seq (.dreg [⟨⟨.t 71, .mov (.p 0), none⟩, false, false, []⟩,
    ⟨⟨.t 72, .mov (.p 11), none⟩, false, false, []⟩,
    ⟨⟨.t 73, .mov (.p 0), none⟩, false, false, []⟩,
    ⟨⟨.t 74, .mov (.p 12), none⟩, false, false, []⟩,
    ⟨⟨.t 75, .mov (.p 0), none⟩, false, false, []⟩,
    ⟨⟨.t 76, .mov (.p 12), none⟩, false, false, []⟩,
    ⟨⟨.t 77, .idxAddr 2 (.t 75) (.t 76), none⟩, false, false, []⟩,
    ⟨⟨.t 78, .loadN 2 (.t 77), none⟩, false, false, []⟩,
    ⟨⟨.t 79, .mov (.p 0), none⟩, false, false, []⟩,
    ⟨⟨.t 80, .mov (.p 11), none⟩, false, false, []⟩,
    ⟨⟨.t 81, .idxAddr 2 (.t 79) (.t 80), none⟩, false, false, []⟩,
    ⟨⟨.t 82, .loadN 2 (.t 81), none⟩, false, false, []⟩,
    ⟨⟨.t 83, .idxAddr 2 (.t 71) (.t 72), none⟩, false, false, []⟩,
    ⟨⟨.no, .store 2 (.t 83) (.t 78), none⟩, false, false, []⟩,
    ⟨⟨.t 84, .idxAddr 2 (.t 73) (.t 74), none⟩, false, false, []⟩,
    ⟨⟨.no, .store 2 (.t 84) (.t 82), none⟩, false, false, []⟩])
    (.seq (.reg [⟨.t 85, .mov (.p 11), none⟩,
    ⟨.t 86, .bin .add (.t 85) (.c (.int .i64 1)), none⟩,
    ⟨.p 11, .mov (.t 86), none⟩])
    (.reg [⟨.t 87, .mov (.p 12), none⟩,
    ⟨.t 88, .bin .sub (.t 87) (.c (.int .i64 1)), none⟩,
    ⟨.p 12, .mov (.t 88), none⟩]))))))
def bd_slices_partitionEqualCmpFunc_runes_span : CCode :=
 .seq (.reg [⟨.p 10, .mov (.c (.int .i64 0)), none⟩])
    (.seq (.dreg [⟨⟨.t 13, .mov (.p 0), none⟩, false, false, []⟩,
    ⟨⟨.t 14, .mov (.p 1), none⟩, false, false, []⟩,
    ⟨⟨.t 15, .mov (.p 0), none⟩, false, false, []⟩,
    ⟨⟨.t 16, .mov (.p 3), none⟩, false, false, []⟩,
    ⟨⟨.t 17, .mov (.p 0), none⟩, false, false, []⟩,
    ⟨⟨.t 18, .mov (.p 3), none⟩, false, false, []⟩,
    ⟨⟨.t 19, .idxAddr 2 (.t 17) (.t 18), none⟩, false, false, []⟩,
    ⟨⟨.t 20, .loadN 2 (.t 19), none⟩, false, false, []⟩,
    ⟨⟨.t 21, .mov (.p 0), none⟩, false, false, []⟩,
    ⟨⟨.t 22, .mov (.p 1), none⟩, false, false, []⟩,
    ⟨⟨.t 23, .idxAddr 2 (.t 21) (.t 22), none⟩, false, false, []⟩,
    ⟨⟨.t 24, .loadN 2 (.t 23), none⟩, false, false, []⟩,
    ⟨⟨.t 25, .idxAddr 2 (.t 13) (.t 14), none⟩, false, false, []⟩,
    ⟨⟨.no, .store 2 (.t 25) (.t 20), none⟩, false, false, []⟩,
    ⟨⟨.t 26, .idxAddr 2 (.t 15) (.t 16), none⟩, false, false, []⟩,
    ⟨⟨.no, .store 2 (.t 26) (.t 24), none⟩, false, false, []⟩])
    (.seq (.reg [⟨.t 27, .mov (.p 1), none⟩,
    ⟨.t 28, .bin .add (.t 27) (.c (.int .i64 1)), none⟩,
    ⟨.t 29, .mov (.p 2), none⟩,
    ⟨.t 30, .bin .sub (.t 29) (.c (.int .i64 1)), none⟩,
    ⟨.p 11, .mov (.t 28), none⟩,
    ⟨.p 12, .mov (.t 30), none⟩])
    (.seq (.block 0 [11]
    (.loop [0, 1, 4, 11, 12] lb_slices_partitionEqualCmpFunc_runes_span_2))
    (.seq (.reg [⟨.t 89, .mov (.p 11), none⟩,
    ⟨.p 10, .mov (.t 89), none⟩])
    (.ret)))))
def cf_slices_partitionEqualCmpFunc_runes_span : CFunc :=
{ nargs := 5, ps := [0, 1, 2, 3, 4, 10, 11, 12, 47, 65, 70], results := [.slot 10], body := bd_slices_partitionEqualCmpFunc_runes_span }

/- slices.partitionCmpFunc[gobo/runes.span] -/
def lb_slices_partitionCmpFunc_runes_span_0 : CCode :=
 .seq (.seq (.dreg [⟨⟨.t 32, .mov (.p 12), none⟩, false, false, []⟩,
    ⟨⟨.t 33, .mov (.p 13), none⟩, false, false, []⟩,
    ⟨⟨.t 34, .bin .leq (.t 32) (.t 33), none⟩, false, false, []⟩,
    ⟨⟨.t 35, .mov (.t 34), none⟩, false, false, []⟩,
    ⟨⟨.t 36, .mov (.p 4), some (.t 35, true)⟩, false, false, []⟩,
    ⟨⟨.t 37, .mov (.p 0), some (.t 35, true)⟩, false, false, []⟩,
    ⟨⟨.t 38, .mov (.p 12), some (.t 35, true)⟩, false, false, []⟩,
    ⟨⟨.t 39, .idxAddr 2 (.t 37) (.t 38), some (.t 35, true)⟩, false, false, []⟩,
    ⟨⟨.t 40, .loadN 2 (.t 39), some (.t 35, true)⟩, false, false, []⟩,
    ⟨⟨.t 41, .mov (.p 0), some (.t 35, true)⟩, false, false, []⟩,
    ⟨⟨.t 42, .mov (.p 1), some (.t 35, true)⟩, false, false, []⟩,
    ⟨⟨.t 43, .idxAddr 2 (.t 41) (.t 42), some (.t 35, true)⟩, false, false, []⟩,
    ⟨⟨.t 44, .loadN 2 (.t 43), some (.t 35, true)⟩, false, false, []⟩,
    ⟨⟨.t 45, .callV (.t 36) [.t 40, .t 44], some (.t 35, true)⟩, false, false, []⟩,
    ⟨⟨.t 46, .bin .lss (.t 45) (.c (.int .i64 0)), some (.t 35, true)⟩, false, false, []⟩,
    ⟨⟨.p 47, .pick (.t 35) (.t 46) (.c (.bool false)), none⟩, false, false, []⟩])
    (.cond (.p 47)
    (.skip)
    (.exit 0)))
    (.block 1 [0, 1, 4, 12, 13]
    (.reg [⟨.t 48, .mov (.p 12), none⟩,
    ⟨.t 49, .bin .add (.t 48) (.c (.int .i64 1)), none⟩,
    ⟨.p 12, .mov (.t 49), none⟩]))
def lb_slices_partitionCmpFunc_runes_span_1 : CCode :=
 .seq (.seq (.dreg [⟨⟨.t 50, .mov (.p 12), none⟩, false, false, []⟩,
    ⟨⟨.t 51, .mov (.p 13), none⟩, false, false, []⟩,
    ⟨⟨.t 52, .bin .leq (.t 50) (.t 51), none⟩, false, false, []⟩,
    ⟨⟨.t 53, .mov (.t 52), none⟩, false, false, []⟩,
    ⟨⟨.t 54, .mov (.p 4), some (.t 53, true)⟩, false, false, []⟩,
    ⟨⟨.t 55, .mov (.p 0), some (.t 53, true)⟩, false, false, []⟩,
    ⟨⟨.t 56, .mov (.p 13), some (.t 53, true)⟩, false, false, []⟩,
    ⟨⟨.t 57, .idxAddr 2 (.t 55) (.t 56), some (.t 53, true)⟩, false, false, []⟩,
    ⟨⟨.t 58, .loadN 2 (.t 57), some (.t 53, true)⟩, false, false, []⟩,
    ⟨⟨.t 59, .mov (.p 0), some (.t 53, true)⟩, false, false, []⟩,
    ⟨⟨.t 60, .mov (.p 1), some (.t 53, true)⟩, false, false, []⟩,
    ⟨⟨.t 61, .idxAddr 2 (.t 59) (.t 60), some (.t 53, true)⟩, false, false, []⟩,
    ⟨⟨.t 62, .loadN 2 (.t 61), some (.t 53, true)⟩, false, false, []⟩,
    ⟨⟨.t 63, .callV (.t 54) [.t 58, .t 62], some (.t 53, true)⟩, false, false, []⟩,
    ⟨⟨.t 64, .bin .lss (.t 63) (.c (.int .i64 0)), some (.t 53, true)⟩, false, false, []⟩,
    ⟨⟨.t 65, .un .not (.t 64), some (.t 53, true)⟩, false, false, []⟩,
    ⟨⟨.p 66, .pick (.t 53) (.t 65) (.c (.bool false)), none⟩, false, false, []⟩])
    (.cond (.p 66)
    (.skip)
    (.exit 2)))
    (.block 3 [0, 1, 4, 12, 13]
    (.reg [⟨.t 67, .mov (.p 13), none⟩,
    ⟨.t 68, .bin .sub (.t 67) (.c (.int .i64 1)), none⟩,
    ⟨.p 13, .mov (.t 68), none⟩]))
def lb_slices_partitionCmpFunc_runes_span_2 : CCode :=
 .seq (.seq (.dreg [⟨⟨.t 105, .mov (.p 12), none⟩, false, false, []⟩,
    ⟨⟨.t 106, .mov (.p 13), none⟩, false, false, []⟩,
    ⟨⟨.t 107, .bin .leq (.t 105) (.t 106), none⟩, false, false, []⟩,
    ⟨⟨.t 108, .mov (.t 107), none⟩, false, false, []⟩,
    ⟨⟨.t 109, .mov (.p 4), some (.t 108, true)⟩, false, false, []⟩,
    ⟨⟨.t 110, .mov (.p 0), some (.t 108, true)⟩, false, false, []⟩,
    ⟨⟨.t 111, .mov (.p 12), some (.t 108, true)⟩, false, false, []⟩,
    ⟨⟨.t 112, .idxAddr 2 (.t 110) (.t 111), some (.t 108, true)⟩, false, false, []⟩,
    ⟨⟨.t 113, .loadN 2 (.t 112), some (.t 108, true)⟩, false, false, []⟩,
    ⟨⟨.t 114, .mov (.p 0), some (.t 108, true)⟩, false, false, []⟩,
    ⟨⟨.t 115, .mov (.p 1), some (.t 108, true)⟩, false, false, []⟩,
    ⟨⟨.t 116, .idxAddr 2 (.t 114) (.t 115), some (.t 108, true)⟩, false, false, []⟩,
    ⟨⟨.t 117, .loadN 2 (.t 116), some (.t 108, true)⟩, false, false, []⟩,
    ⟨⟨.t 118, .callV (.t 109) [.t 113, .t 117], some (.t 108, true)⟩, false, false, []⟩,
    ⟨⟨.t 119, .bin .lss (.t 118) (.c (.int .i64 0)), some (.t 108, true)⟩, false, false, []⟩,
    ⟨⟨.p 120, .pick (.t 108) (.t 119) (.c (.bool false)), none⟩, false, false, []⟩])
    (.cond (.p 120)
    (.skip)
    (.exit 6)))
    (.block 7 [0, 1, 4, 12, 13]
    (.reg [⟨.t 121, .mov (.p 12), none⟩,
    ⟨.t 122, .bin .add (.t 121) (.c (.int .i64 1)), none⟩,
    ⟨.p 12, .mov (.t 122), none⟩]))
def lb_slices_partitionCmpFunc_runes_span_3 : CCode :=
 .seq (.seq (.dreg [⟨⟨.t 123, .mov (.p 12), none⟩, false, false, []⟩,
    ⟨⟨.t 124, .mov (.p 13), none⟩, false, false, []⟩,
    ⟨⟨.t 125, .bin .leq (.t 123) (.t 124), none⟩, false, false, []⟩,
    ⟨⟨.t 126, .mov (.t 125), none⟩, false, false, []⟩,
    ⟨⟨.t 127, .mov (.p 4), some (.t 126, true)⟩, false, false, []⟩,
    ⟨⟨.t 128, .mov (.p 0), some (.t 126, true)⟩, false, false, []⟩,
    ⟨⟨.t 129, .mov (.p 13), some (.t 126, true)⟩, false, false, []⟩,
    ⟨⟨.t 130, .idxAddr 2 (.t 128) (.t 129), some (.t 126, true)⟩, false, false, []⟩,
    ⟨⟨.t 131, .loadN 2 (.t 130), some (.t 126, true)⟩, false, false, []⟩,
    ⟨⟨.t 132, .mov (.p 0), some (.t 126, true)⟩, false, false, []⟩,
    ⟨⟨.t 133, .mov (.p 1), some (.t 126, true)⟩, false, false, []⟩,
    ⟨⟨.t 134, .idxAddr 2 (.t 132) (.t 133), some (.t 126, true)⟩, false, false, []⟩,
    ⟨⟨.t 135, .loadN 2 (.t 134), some (.t 126, true)⟩, false, false, []⟩,
    ⟨⟨.t 136, .callV (.t 127) [.t 131, .t 135], some (.t 126, true)⟩, false, false, []⟩,
    ⟨⟨.t 137, .bin .lss (.t 136) (.c (.int .i64 0)), some (.t 126, true)⟩, false, false, []⟩,
    ⟨⟨.t 138, .un .not (.t 137), some (.t 126, true)⟩, false, false, []⟩,
    ⟨⟨.p 139, .pick (.t 126) (.t 138) (.c (.bool false)), none⟩, false, false, []⟩])
    (.cond (.p 139)
    (.skip)
    (.exit 8)))
    (.block 9 [0, 1, 4, 12, 13]
    (.reg [⟨.t 140, .mov (.p 13), none⟩,
    ⟨.t 141, .bin .sub (.t 140) (.c (.int .i64 1)), none⟩,
    ⟨.p 13, .mov (.t 141), none⟩]))
def lb_slices_partitionCmpFunc_runes_span_4 : CCode :=
 .block 5 [0, 1, 4, 12, 13]
    (.seq (.block 6 [0, 1, 4, 12, 13]
    (.loop [0, 1, 4, 12, 13] lb_slices_partitionCmpFunc_runes_span_2))
    (.seq (.block 8 [0, 1, 4, 12, 13]
    (.loop [0, 1, 4, 12, 13] lb_slices_partitionCmpFunc_runes_span_3))
    (.seq (.seq (.reg [⟨.t 142, .mov (.p 12), none⟩,
    ⟨.t 143, .mov (.p 13), none⟩,
    ⟨.p 144, .bin .gtr (.t 142) (.t 143), none⟩])
    (.cond (.p 144)
    (.exit 4)
    (.skip)))
    (.seq (.dreg [⟨⟨.t 145, .mov (.p 0), none⟩, false, false, []⟩,
    ⟨⟨.t 146, .mov (.p 12), none⟩, false, false, []⟩,
    ⟨⟨.t 147, .mov (.p 0), none⟩, false, false, []⟩,
    ⟨⟨.t 148, .mov (.p 13), none⟩, false, false, []⟩,
    ⟨⟨.t 149, .mov (.p 0), none⟩, false, false, []⟩,
    ⟨⟨.t 150, .mov (.p 13), none⟩, false, false, []⟩,
    ⟨⟨.t 151, .idxAddr 2 (.t 149) (.t 150), none⟩, false, false, []⟩,
    ⟨⟨.t 152, .loadN 2 (.t 151), none⟩, false, false, []⟩,
    ⟨⟨.t 153, .mov (.p 0), none⟩, false, false, []⟩,
    ⟨⟨.t 154, .mov (.p 12), none⟩, false, false, []⟩,
    ⟨⟨.t 155, .idxAddr 2 (.t 153) (.t 154), none⟩, false, false, []⟩,
    ⟨⟨.t 156, .loadN 2 (.t 155), none⟩, false, false, []⟩,
    ⟨⟨.t 157, .idxAddr 2 (.t 145) (.t 146), none⟩, false, false, []⟩,
    ⟨⟨.no, .store 2 (.t 157) (.t 152), none⟩, false, false, []⟩,
    ⟨⟨.t 158, .idxAddr 2 (.t 147) (.t 148), none⟩, false, false, []⟩,
    ⟨⟨.no, .store 2 (.t 158) (.t 156), none⟩, false, false, []⟩])
    (.seq (.reg [⟨.t 159, .mov (.p 12), none⟩,
    ⟨.t 160, .bin .add (.t 159) (.c (.int .i64 1)), none⟩,
    ⟨.p 12, .mov (.t 160), none⟩])
    (.reg [⟨.t 161, .mov (.p 13), none⟩,
    ⟨.t 162, .bin .sub (.t 161) (.c (.int .i64 1)), none⟩,
    ⟨.p 13, .mov (.t 162), none⟩]))))))
def bd_slices_partitionCmpFunc_runes_span : CCode :=
 .seq (.reg [⟨.p 10, .mov (.c (.int .i64 0)), none⟩,
    ⟨.p 11, .mov (.c (.bool false)), none⟩])
    (.seq (.dreg [⟨⟨.t 14, .mov (.p 0), none⟩, false, false, []⟩,
    ⟨⟨.t 15, .mov (.p 1), none⟩, false, false, []⟩,
    ⟨⟨.t 16, .mov (.p 0), none⟩, false, false, []⟩,
    ⟨⟨.t 17, .mov (.p 3), none⟩, false, false, []⟩,
    ⟨⟨.t 18, .mov (.p 0), none⟩, false, false, []⟩,
    ⟨⟨.t 19, .mov (.p 3), none⟩, false, false, []⟩,
    ⟨⟨.t 20, .idxAddr 2 (.t 18) (.t 19), none⟩, false, false, []⟩,
    ⟨⟨.t 21, .loadN 2 (.t 20), none⟩, false, false, []⟩,
    ⟨⟨.t 22, .mov (.p 0), none⟩, false, false, []⟩,
    ⟨⟨.t 23, .mov (.p 1), none⟩, false, false, []⟩,
    ⟨⟨.t 24, .idxAddr 2 (.t 22) (.t 23), none⟩, false, false, []⟩,
    ⟨⟨.t 25, .loadN 2 (.t 24), none⟩, false, false, []⟩,
    ⟨⟨.t 26, .idxAddr 2 (.t 14) (.t 15), none⟩, false, false, []⟩,
    ⟨⟨.no, .store 2 (.t 26) (.t 21), none⟩, false, false, []⟩,
    ⟨⟨.t 27, .idxAddr 2 (.t 16) (.t 17), none⟩, false, false, []⟩,
    ⟨⟨.no, .store 2 (.t 27) (.t 25), none⟩, false, false, []⟩])
    (.seq (.reg [⟨.t 28, .mov (.p 1), none⟩,
    ⟨.t 29, .bin .add (.t 28) (.c (.int .i64 1)), none⟩,
    ⟨.t 30, .mov (.p 2), none⟩,
    ⟨.t 31, .bin .sub (.t 30) (.c (.int .i64 1)), none⟩,
    ⟨.p 12, .mov (.t 29), none⟩,
    ⟨.p 13, .mov (.t 31), none⟩])
    (.seq (.block 0 [0, 1, 4, 12, 13]
    (.loop [0, 1, 4, 12, 13] lb_slices_partitionCmpFunc_runes_span_0))
    (.seq (.block 2 [0, 1, 4, 12, 13]
    (.loop [0, 1, 4, 12, 13] lb_slices_partitionCmpFunc_runes_span_1))
    (.seq (.seq (.reg [⟨.t 69, .mov (.p 12), none⟩,
    ⟨.t 70, .mov (.p 13), none⟩,
    ⟨.p 71, .bin .gtr (.t 69) (.t 70), none⟩])
    (.cond (.p 71)
    (.seq (.dreg [⟨⟨.t 72, .mov (.p 0), none⟩, false, false, []⟩,
    ⟨⟨.t 73, .mov (.p 13), none⟩, false, false, []⟩,
    ⟨⟨.t 74, .mov (.p 0), none⟩, false, false, []⟩,
    ⟨⟨.t 75, .mov (.p 1), none⟩, false, false, []⟩,
    ⟨⟨.t 76, .mov (.p 0), none⟩, false, false, []⟩,
    ⟨⟨.t 77, .mov (.p 1), none⟩, false, false, []⟩,
    ⟨⟨.t 78, .idxAddr 2 (.t 76) (.t 77), none⟩, false, false, []⟩,
    ⟨⟨.t 79, .loadN 2 (.t 78), none⟩, false, false, []⟩,
    ⟨⟨.t 80, .mov (.p 0), none⟩, false, false, []⟩,
    ⟨⟨.t 81, .mov (.p 13), none⟩, false, false, []⟩,
    ⟨⟨.t 82, .idxAddr 2 (.t 80) (.t 81), none⟩, false, false, []⟩,
    ⟨⟨.t 83, .loadN 2 (.t 82), none⟩, false, false, []⟩,
    ⟨⟨.t 84, .idxAddr 2 (.t 72) (.t 73), none⟩, false, false, []⟩,
    ⟨⟨.no, .store 2 (.t 84) (.t 79), none⟩, false, false, []⟩,
    ⟨⟨.t 85, .idxAddr 2 (.t 74) (.t 75), none⟩, false, false, []⟩,
    ⟨⟨.no, .store 2 (.t 85) (.t 83), none⟩, false, false, []⟩])
    (.seq (.reg [⟨.t 86, .mov (.p 13), none⟩,
    ⟨.p 10, .mov (.t 86), none⟩,
    ⟨.p 11, .mov (.c (.bool true)), none⟩])
    (.ret)))
    (.skip)))
    (.seq (.dreg [⟨⟨.t 87, .mov (.p 0), none⟩, false, false, []⟩,
    ⟨⟨.t 88, .mov (.p 12), none⟩, false, false, []⟩,
    ⟨⟨.t 89, .mov (.p 0), none⟩, false, false, []⟩,
    ⟨⟨.t 90, .mov (.p 13), none⟩, false, false, []⟩,
    ⟨⟨.t 91, .mov (.p 0), none⟩, false, false, []⟩,
    ⟨⟨.t 92, .mov (.p 13), none⟩, false, false, []⟩,
    ⟨⟨.t 93, .idxAddr 2 (.t 91) (.t 92), none⟩, false, false, []⟩,
    ⟨⟨.t 94, .loadN 2 (.t 93), none⟩, false, false, []⟩,
    ⟨⟨.t 95, .mov (.p 0), none⟩, false, false, []⟩,
    ⟨⟨.t 96, .mov (.p 12), none⟩, false, false, []⟩,
    ⟨⟨.t 97, .idxAddr 2 (.t 95) (.t 96), none⟩, false, false, []⟩,
    ⟨⟨.t 98, .loadN 2 (.t 97), none⟩, false, false, []⟩,
    ⟨⟨.t 99, .idxAddr 2 (.t 87) (.t 88), none⟩, false, false, []⟩,
    ⟨⟨.no, .store 2 (.t 99) (.t 94), none⟩, false, false, []⟩,
    ⟨⟨.t 100, .idxAddr 2 (.t 89) (.t 90), none⟩, false, false, []⟩,
    ⟨⟨.no, .store 2 (.t 100) (.t 98), none⟩, false, false, []⟩])
    (.seq (.reg [⟨.t 101, .mov (.p 12), none⟩,
    ⟨.t 102, .bin .add (.t 101) (.c (.int .i64 1)), none⟩,
    ⟨.p 12, .mov (.t 102), none⟩])
    (.seq (.reg [⟨.t 103, .mov (.p 13), none⟩,
    ⟨.t 104, .bin .sub (.t 103) (.c (.int .i64 1)), none⟩,
    ⟨.p 13, .mov (.t 104), none⟩])
    (.seq (.block 4 [0, 1, 13]
    (.loop [0, 1, 4, 12, 13] lb_slices_partitionCmpFunc_runes_span_4))
    (.seq (.dreg [⟨⟨.t 163, .mov (.p 0), none⟩, false, false, []⟩,
    ⟨⟨.t 164, .mov (.p 13), none⟩, false, false, []⟩,
    ⟨⟨.t 165, .mov (.p 0), none⟩, false, false, []⟩,
    ⟨⟨.t 166, .mov (.p 1), none⟩, false, false, []⟩,
    ⟨⟨.t 167, .mov (.p 0), none⟩, false, false, []⟩,
    ⟨⟨.t 168, .mov (.p 1), none⟩, false, false, []⟩,
    ⟨⟨.t 169, .idxAddr 2 (.t 167) (.t 168), none⟩, false, false, []⟩,
    ⟨⟨.t 170, .loadN 2 (.t 169), none⟩, false, false, []⟩,
    ⟨⟨.t 171, .mov (.p 0), none⟩, false, false, []⟩,
    ⟨⟨.t 172, .mov (.p 13), none⟩, false, false, []⟩,
    ⟨⟨.t 173, .idxAddr 2 (.t 171) (.t 172), none⟩, false, false, []⟩,
    ⟨⟨.t 174, .loadN 2 (.t 173), none⟩, false, false, []⟩,
    ⟨⟨.t 175, .idxAddr 2 (.t 163) (.t 164), none⟩, false, false, []⟩,
    ⟨⟨.no, .store 2 (.t 175) (.t 170), none⟩, false, false, []⟩,
    ⟨⟨.t 176, .idxAddr 2 (.t 165) (.t 166), none⟩, false, false, []⟩,
    ⟨⟨.no, .store 2 (.t 176) (.t 174), none⟩, false, false, []⟩])
    (.seq (.reg [⟨.t 177, .mov (.p 13), none⟩,
    ⟨.p 10, .mov (.t 177), none⟩,
    ⟨.p 11, .mov (.c (.bool false)), none⟩])
    (.ret))))))))))))
def cf_slices_partitionCmpFunc_runes_span : CFunc :=
{ nargs := 5, ps := [0, 1, 2, 3, 4, 10, 11, 12, 13, 47, 66, 71, 120, 139, 144], results := [.slot 10, .slot 11], body := bd_slices_partitionCmpFunc_runes_span }

/- math/bits.Len32 -/
def bd_bits_Len32 : CCode :=
 .seq (.reg [⟨.p 2, .mov (.c (.int .i64 0)), none⟩])
    (.seq (.seq (.reg [⟨.t 3, .mov (.p 0), none⟩,
    ⟨.p 4, .bin .geq (.t 3) (.c (.int .u32 65536)), none⟩])
    (.cond (.p 4)
    (.seq (.reg [⟨.t 5, .mov (.p 0), none⟩,
    ⟨.t 6, .bin .shr (.t 5) (.c (.int .u64 16)), none⟩,
    ⟨.p 0, .mov (.t 6), none⟩])
    (.reg [⟨.p 2, .mov (.c (.int .i64 16)), none⟩]))
    (.skip)))
    (.seq (.seq (.reg [⟨.t 7, .mov (.p 0), none⟩,
    ⟨.p 8, .bin .geq (.t 7) (.c (.int .u32 256)), none⟩])
    (.cond (.p 8)
    (.seq (.reg [⟨.t 9, .mov (.p 0), none⟩,
    ⟨.t 10, .bin .shr (.t 9) (.c (.int .u64 8)), none⟩,
    ⟨.p 0, .mov (.t 10), none⟩])
    (.reg [⟨.t 11, .mov (.p 2), none⟩,
    ⟨.t 12, .bin .add (.t 11) (.c (.int .i64 8)), none⟩,
    ⟨.p 2, .mov (.t 12), none⟩]))
    (.skip)))
    (.seq (.reg [⟨.t 13, .mov (.p 2), none⟩,
    ⟨.t 14, .mov (.p 0), none⟩,
    ⟨.t 15, .convI .u8 (.t 14), none⟩,
    ⟨.t 16, .idxStr (.c (.str [0, 1, 2, 2, 3, 3, 3, 3, 4, 4, 4, 4, 4, 4, 4, 4, 5, 5, 5, 5, 5, 5, 5, 5, 5, 5, 5, 5, 5, 5, 5, 5, 6, 6, 6, 6, 6, 6, 6, 6, 6, 6, 6, 6, 6, 6, 6, 6, 6, 6, 6, 6, 6, 6, 6, 6, 6, 6, 6, 6, 6, 6, 6, 6, 7, 7, 7, 7, 7, 7, 7, 7, 7, 7, 7, 7, 7, 7, 7, 7, 7, 7, 7, 7, 7, 7, 7, 7, 7, 7, 7, 7, 7, 7, 7, 7, 7, 7, 7, 7, 7, 7, 7, 7, 7, 7, 7, 7, 7, 7, 7, 7, 7, 7, 7, 7, 7, 7, 7, 7, 7, 7, 7, 7, 7, 7, 7, 7, 8, 8, 8, 8, 8, 8, 8, 8, 8, 8, 8, 8, 8, 8, 8, 8, 8, 8, 8, 8, 8, 8, 8, 8, 8, 8, 8, 8, 8, 8, 8, 8, 8, 8, 8, 8, 8, 8, 8, 8, 8, 8, 8, 8, 8, 8, 8, 8, 8, 8, 8, 8, 8, 8, 8, 8, 8, 8, 8, 8, 8, 8, 8, 8, 8, 8, 8, 8, 8, 8, 8, 8, 8, 8, 8, 8, 8, 8, 8, 8, 8, 8, 8, 8, 8, 8, 8, 8, 8, 8, 8, 8, 8, 8, 8, 8, 8, 8, 8, 8, 8, 8, 8, 8, 8, 8, 8, 8, 8, 8, 8, 8, 8, 8, 8, 8, 8, 8, 8, 8, 8, 8, 8, 8, 8, 8, 8, 8])) (.t 15), none⟩,
    ⟨.t 17, .convI .i64 (.t 16), none⟩,
    ⟨.t 18, .bin .add (.t 13) (.t 17), none⟩,
    ⟨.p 2, .mov (.t 18), none⟩])
    (.ret))))
def cf_bits_Len32 : CFunc :=
{ nargs := 1, ps := [0, 2, 4, 8], results := [.slot 2], body := bd_bits_Len32 }

/- math/bits.Len64 -/
def bd_bits_Len64 : CCode :=
 .seq (.reg [⟨.p 2, .mov (.c (.int .i64 0)), none⟩])
    (.seq (.seq (.reg [⟨.t 3, .mov (.p 0), none⟩,
    ⟨.p 4, .bin .geq (.t 3) (.c (.int .u64 4294967296)), none⟩])
    (.cond (.p 4)
    (.seq (.reg [⟨.t 5, .mov (.p 0), none⟩,
    ⟨.t 6, .bin .shr (.t 5) (.c (.int .u64 32)), none⟩,
    ⟨.p 0, .mov (.t 6), none⟩])
    (.reg [⟨.p 2, .mov (.c (.int .i64 32)), none⟩]))
    (.skip)))
    (.seq (.seq (.reg [⟨.t 7, .mov (.p 0), none⟩,
    ⟨.p 8, .bin .geq (.t 7) (.c (.int .u64 65536)), none⟩])
    (.cond (.p 8)
    (.seq (.reg [⟨.t 9, .mov (.p 0), none⟩,
    ⟨.t 10, .bin .shr (.t 9) (.c (.int .u64 16)), none⟩,
    ⟨.p 0, .mov (.t 10), none⟩])
    (.reg [⟨.t 11, .mov (.p 2), none⟩,
    ⟨.t 12, .bin .add (.t 11) (.c (.int .i64 16)), none⟩,
    ⟨.p 2, .mov (.t 12), none⟩]))
    (.skip)))
    (.seq (.seq (.reg [⟨.t 13, .mov (.p 0), none⟩,
    ⟨.p 14, .bin .geq (.t 13) (.c (.int .u64 256)), none⟩])
    (.cond (.p 14)
    (.seq (.reg [⟨.t 15, .mov (.p 0), none⟩,
    ⟨.t 16, .bin .shr (.t 15) (.c (.int .u64 8)), none⟩,
    ⟨.p 0, .mov (.t 16), none⟩])
    (.reg [⟨.t 17, .mov (.p 2), none⟩,
    ⟨.t 18, .bin .add (.t 17) (.c (.int .i64 8)), none⟩,
    ⟨.p 2, .mov (.t 18), none⟩]))
    (.skip)))
    (.seq (.reg [⟨.t 19, .mov (.p 2), none⟩,
    ⟨.t 20, .mov (.p 0), none⟩,
    ⟨.t 21, .convI .u8 (.t 20), none⟩,
    ⟨.t 22, .idxStr (.c (.str [0, 1, 2, 2, 3, 3, 3, 3, 4, 4, 4, 4, 4, 4, 4, 4, 5, 5, 5, 5, 5, 5, 5, 5, 5, 5, 5, 5, 5, 5, 5, 5, 6, 6, 6, 6, 6, 6, 6, 6, 6, 6, 6, 6, 6, 6, 6, 6, 6, 6, 6, 6, 6, 6, 6, 6, 6, 6, 6, 6, 6, 6, 6, 6, 7, 7, 7, 7, 7, 7, 7, 7, 7, 7, 7, 7, 7, 7, 7, 7, 7, 7, 7, 7, 7, 7, 7, 7, 7, 7, 7, 7, 7, 7, 7, 7, 7, 7, 7, 7, 7, 7, 7, 7, 7, 7, 7, 7, 7, 7, 7, 7, 7, 7, 7, 7, 7, 7, 7, 7, 7, 7, 7, 7, 7, 7, 7, 7, 8, 8, 8, 8, 8, 8, 8, 8, 8, 8, 8, 8, 8, 8, 8, 8, 8, 8, 8, 8, 8, 8, 8, 8, 8, 8, 8, 8, 8, 8, 8, 8, 8, 8, 8, 8, 8, 8, 8, 8, 8, 8, 8, 8, 8, 8, 8, 8, 8, 8, 8, 8, 8, 8, 8, 8, 8, 8, 8, 8, 8, 8, 8, 8, 8, 8, 8, 8, 8, 8, 8, 8, 8, 8, 8, 8, 8, 8, 8, 8, 8, 8, 8, 8, 8, 8, 8, 8, 8, 8, 8, 8, 8, 8, 8, 8, 8, 8, 8, 8, 8, 8, 8, 8, 8, 8, 8, 8, 8, 8, 8, 8, 8, 8, 8, 8, 8, 8, 8, 8, 8, 8, 8, 8, 8, 8, 8, 8])) (.t 21), none⟩,
    ⟨.t 23, .convI .i64 (.t 22), none⟩,
    ⟨.t 24, .bin .add (.t 19) (.t 23), none⟩,
    ⟨.p 2, .mov (.t 24), none⟩])
    (.ret)))))
def cf_bits_Len64 : CFunc :=
{ nargs := 1, ps := [0, 2, 4, 8, 14], results := [.slot 2], body := bd_bits_Len64 }

/- (*gobo/decode.Dec).more$1 -/
def bd_decode_Dec_more_1 : CCode :=
 .seq (.reg [⟨.t 4, .recover, none⟩,
    ⟨.p 1, .mov (.t 4), none⟩])
    (.seq (.reg [⟨.t 5, .mov (.p 1), none⟩,
    ⟨.p 6, .eqv true .iface (.t 5) (.c (.nili)), none⟩])
    (.cond (.p 6)
    (.seq (.seq (.reg [⟨.t 8, .mov (.p 1), none⟩,
    ⟨.t 9, .assert T_decode_wrong (some (.agg [])) (.t 8), none⟩,
    ⟨.t 7, .mov (.t 9), none⟩,
    ⟨.t 10, .extract (.t 7) 0, none⟩,
    ⟨.t 11, .extract (.t 7) 1, none⟩,
    ⟨.t 2, .alloc [], none⟩,
    ⟨.no, .store 0 (.t 2) (.t 10), none⟩,
    ⟨.p 3, .mov (.t 11), none⟩])
    (.seq (.reg [⟨.t 12, .mov (.p 3), none⟩,
    ⟨.p 13, .un .not (.t 12), none⟩])
    (.cond (.p 13)
    (.reg [⟨.t 14, .mov (.p 1), none⟩,
    ⟨.no, .panic (.t 14), none⟩])
    (.skip))))
    (.reg [⟨.no, .store 1 (.p 0) (.c (.bool false)), none⟩]))
    (.skip)))
def cf_decode_Dec_more_1 : CFunc :=
{ nargs := 1, ps := [0, 1, 3, 6, 13], results := [], body := bd_decode_Dec_more_1 }

/- gobo/decode.grow -/
def bd_decode_grow : CCode :=
 .seq (.reg [⟨.p 4, .mov (.c (.nils)), none⟩])
    (.seq (.reg [⟨.p 5, .mov (.c (.int .u8 128)), none⟩,
    ⟨.p 6, .mov (.c (.int .u8 191)), none⟩])
    (.seq (.seq (.reg [⟨.t 7, .mov (.p 0), none⟩,
    ⟨.t 8, .lenSl (.t 7), none⟩,
    ⟨.p 9, .bin .eql (.t 8) (.c (.int .i64 1)), none⟩])
    (.cond (.p 9)
    (.reg [⟨.t 11, .mov (.p 0), none⟩,
    ⟨.t 12, .idxAddr 1 (.t 11) (.c (.int .i64 0)), none⟩,
    ⟨.t 13, .load1 (.t 12), none⟩,
    ⟨.t 14, .call F_decode_second [.t 13], none⟩,
    ⟨.t 10, .mov (.t 14), none⟩,
    ⟨.t 15, .extract (.t 10) 0, none⟩,
    ⟨.t 16, .extract (.t 10) 1, none⟩,
    ⟨.p 5, .mov (.t 15), none⟩,
    ⟨.p 6, .mov (.t 16), none⟩])
    (.skip)))
    (.seq (.seq (.reg [⟨.t 17, .mov (.p 0), none⟩,
    ⟨.t 18, .lenSl (.t 17), none⟩,
    ⟨.t 19, .bin .eql (.t 18) (.c (.int .i64 0)), none⟩,
    ⟨.t 20, .mov (.t 19), none⟩,
    ⟨.t 21, .mov (.p 1), some (.t 20, true)⟩,
    ⟨.t 22, .call F_decode_long [.t 21], some (.t 20, true)⟩,
    ⟨.t 23, .bin .eql (.t 22) (.c (.int .i64 0)), some (.t 20, true)⟩,
    ⟨.t 24, .pick (.t 20) (.t 23) (.c (.bool false)), none⟩,
    ⟨.t 25, .mov (.t 24), none⟩,
    ⟨.t 26, .mov (.p 0), some (.t 25, false)⟩,
    ⟨.t 27, .lenSl (.t 26), some (.t 25, false)⟩,
    ⟨.t 28, .bin .gtr (.t 27) (.c (.int .i64 0)), some (.t 25, false)⟩,
    ⟨.t 29, .mov (.t 28), some (.t 25, false)⟩,
    ⟨.t 30, .mov (.p 1), some (.t 29, true)⟩,
    ⟨.t 31, .mov (.p 5), some (.t 29, true)⟩,
    ⟨.t 32, .bin .lss (.t 30) (.t 31), some (.t 29, true)⟩,
    ⟨.t 33, .mov (.t 32), some (.t 29, true)⟩,
    ⟨.t 34, .mov (.p 1), some (.t 33, false)⟩,
    ⟨.t 35, .mov (.p 6), some (.t 33, false)⟩,
    ⟨.t 36, .bin .gtr (.t 34) (.t 35), some (.t 33, false)⟩,
    ⟨.t 37, .pick (.t 33) (.c (.bool true)) (.t 36), some (.t 29, true)⟩,
    ⟨.t 38, .pick (.t 29) (.t 37) (.c (.bool false)), some (.t 25, false)⟩,
    ⟨.p 39, .pick (.t 25) (.c (.bool true)) (.t 38), none⟩])
    (.cond (.p 39)
    (.reg [⟨.t 40, .build [] [], none⟩,
    ⟨.t 41, .mkIface T_decode_wrong (.t 40), none⟩,
    ⟨.no, .panic (.t 41), none⟩])
    (.skip)))
    (.seq (.reg [⟨.t 42, .mov (.p 0), none⟩,
    ⟨.t 43, .call F_slices_Clone_byte_byte [.t 42], none⟩,
    ⟨.t 44, .mov (.p 1), none⟩,
    ⟨.t 45, .lit [.int .u8 0] 1 [(0, 1, .t 44)], none⟩,
    ⟨.t 46, .append 1 1 (.t 43) (.t 45), none⟩,
    ⟨.p 4, .mov (.t 46), none⟩])
    (.ret)))))
def cf_decode_grow : CFunc :=
{ nargs := 2, ps := [0, 1, 4, 5, 6, 9, 39], results := [.slot 4], body := bd_decode_grow }

/- gobo/decode.long -/
def bd_decode_long : CCode :=
 .seq (.reg [⟨.p 2, .mov (.c (.int .i64 0)), none⟩])
    (.seq (.block 0 []
    (.seq (.reg [⟨.t 4, .mov (.p 0), none⟩,
    ⟨.t 5, .bin .lss (.t 4) (.c (.int .u8 128)), none⟩,
    ⟨.p 3, .mov (.t 5), none⟩])
    (.cond (.p 3)
    (.seq (.reg [⟨.p 2, .mov (.c (.int .i64 1)), none⟩])
    (.ret))
    (.seq (.reg [⟨.t 7, .mov (.p 0), none⟩,
    ⟨.t 8, .bin .geq (.t 7) (.c (.int .u8 194)), none⟩,
    ⟨.t 9, .mov (.t 8), none⟩,
    ⟨.t 10, .mov (.p 0), some (.t 9, true)⟩,
    ⟨.t 11, .bin .leq (.t 10) (.c (.int .u8 223)), some (.t 9, true)⟩,
    ⟨.t 12, .pick (.t 9) (.t 11) (.c (.bool false)), none⟩,
    ⟨.p 6, .mov (.t 12), none⟩])
    (.cond (.p 6)
    (.seq (.reg [⟨.p 2, .mov (.c (.int .i64 2)), none⟩])
    (.ret))
    (.seq (.reg [⟨.t 14, .mov (.p 0), none⟩,
    ⟨.t 15, .bin .geq (.t 14) (.c (.int .u8 224)), none⟩,
    ⟨.t 16, .mov (.t 15), none⟩,
    ⟨.t 17, .mov (.p 0), some (.t 16, true)⟩,
    ⟨.t 18, .bin .leq (.t 17) (.c (.int .u8 239)), some (.t 16, true)⟩,
    ⟨.t 19, .pick (.t 16) (.t 18) (.c (.bool false)), none⟩,
    ⟨.p 13, .mov (.t 19), none⟩])
    (.cond (.p 13)
    (.seq (.reg [⟨.p 2, .mov (.c (.int .i64 3)), none⟩])
    (.ret))
    (.seq (.reg [⟨.t 21, .mov (.p 0), none⟩,
    ⟨.t 22, .bin .geq (.t 21) (.c (.int .u8 240)), none⟩,
    ⟨.t 23, .mov (.t 22), none⟩,
    ⟨.t 24, .mov (.p 0), some (.t 23, true)⟩,
    ⟨.t 25, .bin .leq (.t 24) (.c (.int .u8 244)), some (.t 23, true)⟩,
    ⟨.t 26, .pick (.t 23) (.t 25) (.c (.bool false)), none⟩,
    ⟨.p 20, .mov (.t 26), none⟩])
    (.cond (.p 20)
    (.seq (.reg [⟨.p 2, .mov (.c (.int .i64 4)), none⟩])
    (.ret))
    (.skip))))))))))
    (.seq (.reg [⟨.p 2, .mov (.c (.int .i64 0)), none⟩])
    (.ret)))
def cf_decode_long : CFunc :=
{ nargs := 1, ps := [0, 2, 3, 6, 13, 20], results := [.slot 2], body := bd_decode_long }

/- unicode/utf8.decodeRuneSlow -/
def bd_utf8_decodeRuneSlow : CCode :=
 .seq (.reg [⟨.p 2, .mov (.c (.int .i32 0)), none⟩,
    ⟨.p 3, .mov (.c (.int .i64 0)), none⟩])
    (.seq (.reg [⟨.t 13, .mov (.p 0), none⟩,
    ⟨.t 14, .lenSl (.t 13), none⟩,
    ⟨.p 4, .mov (.t 14), none⟩])
    (.seq (.seq (.reg [⟨.t 15, .mov (.p 4), none⟩,
    ⟨.p 16, .bin .lss (.t 15) (.c (.int .i64 1)), none⟩])
    (.cond (.p 16)
    (.seq (.reg [⟨.p 2, .mov (.c (.int .i32 65533)), none⟩,
    ⟨.p 3, .mov (.c (.int .i64 0)), none⟩])
    (.ret))
    (.skip)))
    (.seq (.reg [⟨.t 17, .mov (.p 0), none⟩,
    ⟨.t 18, .idxAddr 1 (.t 17) (.c (.int .i64 0)), none⟩,
    ⟨.t 19, .load1 (.t 18), none⟩,
    ⟨.p 5, .mov (.t 19), none⟩])
    (.seq (.reg [⟨.t 20, .mov (.p 5), none⟩,
    ⟨.t 21, .idxArr 256 1 (.g G_utf8_first) (.t 20), none⟩,
    ⟨.t 22, .load1 (.t 21), none⟩,
    ⟨.p 6, .mov (.t 22), none⟩])
    (.seq (.seq (.reg [⟨.t 23, .mov (.p 6), none⟩,
    ⟨.p 24, .bin .geq (.t 23) (.c (.int .u8 240)), none⟩])
    (.cond (.p 24)
    (.seq (.reg [⟨.t 25, .mov (.p 6), none⟩,
    ⟨.t 26, .convI .i32 (.t 25), none⟩,
    ⟨.t 27, .bin .shl (.t 26) (.c (.int .u64 31)), none⟩,
    ⟨.t 28, .bin .shr (.t 27) (.c (.int .u64 31)), none⟩,
    ⟨.p 7, .mov (.t 28), none⟩])
    (.seq (.reg [⟨.t 29, .mov (.p 0), none⟩,
    ⟨.t 30, .idxAddr 1 (.t 29) (.c (.int .i64 0)), none⟩,
    ⟨.t 31, .load1 (.t 30), none⟩,
    ⟨.t 32, .convI .i32 (.t 31), none⟩,
    ⟨.t 33, .mov (.p 7), none⟩,
    ⟨.t 34, .bin .andNot (.t 32) (.t 33), none⟩,
    ⟨.t 35, .mov (.p 7), none⟩,
    ⟨.t 36, .bin .and (.c (.int .i32 65533)) (.t 35), none⟩,
    ⟨.t 37, .bin .or (.t 34) (.t 36), none⟩,
    ⟨.p 2, .mov (.t 37), none⟩,
    ⟨.p 3, .mov (.c (.int .i64 1)), none⟩])
    (.ret)))
    (.skip)))
    (.seq (.reg [⟨.t 38, .mov (.p 6), none⟩,
    ⟨.t 39, .bin .and (.t 38) (.c (.int .u8 7)), none⟩,
    ⟨.t 40, .convI .i64 (.t 39), none⟩,
    ⟨.p 8, .mov (.t 40), none⟩])
    (.seq (.reg [⟨.t 41, .mov (.p 6), none⟩,
    ⟨.t 42, .bin .shr (.t 41) (.c (.int .u64 4)), none⟩,
    ⟨.t 43, .idxArr 16 2 (.g G_utf8_acceptRanges) (.t 42), none⟩,
    ⟨.t 44, .loadN 2 (.t 43), none⟩,
    ⟨.p 9, .alloc [.int .u8 0, .int .u8 0], none⟩,
    ⟨.no, .store 2 (.p 9) (.t 44), none⟩])
    (.seq (.seq (.reg [⟨.t 45, .mov (.p 4), none⟩,
    ⟨.t 46, .mov (.p 8), none⟩,
    ⟨.p 47, .bin .lss (.t 45) (.t 46), none⟩])
    (.cond (.p 47)
    (.seq (.reg [⟨.p 2, .mov (.c (.int .i32 65533)), none⟩,
    ⟨.p 3, .mov (.c (.int .i64 1)), none⟩])
    (.ret))
    (.skip)))
    (.seq (.reg [⟨.t 48, .mov (.p 0), none⟩,
    ⟨.t 49, .idxAddr 1 (.t 48) (.c (.int .i64 1)), none⟩,
    ⟨.t 50, .load1 (.t 49), none⟩,
    ⟨.p 10, .mov (.t 50), none⟩])
    (.seq (.seq (.reg [⟨.t 51, .mov (.p 10), none⟩,
    ⟨.t 52, .fieldAddr 0 (.p 9), none⟩,
    ⟨.t 53, .load1 (.t 52), none⟩,
    ⟨.t 54, .bin .lss (.t 51) (.t 53), none⟩,
    ⟨.t 55, .mov (.t 54), none⟩,
    ⟨.t 56, .fieldAddr 1 (.p 9), some (.t 55, false)⟩,
    ⟨.t 57, .load1 (.t 56), some (.t 55, false)⟩,
    ⟨.t 58, .mov (.p 10), some (.t 55, false)⟩,
    ⟨.t 59, .bin .lss (.t 57) (.t 58), some (.t 55, false)⟩,
    ⟨.p 60, .pick (.t 55) (.c (.bool true)) (.t 59), none⟩])
    (.cond (.p 60)
    (.seq (.reg [⟨.p 2, .mov (.c (.int .i32 65533)), none⟩,
    ⟨.p 3, .mov (.c (.int .i64 1)), none⟩])
    (.ret))
    (.skip)))
    (.seq (.seq (.reg [⟨.t 61, .mov (.p 8), none⟩,
    ⟨.p 62, .bin .leq (.t 61) (.c (.int .i64 2)), none⟩])
    (.cond (.p 62)
    (.seq (.reg [⟨.t 63, .mov (.p 5), none⟩,
    ⟨.t 64, .bin .and (.t 63) (.c (.int .u8 31)), none⟩,
    ⟨.t 65, .convI .i32 (.t 64), none⟩,
    ⟨.t 66, .bin .shl (.t 65) (.c (.int .u64 6)), none⟩,
    ⟨.t 67, .mov (.p 10), none⟩,
    ⟨.t 68, .bin .and (.t 67) (.c (.int .u8 63)), none⟩,
    ⟨.t 69, .convI .i32 (.t 68), none⟩,
    ⟨.t 70, .bin .or (.t 66) (.t 69), none⟩,
    ⟨.p 2, .mov (.t 70), none⟩,
    ⟨.p 3, .mov (.c (.int .i64 2)), none⟩])
    (.ret))
    (.skip)))
    (.seq (.reg [⟨.t 71, .mov (.p 0), none⟩,
    ⟨.t 72, .idxAddr 1 (.t 71) (.c (.int .i64 2)), none⟩,
    ⟨.t 73, .load1 (.t 72), none⟩,
    ⟨.p 11, .mov (.t 73), none⟩])
    (.seq (.seq (.reg [⟨.t 74, .mov (.p 11), none⟩,
    ⟨.t 75, .bin .lss (.t 74) (.c (.int .u8 128)), none⟩,
    ⟨.t 76, .mov (.t 75), none⟩,
    ⟨.t 77, .mov (.p 11), some (.t 76, false)⟩,
    ⟨.t 78, .bin .lss (.c (.int .u8 191)) (.t 77), some (.t 76, false)⟩,
    ⟨.p 79, .pick (.t 76) (.c (.bool true)) (.t 78), none⟩])
    (.cond (.p 79)
    (.seq (.reg [⟨.p 2, .mov (.c (.int .i32 65533)), none⟩,
    ⟨.p 3, .mov (.c (.int .i64 1)), none⟩])
    (.ret))
    (.skip)))
    (.seq (.seq (.reg [⟨.t 80, .mov (.p 8), none⟩,
    ⟨.p 81, .bin .leq (.t 80) (.c (.int .i64 3)), none⟩])
    (.cond (.p 81)
    (.seq (.reg [⟨.t 82, .mov (.p 5), none⟩,
    ⟨.t 83, .bin .and (.t 82) (.c (.int .u8 15)), none⟩,
    ⟨.t 84, .convI .i32 (.t 83), none⟩,
    ⟨.t 85, .bin .shl (.t 84) (.c (.int .u64 12)), none⟩,
    ⟨.t 86, .mov (.p 10), none⟩,
    ⟨.t 87, .bin .and (.t 86) (.c (.int .u8 63)), none⟩,
    ⟨.t 88, .convI .i32 (.t 87), none⟩,
    ⟨.t 89, .bin .shl (.t 88) (.c (.int .u64 6)), none⟩,
    ⟨.t 90, .bin .or (.t 85) (.t 89), none⟩,
    ⟨.t 91, .mov (.p 11), none⟩,
    ⟨.t 92, .bin .and (.t 91) (.c (.int .u8 63)), none⟩,
    ⟨.t 93, .convI .i32 (.t 92), none⟩,
    ⟨.t 94, .bin .or (.t 90) (.t 93), none⟩,
    ⟨.p 2, .mov (.t 94), none⟩,
    ⟨.p 3, .mov (.c (.int .i64 3)), none⟩])
    (.ret))
    (.skip)))
    (.seq (.reg [⟨.t 95, .mov (.p 0), none⟩,
    ⟨.t 96, .idxAddr 1 (.t 95) (.c (.int .i64 3)), none⟩,
    ⟨.t 97, .load1 (.t 96), none⟩,
    ⟨.p 12, .mov (.t 97), none⟩])
    (.seq (.seq (.reg [⟨.t 98, .mov (.p 12), none⟩,
    ⟨.t 99, .bin .lss (.t 98) (.c (.int .u8 128)), none⟩,
    ⟨.t 100, .mov (.t 99), none⟩,
    ⟨.t 101, .mov (.p 12), some (.t 100, false)⟩,
    ⟨.t 102, .bin .lss (.c (.int .u8 191)) (.t 101), some (.t 100, false)⟩,
    ⟨.p 103, .pick (.t 100) (.c (.bool true)) (.t 102), none⟩])
    (.cond (.p 103)
    (.seq (.reg [⟨.p 2, .mov (.c (.int .i32 65533)), none⟩,
    ⟨.p 3, .mov (.c (.int .i64 1)), none⟩])
    (.ret))
    (.skip)))
    (.seq (.reg [⟨.t 104, .mov (.p 5), none⟩,
    ⟨.t 105, .bin .and (.t 104) (.c (.int .u8 7)), none⟩,
    ⟨.t 106, .convI .i32 (.t 105), none⟩,
    ⟨.t 107, .bin .shl (.t 106) (.c (.int .u64 18)), none⟩,
    ⟨.t 108, .mov (.p 10), none⟩,
    ⟨.t 109, .bin .and (.t 108) (.c (.int .u8 63)), none⟩,
    ⟨.t 110, .convI .i32 (.t 109), none⟩,
    ⟨.t 111, .bin .shl (.t 110) (.c (.int .u64 12)), none⟩,
    ⟨.t 112, .bin .or (.t 107) (.t 111), none⟩,
    ⟨.t 113, .mov (.p 11), none⟩,
    ⟨.t 114, .bin .and (.t 113) (.c (.int .u8 63)), none⟩,
    ⟨.t 115, .convI .i32 (.t 114), none⟩,
    ⟨.t 116, .bin .shl (.t 115) (.c (.int .u64 6)), none⟩,
    ⟨.t 117, .bin .or (.t 112) (.t 116), none⟩,
    ⟨.t 118, .mov (.p 12), none⟩,
    ⟨.t 119, .bin .and (.t 118) (.c (.int .u8 63)), none⟩,
    ⟨.t 120, .convI .i32 (.t 119), none⟩,
    ⟨.t 121, .bin .or (.t 117) (.t 120), none⟩,
    ⟨.p 2, .mov (.t 121), none⟩,
    ⟨.p 3, .mov (.c (.int .i64 4)), none⟩])
    (.ret))))))))))))))))))
def cf_utf8_decodeRuneSlow : CFunc :=
{ nargs := 1, ps := [0, 2, 3, 4, 5, 6, 7, 8, 9, 10, 11, 12, 16, 24, 47, 60, 62, 79, 81, 103], results := [.slot 2, .slot 3], body := bd_utf8_decodeRuneSlow }

/- slices.siftDownCmpFunc[gobo/runes.span] -/
def lb_slices_siftDownCmpFunc_runes_span_0 : CCode :=
 .block 1 [0, 2, 3, 4, 10]
    (.seq (.reg [⟨.t 13, .mov (.p 10), none⟩,
    ⟨.t 14, .bin .mul (.c (.int .i64 2)) (.t 13), none⟩,
    ⟨.t 15, .bin .add (.t 14) (.c (.int .i64 1)), none⟩,
    ⟨.p 11, .mov (.t 15), none⟩])
    (.seq (.seq (.reg [⟨.t 16, .mov (.p 11), none⟩,
    ⟨.t 17, .mov (.p 2), none⟩,
    ⟨.p 18, .bin .geq (.t 16) (.t 17), none⟩])
    (.cond (.p 18)
    (.exit 0)
    (.skip)))
    (.seq (.seq (.dreg [⟨⟨.t 19, .mov (.p 11), none⟩, false, false, []⟩,
    ⟨⟨.t 20, .bin .add (.t 19) (.c (.int .i64 1)), none⟩, false, false, []⟩,
    ⟨⟨.t 21, .mov (.p 2), none⟩, false, false, []⟩,
    ⟨⟨.t 22, .bin .lss (.t 20) (.t 21), none⟩, false, false, []⟩,
    ⟨⟨.t 23, .mov (.t 22), none⟩, false, false, []⟩,
    ⟨⟨.t 24, .mov (.p 4), some (.t 23, true)⟩, false, false, []⟩,
    ⟨⟨.t 25, .mov (.p 0), some (.t 23, true)⟩, false, false, []⟩,
    ⟨⟨.t 26, .mov (.p 3), some (.t 23, true)⟩, false, false, []⟩,
    ⟨⟨.t 27, .mov (.p 11), some (.t 23, true)⟩, false, false, []⟩,
    ⟨⟨.t 28, .bin .add (.t 26) (.t 27), some (.t 23, true)⟩, false, false, []⟩,
    ⟨⟨.t 29, .idxAddr 2 (.t 25) (.t 28), some (.t 23, true)⟩, false, false, []⟩,
    ⟨⟨.t 30, .loadN 2 (.t 29), some (.t 23, true)⟩, false, false, []⟩,
    ⟨⟨.t 31, .mov (.p 0), some (.t 23, true)⟩, false, false, []⟩,
    ⟨⟨.t 32, .mov (.p 3), some (.t 23, true)⟩, false, false, []⟩,
    ⟨⟨.t 33, .mov (.p 11), some (.t 23, true)⟩, false, false, []⟩,
    ⟨⟨.t 34, .bin .add (.t 32) (.t 33), some (.t 23, true)⟩, false, false, []⟩,
    ⟨⟨.t 35, .bin .add (.t 34) (.c (.int .i64 1)), some (.t 23, true)⟩, false, false, []⟩,
    ⟨⟨.t 36, .idxAddr 2 (.t 31) (.t 35), some (.t 23, true)⟩, false, false, []⟩,
    ⟨⟨.t 37, .loadN 2 (.t 36), some (.t 23, true)⟩, false, false, []⟩,
    ⟨⟨.t 38, .callV (.t 24) [.t 30, .t 37], some (.t 23, true)⟩, false, false, []⟩,
    ⟨⟨.t 39, .bin .lss (.t 38) (.c (.int .i64 0)), some (.t 23, true)⟩, false, false, []⟩,
    ⟨⟨.p 40, .pick (.t 23) (.t 39) (.c (.bool false)), none⟩, false, false, []⟩])
    (.cond (.p 40)
    (.reg [⟨.t 41, .mov (.p 11), none⟩,
    ⟨.t 42, .bin .add (.t 41) (.c (.int .i64 1)), none⟩,
    ⟨.p 11, .mov (.t 42), none⟩])
    (.skip)))
    (.seq (.seq (.dreg [⟨⟨.t 43, .mov (.p 4), none⟩, false, false, []⟩,
    ⟨⟨.t 44, .mov (.p 0), none⟩, false, false, []⟩,
    ⟨⟨.t 45, .mov (.p 3), none⟩, false, false, []⟩,
    ⟨⟨.t 46, .mov (.p 10), none⟩, false, false, []⟩,
    ⟨⟨.t 47, .bin .add (.t 45) (.t 46), none⟩, false, false, []⟩,
    ⟨⟨.t 48, .idxAddr 2 (.t 44) (.t 47), none⟩, false, false, []⟩,
    ⟨⟨.t 49, .loadN 2 (.t 48), none⟩, false, false, []⟩,
    ⟨⟨.t 50, .mov (.p 0), none⟩, false, false, []⟩,
    ⟨⟨.t 51, .mov (.p 3), none⟩, false, false, []⟩,
    ⟨⟨.t 52, .mov (.p 11), none⟩, false, false, []⟩,
    ⟨⟨.t 53, .bin .add (.t 51) (.t 52), none⟩, false, false, []⟩,
    ⟨⟨.t 54, .idxAddr 2 (.t 50) (.t 53), none⟩, false, false, []⟩,
    ⟨⟨.t 55, .loadN 2 (.t 54), none⟩, false, false, []⟩,
    ⟨⟨.t 56, .callV (.t 43) [.t 49, .t 55], none⟩, false, false, []⟩,
    ⟨⟨.t 57, .bin .lss (.t 56) (.c (.int .i64 0)), none⟩, false, false, []⟩,
    ⟨⟨.p 58, .un .not (.t 57), none⟩, false, false, []⟩])
    (.cond (.p 58)
    (.ret)
    (.skip)))
    (.seq (.dreg [⟨⟨.t 59, .mov (.p 0), none⟩, false, false, []⟩,
    ⟨⟨.t 60, .mov (.p 3), none⟩, false, false, []⟩,
    ⟨⟨.t 61, .mov (.p 10), none⟩, false, false, []⟩,
    ⟨⟨.t 62, .bin .add (.t 60) (.t 61), none⟩, false, false, []⟩,
    ⟨⟨.t 63, .mov (.p 0), none⟩, false, false, []⟩,
    ⟨⟨.t 64, .mov (.p 3), none⟩, false, false, []⟩,
    ⟨⟨.t 65, .mov (.p 11), none⟩, false, false, []⟩,
    ⟨⟨.t 66, .bin .add (.t 64) (.t 65), none⟩, false, false, []⟩,
    ⟨⟨.t 67, .mov (.p 0), none⟩, false, false, []⟩,
    ⟨⟨.t 68, .mov (.p 3), none⟩, false, false, []⟩,
    ⟨⟨.t 69, .mov (.p 11), none⟩, false, false, []⟩,
    ⟨⟨.t 70, .bin .add (.t 68) (.t 69), none⟩, false, false, []⟩,
    ⟨⟨.t 71, .idxAddr 2 (.t 67) (.t 70), none⟩, false, false, []⟩,
    ⟨⟨.t 72, .loadN 2 (.t 71), none⟩, false, false, []⟩,
    ⟨⟨.t 73, .mov (.p 0), none⟩, false, false, []⟩,
    ⟨⟨.t 74, .mov (.p 3), none⟩, false, false, []⟩,
    ⟨⟨.t 75, .mov (.p 10), none⟩, false, false, []⟩,
    ⟨⟨.t 76, .bin .add (.t 74) (.t 75), none⟩, false, false, []⟩,
    ⟨⟨.t 77, .idxAddr 2 (.t 73) (.t 76), none⟩, false, false, []⟩,
    ⟨⟨.t 78, .loadN 2 (.t 77), none⟩, false, false, []⟩,
    ⟨⟨.t 79, .idxAddr 2 (.t 59) (.t 62), none⟩, false, false, []⟩,
    ⟨⟨.no, .store 2 (.t 79) (.t 72), none⟩, false, false, []⟩,
    ⟨⟨.t 80, .idxAddr 2 (.t 63) (.t 66), none⟩, false, false, []⟩,
    ⟨⟨.no, .store 2 (.t 80) (.t 78), none⟩, false, false, []⟩])
    (.reg [⟨.t 81, .mov (.p 11), none⟩,
    ⟨.p 10, .mov (.t 81), none⟩]))))))
def bd_slices_siftDownCmpFunc_runes_span : CCode :=
 .seq (.reg [⟨.t 12, .mov (.p 1), none⟩,
    ⟨.p 10, .mov (.t 12), none⟩])
    (.block 0 []
    (.loop [0, 2, 3, 4, 10] lb_slices_siftDownCmpFunc_runes_span_0))
def cf_slices_siftDownCmpFunc_runes_span : CFunc :=
{ nargs := 5, ps := [0, 1, 2, 3, 4, 10, 11, 18, 40, 58], results := [], body := bd_slices_siftDownCmpFunc_runes_span }

/- slices.nextPowerOfTwo -/
def bd_slices_nextPowerOfTwo : CCode :=
 .seq (.reg [⟨.p 2, .mov (.c (.int .u64 0)), none⟩])
    (.seq (.reg [⟨.t 3, .mov (.p 0), none⟩,
    ⟨.t 4, .convI .u64 (.t 3), none⟩,
    ⟨.t 5, .call F_bits_Len [.t 4], none⟩,
    ⟨.t 6, .bin .shl (.c (.int .u64 1)) (.t 5), none⟩,
    ⟨.p 2, .mov (.t 6), none⟩])
    (.ret))
def cf_slices_nextPowerOfTwo : CFunc :=
{ nargs := 1, ps := [0, 2], results := [.slot 2], body := bd_slices_nextPowerOfTwo }

/- (*slices.xorshift).Next -/
def bd_slices_xorshift_Next : CCode :=
 .seq (.reg [⟨.p 2, .mov (.c (.int .u64 0)), none⟩])
    (.seq (.dreg [⟨⟨.t 3, .mov (.p 0), none⟩, false, false, []⟩,
    ⟨⟨.t 4, .nilCheck (.t 3), none⟩, false, false, []⟩,
    ⟨⟨.t 5, .load1 (.t 4), none⟩, false, false, []⟩,
    ⟨⟨.t 6, .mov (.p 0), none⟩, false, false, []⟩,
    ⟨⟨.t 7, .nilCheck (.t 6), none⟩, false, false, []⟩,
    ⟨⟨.t 8, .load1 (.t 7), none⟩, false, false, []⟩,
    ⟨⟨.t 9, .bin .shl (.t 8) (.c (.int .u64 13)), none⟩, false, false, []⟩,
    ⟨⟨.t 10, .bin .xor (.t 5) (.t 9), none⟩, false, false, []⟩,
    ⟨⟨.t 11, .nilCheck (.t 3), none⟩, false, false, []⟩,
    ⟨⟨.no, .store 1 (.t 11) (.t 10), none⟩, false, false, []⟩])
    (.seq (.dreg [⟨⟨.t 12, .mov (.p 0), none⟩, false, false, []⟩,
    ⟨⟨.t 13, .nilCheck (.t 12), none⟩, false, false, []⟩,
    ⟨⟨.t 14, .load1 (.t 13), none⟩, false, false, []⟩,
    ⟨⟨.t 15, .mov (.p 0), none⟩, false, false, []⟩,
    ⟨⟨.t 16, .nilCheck (.t 15), none⟩, false, false, []⟩,
    ⟨⟨.t 17, .load1 (.t 16), none⟩, false, false, []⟩,
    ⟨⟨.t 18, .bin .shr (.t 17) (.c (.int .u64 7)), none⟩, false, false, []⟩,
    ⟨⟨.t 19, .bin .xor (.t 14) (.t 18), none⟩, false, false, []⟩,
    ⟨⟨.t 20, .nilCheck (.t 12), none⟩, false, false, []⟩,
    ⟨⟨.no, .store 1 (.t 20) (.t 19), none⟩, false, false, []⟩])
    (.seq (.dreg [⟨⟨.t 21, .mov (.p 0), none⟩, false, false, []⟩,
    ⟨⟨.t 22, .nilCheck (.t 21), none⟩, false, false, []⟩,
    ⟨⟨.t 23, .load1 (.t 22), none⟩, false, false, []⟩,
    ⟨⟨.t 24, .mov (.p 0), none⟩, false, false, []⟩,
    ⟨⟨.t 25, .nilCheck (.t 24), none⟩, false, false, []⟩,
    ⟨⟨.t 26, .load1 (.t 25), none⟩, false, false, []⟩,
    ⟨⟨.t 27, .bin .shl (.t 26) (.c (.int .u64 17)), none⟩, false, false, []⟩,
    ⟨⟨.t 28, .bin .xor (.t 23) (.t 27), none⟩, false, false, []⟩,
    ⟨⟨.t 29, .nilCheck (.t 21), none⟩, false, false, []⟩,
    ⟨⟨.no, .store 1 (.t 29) (.t 28), none⟩, false, false, []⟩])
    (.seq (.reg [⟨.t 30, .mov (.p 0), none⟩,
    ⟨.t 31, .nilCheck (.t 30), none⟩,
    ⟨.t 32, .load1 (.t 31), none⟩,
    ⟨.p 2, .mov (.t 32), none⟩])
    (.ret)))))
def cf_slices_xorshift_Next : CFunc :=
{ nargs := 1, ps := [0, 2], results := [.slot 2], body := bd_slices_xorshift_Next }

/- slices.medianAdjacentCmpFunc[gobo/runes.span] -/
def bd_slices_medianAdjacentCmpFunc_runes_span : CCode :=
 .seq (.reg [⟨.p 8, .mov (.c (.int .i64 0)), none⟩])
    (.seq (.reg [⟨.t 9, .mov (.p 0), none⟩,
    ⟨.t 10, .mov (.p 1), none⟩,
    ⟨.t 11, .bin .sub (.t 10) (.c (.int .i64 1)), none⟩,
    ⟨.t 12, .mov (.p 1), none⟩,
    ⟨.t 13, .mov (.p 1), none⟩,
    ⟨.t 14, .bin .add (.t 13) (.c (.int .i64 1)), none⟩,
    ⟨.t 15, .mov (.p 2), none⟩,
    ⟨.t 16, .mov (.p 3), none⟩,
    ⟨.t 17, .call F_slices_medianCmpFunc_runes_span [.t 9, .t 11, .t 12, .t 14, .t 15, .t 16], none⟩,
    ⟨.p 8, .mov (.t 17), none⟩])
    (.ret))
def cf_slices_medianAdjacentCmpFunc_runes_span : CFunc :=
{ nargs := 4, ps := [0, 1, 2, 3, 8], results := [.slot 8], body := bd_slices_medianAdjacentCmpFunc_runes_span }

/- slices.medianCmpFunc[gobo/runes.span] -/
def bd_slices_medianCmpFunc_runes_span : CCode :=
 .seq (.reg [⟨.p 12, .mov (.c (.int .i64 0)), none⟩])
    (.seq (.reg [⟨.t 14, .mov (.p 0), none⟩,
    ⟨.t 15, .mov (.p 1), none⟩,
    ⟨.t 16, .mov (.p 2), none⟩,
    ⟨.t 17, .mov (.p 4), none⟩,
    ⟨.t 18, .mov (.p 5), none⟩,
    ⟨.t 19, .call F_slices_order2CmpFunc_runes_span [.t 14, .t 15, .t 16, .t 17, .t 18], none⟩,
    ⟨.t 13, .mov (.t 19), none⟩,
    ⟨.t 20, .extract (.t 13) 0, none⟩,
    ⟨.t 21, .extract (.t 13) 1, none⟩,
    ⟨.p 1, .mov (.t 20), none⟩,
    ⟨.p 2, .mov (.t 21), none⟩])
    (.seq (.reg [⟨.t 23, .mov (.p 0), none⟩,
    ⟨.t 24, .mov (.p 2), none⟩,
    ⟨.t 25, .mov (.p 3), none⟩,
    ⟨.t 26, .mov (.p 4), none⟩,
    ⟨.t 27, .mov (.p 5), none⟩,
    ⟨.t 28, .call F_slices_order2CmpFunc_runes_span [.t 23, .t 24, .t 25, .t 26, .t 27], none⟩,
    ⟨.t 22, .mov (.t 28), none⟩,
    ⟨.t 29, .extract (.t 22) 0, none⟩,
    ⟨.t 30, .extract (.t 22) 1, none⟩,
    ⟨.p 2, .mov (.t 29), none⟩,
    ⟨.p 3, .mov (.t 30), none⟩])
    (.seq (.reg [⟨.t 32, .mov (.p 0), none⟩,
    ⟨.t 33, .mov (.p 1), none⟩,
    ⟨.t 34, .mov (.p 2), none⟩,
    ⟨.t 35, .mov (.p 4), none⟩,
    ⟨.t 36, .mov (.p 5), none⟩,
    ⟨.t 37, .call F_slices_order2CmpFunc_runes_span [.t 32, .t 33, .t 34, .t 35, .t 36], none⟩,
    ⟨.t 31, .mov (.t 37), none⟩,
    ⟨.t 38, .extract (.t 31) 0, none⟩,
    ⟨.t 39, .extract (.t 31) 1, none⟩,
    ⟨.p 1, .mov (.t 38), none⟩,
    ⟨.p 2, .mov (.t 39), none⟩])
    (.seq (.reg [⟨.t 40, .mov (.p 2), none⟩,
    ⟨.p 12, .mov (.t 40), none⟩])
    (.ret)))))
def cf_slices_medianCmpFunc_runes_span : CFunc :=
{ nargs := 6, ps := [0, 1, 2, 3, 4, 5, 12], results := [.slot 12], body := bd_slices_medianCmpFunc_runes_span }

/- gobo/decode.second -/
def bd_decode_second : CCode :=
 .seq (.reg [⟨.p 2, .mov (.c (.int .u8 0)), none⟩,
    ⟨.p 3, .mov (.c (.int .u8 0)), none⟩])
    (.seq (.seq (.reg [⟨.p 4, .mov (.p 0), none⟩])
    (.block 0 []
    (.seq (.reg [⟨.t 6, .bin .eql (.p 4) (.c (.int .u8 224)), none⟩,
    ⟨.p 5, .mov (.t 6), none⟩])
    (.cond (.p 5)
    (.seq (.reg [⟨.p 2, .mov (.c (.int .u8 160)), none⟩,
    ⟨.p 3, .mov (.c (.int .u8 191)), none⟩])
    (.ret))
    (.seq (.reg [⟨.t 8, .bin .eql (.p 4) (.c (.int .u8 237)), none⟩,
    ⟨.p 7, .mov (.t 8), none⟩])
    (.cond (.p 7)
    (.seq (.reg [⟨.p 2, .mov (.c (.int .u8 128)), none⟩,
    ⟨.p 3, .mov (.c (.int .u8 159)), none⟩])
    (.ret))
    (.seq (.reg [⟨.t 10, .bin .eql (.p 4) (.c (.int .u8 240)), none⟩,
    ⟨.p 9, .mov (.t 10), none⟩])
    (.cond (.p 9)
    (.seq (.reg [⟨.p 2, .mov (.c (.int .u8 144)), none⟩,
    ⟨.p 3, .mov (.c (.int .u8 191)), none⟩])
    (.ret))
    (.seq (.reg [⟨.t 12, .bin .eql (.p 4) (.c (.int .u8 244)), none⟩,
    ⟨.p 11, .mov (.t 12), none⟩])
    (.cond (.p 11)
    (.seq (.reg [⟨.p 2, .mov (.c (.int .u8 128)), none⟩,
    ⟨.p 3, .mov (.c (.int .u8 143)), none⟩])
    (.ret))
    (.skip)))))))))))
    (.seq (.reg [⟨.p 2, .mov (.c (.int .u8 128)), none⟩,
    ⟨.p 3, .mov (.c (.int .u8 191)), none⟩])
    (.ret)))
def cf_decode_second : CFunc :=
{ nargs := 1, ps := [0, 2, 3, 4, 5, 7, 9, 11], results := [.slot 2, .slot 3], body := bd_decode_second }

/- slices.Clone[[]byte,byte] -/
def bd_slices_Clone_byte_byte : CCode :=
 .seq (.reg [⟨.p 2, .mov (.c (.nils)), none⟩])
    (.seq (.seq (.reg [⟨.t 3, .mov (.p 0), none⟩,
    ⟨.p 4, .eqv false .slice (.t 3) (.c (.nils)), none⟩])
    (.cond (.p 4)
    (.seq (.reg [⟨.p 2, .mov (.c (.nils)), none⟩])
    (.ret))
    (.skip)))
    (.seq (.reg [⟨.t 5, .lit [] 0 [], none⟩,
    ⟨.t 6, .mov (.p 0), none⟩,
    ⟨.t 7, .append 1 1 (.t 5) (.t 6), none⟩,
    ⟨.p 2, .mov (.t 7), none⟩])
    (.ret)))
def cf_slices_Clone_byte_byte : CFunc :=
{ nargs := 1, ps := [0, 2, 4], results := [.slot 2], body := bd_slices_Clone_byte_byte }

/- slices.order2CmpFunc[gobo/runes.span] -/
def bd_slices_order2CmpFunc_runes_span : CCode :=
 .seq (.reg [⟨.p 10, .mov (.c (.int .i64 0)), none⟩,
    ⟨.p 11, .mov (.c (.int .i64 0)), none⟩])
    (.seq (.seq (.dreg [⟨⟨.t 12, .mov (.p 4), none⟩, false, false, []⟩,
    ⟨⟨.t 13, .mov (.p 0), none⟩, false, false, []⟩,
    ⟨⟨.t 14, .mov (.p 2), none⟩, false, false, []⟩,
    ⟨⟨.t 15, .idxAddr 2 (.t 13) (.t 14), none⟩, false, false, []⟩,
    ⟨⟨.t 16, .loadN 2 (.t 15), none⟩, false, false, []⟩,
    ⟨⟨.t 17, .mov (.p 0), none⟩, false, false, []⟩,
    ⟨⟨.t 18, .mov (.p 1), none⟩, false, false, []⟩,
    ⟨⟨.t 19, .idxAddr 2 (.t 17) (.t 18), none⟩, false, false, []⟩,
    ⟨⟨.t 20, .loadN 2 (.t 19), none⟩, false, false, []⟩,
    ⟨⟨.t 21, .callV (.t 12) [.t 16, .t 20], none⟩, false, false, []⟩,
    ⟨⟨.p 22, .bin .lss (.t 21) (.c (.int .i64 0)), none⟩, false, false, []⟩])
    (.cond (.p 22)
    (.seq (.reg [⟨.t 23, .mov (.p 3), none⟩,
    ⟨.t 24, .nilCheck (.t 23), none⟩,
    ⟨.t 25, .load1 (.t 24), none⟩,
    ⟨.t 26, .bin .add (.t 25) (.c (.int .i64 1)), none⟩,
    ⟨.t 27, .nilCheck (.t 23), none⟩,
    ⟨.no, .store 1 (.t 27) (.t 26), none⟩])
    (.seq (.reg [⟨.t 28, .mov (.p 2), none⟩,
    ⟨.t 29, .mov (.p 1), none⟩,
    ⟨.p 10, .mov (.t 28), none⟩,
    ⟨.p 11, .mov (.t 29), none⟩])
    (.ret)))
    (.skip)))
    (.seq (.reg [⟨.t 30, .mov (.p 1), none⟩,
    ⟨.t 31, .mov (.p 2), none⟩,
    ⟨.p 10, .mov (.t 30), none⟩,
    ⟨.p 11, .mov (.t 31), none⟩])
    (.ret)))
def cf_slices_order2CmpFunc_runes_span : CFunc :=
{ nargs := 5, ps := [0, 1, 2, 3, 4, 10, 11, 22], results := [.slot 10, .slot 11], body := bd_slices_order2CmpFunc_runes_span }

end Go.Ev

/- The table of functions, printed by gen.py. -/
namespace Go.Ev
open Go
def bt : BT := .two 44 (.two 23 (.two 13 (.two 8 (.two 5 (.two 4 (.one F_gobolaw12_WordPlaces cf_gobolaw12_WordPlaces) (.one F_gobolaw12_WordBlanks cf_gobolaw12_WordBlanks)) (.two 6 (.one F_gobolaw12_WordKinds cf_gobolaw12_WordKinds) (.two 7 (.one F_gobolaw12_WordClasses cf_gobolaw12_WordClasses) (.one F_gobolaw12_told cf_gobolaw12_told)))) (.two 10 (.two 9 (.one F_word_All cf_word_All) (.one F_word_Class cf_word_Class)) (.two 11 (.one F_runes_Or cf_runes_Or) (.two 12 (.one F_runes_Same cf_runes_Same) (.one F_runes_Not cf_runes_Not))))) (.two 18 (.two 15 (.two 14 (.one F_word_Caught cf_word_Caught) (.one F_word_All_1 cf_word_All_1)) (.two 16 (.one F_word_words cf_word_words) (.two 17 (.one F_decode_All cf_decode_All) (.one F_word_Class_1 cf_word_Class_1)))) (.two 20 (.two 19 (.one F_word_Read cf_word_Read) (.one F_word_Reader_Class cf_word_Reader_Class)) (.two 21 (.one F_runes_Norm cf_runes_Norm) (.two 22 (.one F_slices_Concat_api_Range_api_Range cf_slices_Concat_api_Range_api_Range) (.one F_slices_Equal_api_Range_api_Range cf_slices_Equal_api_Range_api_Range)))))) (.two 33 (.two 28 (.two 25 (.two 24 (.one F_runes_Not_1 cf_runes_Not_1) (.one F_runes_spans cf_runes_spans)) (.two 26 (.one F_runes_ranges cf_runes_ranges) (.two 27 (.one F_word_Caught_1 cf_word_Caught_1) (.one F_word_run cf_word_run)))) (.two 30 (.two 29 (.one F_word_words_1 cf_word_words_1) (.one F_word_letter cf_word_letter)) (.two 31 (.one F_word_words_2 cf_word_words_2) (.two 32 (.one F_word_digit cf_word_digit) (.one F_strings_IndexByte cf_strings_IndexByte))))) (.two 38 (.two 35 (.two 34 (.one F_word_closed cf_word_closed) (.one F_word_Fail cf_word_Fail)) (.two 36 (.one F_decode_New cf_decode_New) (.two 37 (.one F_decode_Dec_Feed cf_decode_Dec_Feed) (.one F_decode_Dec_Close cf_decode_Dec_Close)))) (.two 41 (.two 39 (.one F_word_Reader_Skip cf_word_Reader_Skip) (.two 40 (.one F_word_Reader_Peek cf_word_Reader_Peek) (.one F_word_Reader_Rune cf_word_Reader_Rune))) (.two 42 (.one F_word_Reader_At cf_word_Reader_At) (.two 43 (.one F_slices_Grow_api_Range_api_Range cf_slices_Grow_api_Range_api_Range) (.one F_runes_number cf_runes_number))))))) (.two 65 (.two 54 (.two 49 (.two 46 (.two 45 (.one F_runes_behind cf_runes_behind) (.one F_slices_SortFunc_runes_span_runes_span cf_slices_SortFunc_runes_span_runes_span)) (.two 47 (.one F_runes_spans_1 cf_runes_spans_1) (.two 48 (.one F_cmp_Compare_int cf_cmp_Compare_int) (.one F_runes_value cf_runes_value)))) (.two 51 (.two 50 (.one F_stringslite_IndexByte cf_stringslite_IndexByte) (.one F_decode_Dec_take cf_decode_Dec_take)) (.two 52 (.one F_decode_Dec_taken cf_decode_Dec_taken) (.two 53 (.one F_decode_Dec_tell cf_decode_Dec_tell) (.one F_word_hasRune cf_word_hasRune))))) (.two 60 (.two 56 (.two 55 (.one F_word_Reader_number cf_word_Reader_number) (.one F_runes_is cf_runes_is)) (.two 57 (.one F_slices_pdqsortCmpFunc_runes_span cf_slices_pdqsortCmpFunc_runes_span) (.two 58 (.one F_bits_Len cf_bits_Len) (.one F_cmp_isNaN_int cf_cmp_isNaN_int)))) (.two 62 (.two 61 (.one F_decode_Dec_more cf_decode_Dec_more) (.one F_utf8_DecodeRune cf_utf8_DecodeRune)) (.two 63 (.one F_word_Reader_Must cf_word_Reader_Must) (.two 64 (.one F_word_hex cf_word_hex) (.one F_slices_insertionSortCmpFunc_runes_span cf_slices_insertionSortCmpFunc_runes_span)))))) (.two 75 (.two 70 (.two 67 (.two 66 (.one F_slices_heapSortCmpFunc_runes_span cf_slices_heapSortCmpFunc_runes_span) (.one F_slices_breakPatternsCmpFunc_runes_span cf_slices_breakPatternsCmpFunc_runes_span)) (.two 68 (.one F_slices_choosePivotCmpFunc_runes_span cf_slices_choosePivotCmpFunc_runes_span) (.two 69 (.one F_slices_reverseRangeCmpFunc_runes_span cf_slices_reverseRangeCmpFunc_runes_span) (.one F_slices_partialInsertionSortCmpFunc_runes_span cf_slices_partialInsertionSortCmpFunc_runes_span)))) (.two 72 (.two 71 (.one F_slices_partitionEqualCmpFunc_runes_span cf_slices_partitionEqualCmpFunc_runes_span) (.one F_slices_partitionCmpFunc_runes_span cf_slices_partitionCmpFunc_runes_span)) (.two 73 (.one F_bits_Len32 cf_bits_Len32) (.two 74 (.one F_bits_Len64 cf_bits_Len64) (.one F_decode_Dec_more_1 cf_decode_Dec_more_1))))) (.two 80 (.two 77 (.two 76 (.one F_decode_grow cf_decode_grow) (.one F_decode_long cf_decode_long)) (.two 78 (.one F_utf8_decodeRuneSlow cf_utf8_decodeRuneSlow) (.two 79 (.one F_slices_siftDownCmpFunc_runes_span cf_slices_siftDownCmpFunc_runes_span) (.one F_slices_nextPowerOfTwo cf_slices_nextPowerOfTwo)))) (.two 83 (.two 81 (.one F_slices_xorshift_Next cf_slices_xorshift_Next) (.two 82 (.one F_slices_medianAdjacentCmpFunc_runes_span cf_slices_medianAdjacentCmpFunc_runes_span) (.one F_slices_medianCmpFunc_runes_span cf_slices_medianCmpFunc_runes_span))) (.two 84 (.one F_decode_second cf_decode_second) (.two 85 (.one F_slices_Clone_byte_byte cf_slices_Clone_byte_byte) (.one F_slices_order2CmpFunc_runes_span cf_slices_order2CmpFunc_runes_span)))))))
end Go.Ev
