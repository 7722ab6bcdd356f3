/- Functions of the program, printed by gen.py. -/
import Derived.Test.YtkpjindnackmdaaGreatDoorT02
namespace Go.Ev
open Go
/- math/bits.Len32 -/
def bd_bits_Len32 : CCode :=
 .seq (.reg [⟨.p 2, .mov (.c (.int .i64 0)), none⟩])
    (.seq (.seq (.reg [⟨.t 3, .mov (.p 0), none⟩,
    ⟨.p 4, .bin .geq (.t 3) (.c (.int .u32 65536)), none⟩])
    (.cond (.p 4)
    (.seq (.reg [⟨.t 5, .mov (.p 0), none⟩,
    ⟨.t 6, .bin .shr (.t 5) (.c (.int .u64 16)), none⟩,
    ⟨.p 0, .mov (.t 6), none⟩])
    (.reg [⟨.p 2, .mov (.c (.int .i64 16)), none⟩]))
    (.skip)))
    (.seq (.seq (.reg [⟨.t 7, .mov (.p 0), none⟩,
    ⟨.p 8, .bin .geq (.t 7) (.c (.int .u32 256)), none⟩])
    (.cond (.p 8)
    (.seq (.reg [⟨.t 9, .mov (.p 0), none⟩,
    ⟨.t 10, .bin .shr (.t 9) (.c (.int .u64 8)), none⟩,
    ⟨.p 0, .mov (.t 10), none⟩])
    (.reg [⟨.t 11, .mov (.p 2), none⟩,
    ⟨.t 12, .bin .add (.t 11) (.c (.int .i64 8)), none⟩,
    ⟨.p 2, .mov (.t 12), none⟩]))
    (.skip)))
    (.seq (.reg [⟨.t 13, .mov (.p 2), none⟩,
    ⟨.t 14, .mov (.p 0), none⟩,
    ⟨.t 15, .convI .u8 (.t 14), none⟩,
    ⟨.t 16, .idxStr (.c (.str [0, 1, 2, 2, 3, 3, 3, 3, 4, 4, 4, 4, 4, 4, 4, 4, 5, 5, 5, 5, 5, 5, 5, 5, 5, 5, 5, 5, 5, 5, 5, 5, 6, 6, 6, 6, 6, 6, 6, 6, 6, 6, 6, 6, 6, 6, 6, 6, 6, 6, 6, 6, 6, 6, 6, 6, 6, 6, 6, 6, 6, 6, 6, 6, 7, 7, 7, 7, 7, 7, 7, 7, 7, 7, 7, 7, 7, 7, 7, 7, 7, 7, 7, 7, 7, 7, 7, 7, 7, 7, 7, 7, 7, 7, 7, 7, 7, 7, 7, 7, 7, 7, 7, 7, 7, 7, 7, 7, 7, 7, 7, 7, 7, 7, 7, 7, 7, 7, 7, 7, 7, 7, 7, 7, 7, 7, 7, 7, 8, 8, 8, 8, 8, 8, 8, 8, 8, 8, 8, 8, 8, 8, 8, 8, 8, 8, 8, 8, 8, 8, 8, 8, 8, 8, 8, 8, 8, 8, 8, 8, 8, 8, 8, 8, 8, 8, 8, 8, 8, 8, 8, 8, 8, 8, 8, 8, 8, 8, 8, 8, 8, 8, 8, 8, 8, 8, 8, 8, 8, 8, 8, 8, 8, 8, 8, 8, 8, 8, 8, 8, 8, 8, 8, 8, 8, 8, 8, 8, 8, 8, 8, 8, 8, 8, 8, 8, 8, 8, 8, 8, 8, 8, 8, 8, 8, 8, 8, 8, 8, 8, 8, 8, 8, 8, 8, 8, 8, 8, 8, 8, 8, 8, 8, 8, 8, 8, 8, 8, 8, 8, 8, 8, 8, 8, 8, 8])) (.t 15), none⟩,
    ⟨.t 17, .convI .i64 (.t 16), none⟩,
    ⟨.t 18, .bin .add (.t 13) (.t 17), none⟩,
    ⟨.p 2, .mov (.t 18), none⟩])
    (.ret))))
def cf_bits_Len32 : CFunc :=
{ nargs := 1, ps := [0, 2, 4, 8], results := [.slot 2], body := bd_bits_Len32 }

/- math/bits.Len64 -/
def bd_bits_Len64 : CCode :=
 .seq (.reg [⟨.p 2, .mov (.c (.int .i64 0)), none⟩])
    (.seq (.seq (.reg [⟨.t 3, .mov (.p 0), none⟩,
    ⟨.p 4, .bin .geq (.t 3) (.c (.int .u64 4294967296)), none⟩])
    (.cond (.p 4)
    (.seq (.reg [⟨.t 5, .mov (.p 0), none⟩,
    ⟨.t 6, .bin .shr (.t 5) (.c (.int .u64 32)), none⟩,
    ⟨.p 0, .mov (.t 6), none⟩])
    (.reg [⟨.p 2, .mov (.c (.int .i64 32)), none⟩]))
    (.skip)))
    (.seq (.seq (.reg [⟨.t 7, .mov (.p 0), none⟩,
    ⟨.p 8, .bin .geq (.t 7) (.c (.int .u64 65536)), none⟩])
    (.cond (.p 8)
    (.seq (.reg [⟨.t 9, .mov (.p 0), none⟩,
    ⟨.t 10, .bin .shr (.t 9) (.c (.int .u64 16)), none⟩,
    ⟨.p 0, .mov (.t 10), none⟩])
    (.reg [⟨.t 11, .mov (.p 2), none⟩,
    ⟨.t 12, .bin .add (.t 11) (.c (.int .i64 16)), none⟩,
    ⟨.p 2, .mov (.t 12), none⟩]))
    (.skip)))
    (.seq (.seq (.reg [⟨.t 13, .mov (.p 0), none⟩,
    ⟨.p 14, .bin .geq (.t 13) (.c (.int .u64 256)), none⟩])
    (.cond (.p 14)
    (.seq (.reg [⟨.t 15, .mov (.p 0), none⟩,
    ⟨.t 16, .bin .shr (.t 15) (.c (.int .u64 8)), none⟩,
    ⟨.p 0, .mov (.t 16), none⟩])
    (.reg [⟨.t 17, .mov (.p 2), none⟩,
    ⟨.t 18, .bin .add (.t 17) (.c (.int .i64 8)), none⟩,
    ⟨.p 2, .mov (.t 18), none⟩]))
    (.skip)))
    (.seq (.reg [⟨.t 19, .mov (.p 2), none⟩,
    ⟨.t 20, .mov (.p 0), none⟩,
    ⟨.t 21, .convI .u8 (.t 20), none⟩,
    ⟨.t 22, .idxStr (.c (.str [0, 1, 2, 2, 3, 3, 3, 3, 4, 4, 4, 4, 4, 4, 4, 4, 5, 5, 5, 5, 5, 5, 5, 5, 5, 5, 5, 5, 5, 5, 5, 5, 6, 6, 6, 6, 6, 6, 6, 6, 6, 6, 6, 6, 6, 6, 6, 6, 6, 6, 6, 6, 6, 6, 6, 6, 6, 6, 6, 6, 6, 6, 6, 6, 7, 7, 7, 7, 7, 7, 7, 7, 7, 7, 7, 7, 7, 7, 7, 7, 7, 7, 7, 7, 7, 7, 7, 7, 7, 7, 7, 7, 7, 7, 7, 7, 7, 7, 7, 7, 7, 7, 7, 7, 7, 7, 7, 7, 7, 7, 7, 7, 7, 7, 7, 7, 7, 7, 7, 7, 7, 7, 7, 7, 7, 7, 7, 7, 8, 8, 8, 8, 8, 8, 8, 8, 8, 8, 8, 8, 8, 8, 8, 8, 8, 8, 8, 8, 8, 8, 8, 8, 8, 8, 8, 8, 8, 8, 8, 8, 8, 8, 8, 8, 8, 8, 8, 8, 8, 8, 8, 8, 8, 8, 8, 8, 8, 8, 8, 8, 8, 8, 8, 8, 8, 8, 8, 8, 8, 8, 8, 8, 8, 8, 8, 8, 8, 8, 8, 8, 8, 8, 8, 8, 8, 8, 8, 8, 8, 8, 8, 8, 8, 8, 8, 8, 8, 8, 8, 8, 8, 8, 8, 8, 8, 8, 8, 8, 8, 8, 8, 8, 8, 8, 8, 8, 8, 8, 8, 8, 8, 8, 8, 8, 8, 8, 8, 8, 8, 8, 8, 8, 8, 8, 8, 8])) (.t 21), none⟩,
    ⟨.t 23, .convI .i64 (.t 22), none⟩,
    ⟨.t 24, .bin .add (.t 19) (.t 23), none⟩,
    ⟨.p 2, .mov (.t 24), none⟩])
    (.ret)))))
def cf_bits_Len64 : CFunc :=
{ nargs := 1, ps := [0, 2, 4, 8, 14], results := [.slot 2], body := bd_bits_Len64 }

/- (*gobo/parse.source).bracket -/
def bd_parse_source_bracket : CCode :=
 .seq (.reg [⟨.p 4, .mov (.c (.bool false)), none⟩])
    (.seq (.reg [⟨.t 6, .mov (.p 0), none⟩,
    ⟨.t 7, .call F_parse_source_peek [.t 6], none⟩,
    ⟨.t 8, .field1 2 (.t 7), none⟩,
    ⟨.p 5, .mov (.t 8), none⟩])
    (.seq (.seq (.reg [⟨.t 9, .mov (.p 0), none⟩,
    ⟨.t 10, .mov (.p 1), none⟩,
    ⟨.t 11, .call F_parse_source_skip [.t 9, .t 10], none⟩,
    ⟨.p 12, .un .not (.t 11), none⟩])
    (.cond (.p 12)
    (.seq (.reg [⟨.p 4, .mov (.c (.bool false)), none⟩])
    (.ret))
    (.skip)))
    (.seq (.seq (.reg [⟨.t 13, .mov (.p 0), none⟩,
    ⟨.t 14, .nilCheck (.t 13), none⟩,
    ⟨.t 15, .fieldAddr 3 (.t 14), none⟩,
    ⟨.t 16, .load1 (.t 15), none⟩,
    ⟨.t 17, .bin .add (.t 16) (.c (.int .i64 1)), none⟩,
    ⟨.t 18, .nilCheck (.t 13), none⟩,
    ⟨.t 19, .fieldAddr 3 (.t 18), none⟩,
    ⟨.no, .store 1 (.t 19) (.t 17), none⟩])
    (.seq (.reg [⟨.t 20, .mov (.p 0), none⟩,
    ⟨.t 21, .nilCheck (.t 20), none⟩,
    ⟨.t 22, .fieldAddr 3 (.t 21), none⟩,
    ⟨.t 23, .load1 (.t 22), none⟩,
    ⟨.p 24, .bin .gtr (.t 23) (.c (.int .i64 40)), none⟩])
    (.cond (.p 24)
    (.reg [⟨.t 25, .mov (.p 5), none⟩,
    ⟨.t 26, .call F_word_Fail [.c (.int .i64 7), .t 25], none⟩])
    (.skip))))
    (.seq (.reg [⟨.p 4, .mov (.c (.bool true)), none⟩])
    (.ret)))))
def cf_parse_source_bracket : CFunc :=
{ nargs := 2, ps := [0, 1, 4, 5, 12, 24], results := [.slot 4], body := bd_parse_source_bracket }

/- slices.siftDownCmpFunc[gobo/runes.span] -/
def lb_slices_siftDownCmpFunc_runes_span_0 : CCode :=
 .block 1 [0, 2, 3, 4, 10]
    (.seq (.reg [⟨.t 13, .mov (.p 10), none⟩,
    ⟨.t 14, .bin .mul (.c (.int .i64 2)) (.t 13), none⟩,
    ⟨.t 15, .bin .add (.t 14) (.c (.int .i64 1)), none⟩,
    ⟨.p 11, .mov (.t 15), none⟩])
    (.seq (.seq (.reg [⟨.t 16, .mov (.p 11), none⟩,
    ⟨.t 17, .mov (.p 2), none⟩,
    ⟨.p 18, .bin .geq (.t 16) (.t 17), none⟩])
    (.cond (.p 18)
    (.exit 0)
    (.skip)))
    (.seq (.seq (.dreg [⟨⟨.t 19, .mov (.p 11), none⟩, false, false, []⟩,
    ⟨⟨.t 20, .bin .add (.t 19) (.c (.int .i64 1)), none⟩, false, false, []⟩,
    ⟨⟨.t 21, .mov (.p 2), none⟩, false, false, []⟩,
    ⟨⟨.t 22, .bin .lss (.t 20) (.t 21), none⟩, false, false, []⟩,
    ⟨⟨.t 23, .mov (.t 22), none⟩, false, false, []⟩,
    ⟨⟨.t 24, .mov (.p 4), some (.t 23, true)⟩, false, false, []⟩,
    ⟨⟨.t 25, .mov (.p 0), some (.t 23, true)⟩, false, false, []⟩,
    ⟨⟨.t 26, .mov (.p 3), some (.t 23, true)⟩, false, false, []⟩,
    ⟨⟨.t 27, .mov (.p 11), some (.t 23, true)⟩, false, false, []⟩,
    ⟨⟨.t 28, .bin .add (.t 26) (.t 27), some (.t 23, true)⟩, false, false, []⟩,
    ⟨⟨.t 29, .idxAddr 2 (.t 25) (.t 28), some (.t 23, true)⟩, false, false, []⟩,
    ⟨⟨.t 30, .loadN 2 (.t 29), some (.t 23, true)⟩, false, false, []⟩,
    ⟨⟨.t 31, .mov (.p 0), some (.t 23, true)⟩, false, false, []⟩,
    ⟨⟨.t 32, .mov (.p 3), some (.t 23, true)⟩, false, false, []⟩,
    ⟨⟨.t 33, .mov (.p 11), some (.t 23, true)⟩, false, false, []⟩,
    ⟨⟨.t 34, .bin .add (.t 32) (.t 33), some (.t 23, true)⟩, false, false, []⟩,
    ⟨⟨.t 35, .bin .add (.t 34) (.c (.int .i64 1)), some (.t 23, true)⟩, false, false, []⟩,
    ⟨⟨.t 36, .idxAddr 2 (.t 31) (.t 35), some (.t 23, true)⟩, false, false, []⟩,
    ⟨⟨.t 37, .loadN 2 (.t 36), some (.t 23, true)⟩, false, false, []⟩,
    ⟨⟨.t 38, .callV (.t 24) [.t 30, .t 37], some (.t 23, true)⟩, false, false, []⟩,
    ⟨⟨.t 39, .bin .lss (.t 38) (.c (.int .i64 0)), some (.t 23, true)⟩, false, false, []⟩,
    ⟨⟨.p 40, .pick (.t 23) (.t 39) (.c (.bool false)), none⟩, false, false, []⟩])
    (.cond (.p 40)
    (.reg [⟨.t 41, .mov (.p 11), none⟩,
    ⟨.t 42, .bin .add (.t 41) (.c (.int .i64 1)), none⟩,
    ⟨.p 11, .mov (.t 42), none⟩])
    (.skip)))
    (.seq (.seq (.dreg [⟨⟨.t 43, .mov (.p 4), none⟩, false, false, []⟩,
    ⟨⟨.t 44, .mov (.p 0), none⟩, false, false, []⟩,
    ⟨⟨.t 45, .mov (.p 3), none⟩, false, false, []⟩,
    ⟨⟨.t 46, .mov (.p 10), none⟩, false, false, []⟩,
    ⟨⟨.t 47, .bin .add (.t 45) (.t 46), none⟩, false, false, []⟩,
    ⟨⟨.t 48, .idxAddr 2 (.t 44) (.t 47), none⟩, false, false, []⟩,
    ⟨⟨.t 49, .loadN 2 (.t 48), none⟩, false, false, []⟩,
    ⟨⟨.t 50, .mov (.p 0), none⟩, false, false, []⟩,
    ⟨⟨.t 51, .mov (.p 3), none⟩, false, false, []⟩,
    ⟨⟨.t 52, .mov (.p 11), none⟩, false, false, []⟩,
    ⟨⟨.t 53, .bin .add (.t 51) (.t 52), none⟩, false, false, []⟩,
    ⟨⟨.t 54, .idxAddr 2 (.t 50) (.t 53), none⟩, false, false, []⟩,
    ⟨⟨.t 55, .loadN 2 (.t 54), none⟩, false, false, []⟩,
    ⟨⟨.t 56, .callV (.t 43) [.t 49, .t 55], none⟩, false, false, []⟩,
    ⟨⟨.t 57, .bin .lss (.t 56) (.c (.int .i64 0)), none⟩, false, false, []⟩,
    ⟨⟨.p 58, .un .not (.t 57), none⟩, false, false, []⟩])
    (.cond (.p 58)
    (.ret)
    (.skip)))
    (.seq (.dreg [⟨⟨.t 59, .mov (.p 0), none⟩, false, false, []⟩,
    ⟨⟨.t 60, .mov (.p 3), none⟩, false, false, []⟩,
    ⟨⟨.t 61, .mov (.p 10), none⟩, false, false, []⟩,
    ⟨⟨.t 62, .bin .add (.t 60) (.t 61), none⟩, false, false, []⟩,
    ⟨⟨.t 63, .mov (.p 0), none⟩, false, false, []⟩,
    ⟨⟨.t 64, .mov (.p 3), none⟩, false, false, []⟩,
    ⟨⟨.t 65, .mov (.p 11), none⟩, false, false, []⟩,
    ⟨⟨.t 66, .bin .add (.t 64) (.t 65), none⟩, false, false, []⟩,
    ⟨⟨.t 67, .mov (.p 0), none⟩, false, false, []⟩,
    ⟨⟨.t 68, .mov (.p 3), none⟩, false, false, []⟩,
    ⟨⟨.t 69, .mov (.p 11), none⟩, false, false, []⟩,
    ⟨⟨.t 70, .bin .add (.t 68) (.t 69), none⟩, false, false, []⟩,
    ⟨⟨.t 71, .idxAddr 2 (.t 67) (.t 70), none⟩, false, false, []⟩,
    ⟨⟨.t 72, .loadN 2 (.t 71), none⟩, false, false, []⟩,
    ⟨⟨.t 73, .mov (.p 0), none⟩, false, false, []⟩,
    ⟨⟨.t 74, .mov (.p 3), none⟩, false, false, []⟩,
    ⟨⟨.t 75, .mov (.p 10), none⟩, false, false, []⟩,
    ⟨⟨.t 76, .bin .add (.t 74) (.t 75), none⟩, false, false, []⟩,
    ⟨⟨.t 77, .idxAddr 2 (.t 73) (.t 76), none⟩, false, false, []⟩,
    ⟨⟨.t 78, .loadN 2 (.t 77), none⟩, false, false, []⟩,
    ⟨⟨.t 79, .idxAddr 2 (.t 59) (.t 62), none⟩, false, false, []⟩,
    ⟨⟨.no, .store 2 (.t 79) (.t 72), none⟩, false, false, []⟩,
    ⟨⟨.t 80, .idxAddr 2 (.t 63) (.t 66), none⟩, false, false, []⟩,
    ⟨⟨.no, .store 2 (.t 80) (.t 78), none⟩, false, false, []⟩])
    (.reg [⟨.t 81, .mov (.p 11), none⟩,
    ⟨.p 10, .mov (.t 81), none⟩]))))))
def bd_slices_siftDownCmpFunc_runes_span : CCode :=
 .seq (.reg [⟨.t 12, .mov (.p 1), none⟩,
    ⟨.p 10, .mov (.t 12), none⟩])
    (.block 0 []
    (.loop [0, 2, 3, 4, 10] lb_slices_siftDownCmpFunc_runes_span_0))
def cf_slices_siftDownCmpFunc_runes_span : CFunc :=
{ nargs := 5, ps := [0, 1, 2, 3, 4, 10, 11, 18, 40, 58], results := [], body := bd_slices_siftDownCmpFunc_runes_span }

/- slices.nextPowerOfTwo -/
def bd_slices_nextPowerOfTwo : CCode :=
 .seq (.reg [⟨.p 2, .mov (.c (.int .u64 0)), none⟩])
    (.seq (.reg [⟨.t 3, .mov (.p 0), none⟩,
    ⟨.t 4, .convI .u64 (.t 3), none⟩,
    ⟨.t 5, .call F_bits_Len [.t 4], none⟩,
    ⟨.t 6, .bin .shl (.c (.int .u64 1)) (.t 5), none⟩,
    ⟨.p 2, .mov (.t 6), none⟩])
    (.ret))
def cf_slices_nextPowerOfTwo : CFunc :=
{ nargs := 1, ps := [0, 2], results := [.slot 2], body := bd_slices_nextPowerOfTwo }

/- (*slices.xorshift).Next -/
def bd_slices_xorshift_Next : CCode :=
 .seq (.reg [⟨.p 2, .mov (.c (.int .u64 0)), none⟩])
    (.seq (.dreg [⟨⟨.t 3, .mov (.p 0), none⟩, false, false, []⟩,
    ⟨⟨.t 4, .nilCheck (.t 3), none⟩, false, false, []⟩,
    ⟨⟨.t 5, .load1 (.t 4), none⟩, false, false, []⟩,
    ⟨⟨.t 6, .mov (.p 0), none⟩, false, false, []⟩,
    ⟨⟨.t 7, .nilCheck (.t 6), none⟩, false, false, []⟩,
    ⟨⟨.t 8, .load1 (.t 7), none⟩, false, false, []⟩,
    ⟨⟨.t 9, .bin .shl (.t 8) (.c (.int .u64 13)), none⟩, false, false, []⟩,
    ⟨⟨.t 10, .bin .xor (.t 5) (.t 9), none⟩, false, false, []⟩,
    ⟨⟨.t 11, .nilCheck (.t 3), none⟩, false, false, []⟩,
    ⟨⟨.no, .store 1 (.t 11) (.t 10), none⟩, false, false, []⟩])
    (.seq (.dreg [⟨⟨.t 12, .mov (.p 0), none⟩, false, false, []⟩,
    ⟨⟨.t 13, .nilCheck (.t 12), none⟩, false, false, []⟩,
    ⟨⟨.t 14, .load1 (.t 13), none⟩, false, false, []⟩,
    ⟨⟨.t 15, .mov (.p 0), none⟩, false, false, []⟩,
    ⟨⟨.t 16, .nilCheck (.t 15), none⟩, false, false, []⟩,
    ⟨⟨.t 17, .load1 (.t 16), none⟩, false, false, []⟩,
    ⟨⟨.t 18, .bin .shr (.t 17) (.c (.int .u64 7)), none⟩, false, false, []⟩,
    ⟨⟨.t 19, .bin .xor (.t 14) (.t 18), none⟩, false, false, []⟩,
    ⟨⟨.t 20, .nilCheck (.t 12), none⟩, false, false, []⟩,
    ⟨⟨.no, .store 1 (.t 20) (.t 19), none⟩, false, false, []⟩])
    (.seq (.dreg [⟨⟨.t 21, .mov (.p 0), none⟩, false, false, []⟩,
    ⟨⟨.t 22, .nilCheck (.t 21), none⟩, false, false, []⟩,
    ⟨⟨.t 23, .load1 (.t 22), none⟩, false, false, []⟩,
    ⟨⟨.t 24, .mov (.p 0), none⟩, false, false, []⟩,
    ⟨⟨.t 25, .nilCheck (.t 24), none⟩, false, false, []⟩,
    ⟨⟨.t 26, .load1 (.t 25), none⟩, false, false, []⟩,
    ⟨⟨.t 27, .bin .shl (.t 26) (.c (.int .u64 17)), none⟩, false, false, []⟩,
    ⟨⟨.t 28, .bin .xor (.t 23) (.t 27), none⟩, false, false, []⟩,
    ⟨⟨.t 29, .nilCheck (.t 21), none⟩, false, false, []⟩,
    ⟨⟨.no, .store 1 (.t 29) (.t 28), none⟩, false, false, []⟩])
    (.seq (.reg [⟨.t 30, .mov (.p 0), none⟩,
    ⟨.t 31, .nilCheck (.t 30), none⟩,
    ⟨.t 32, .load1 (.t 31), none⟩,
    ⟨.p 2, .mov (.t 32), none⟩])
    (.ret)))))
def cf_slices_xorshift_Next : CFunc :=
{ nargs := 1, ps := [0, 2], results := [.slot 2], body := bd_slices_xorshift_Next }

/- slices.medianAdjacentCmpFunc[gobo/runes.span] -/
def bd_slices_medianAdjacentCmpFunc_runes_span : CCode :=
 .seq (.reg [⟨.p 8, .mov (.c (.int .i64 0)), none⟩])
    (.seq (.reg [⟨.t 9, .mov (.p 0), none⟩,
    ⟨.t 10, .mov (.p 1), none⟩,
    ⟨.t 11, .bin .sub (.t 10) (.c (.int .i64 1)), none⟩,
    ⟨.t 12, .mov (.p 1), none⟩,
    ⟨.t 13, .mov (.p 1), none⟩,
    ⟨.t 14, .bin .add (.t 13) (.c (.int .i64 1)), none⟩,
    ⟨.t 15, .mov (.p 2), none⟩,
    ⟨.t 16, .mov (.p 3), none⟩,
    ⟨.t 17, .call F_slices_medianCmpFunc_runes_span [.t 9, .t 11, .t 12, .t 14, .t 15, .t 16], none⟩,
    ⟨.p 8, .mov (.t 17), none⟩])
    (.ret))
def cf_slices_medianAdjacentCmpFunc_runes_span : CFunc :=
{ nargs := 4, ps := [0, 1, 2, 3, 8], results := [.slot 8], body := bd_slices_medianAdjacentCmpFunc_runes_span }

/- slices.medianCmpFunc[gobo/runes.span] -/
def bd_slices_medianCmpFunc_runes_span : CCode :=
 .seq (.reg [⟨.p 12, .mov (.c (.int .i64 0)), none⟩])
    (.seq (.reg [⟨.t 14, .mov (.p 0), none⟩,
    ⟨.t 15, .mov (.p 1), none⟩,
    ⟨.t 16, .mov (.p 2), none⟩,
    ⟨.t 17, .mov (.p 4), none⟩,
    ⟨.t 18, .mov (.p 5), none⟩,
    ⟨.t 19, .call F_slices_order2CmpFunc_runes_span [.t 14, .t 15, .t 16, .t 17, .t 18], none⟩,
    ⟨.t 13, .mov (.t 19), none⟩,
    ⟨.t 20, .extract (.t 13) 0, none⟩,
    ⟨.t 21, .extract (.t 13) 1, none⟩,
    ⟨.p 1, .mov (.t 20), none⟩,
    ⟨.p 2, .mov (.t 21), none⟩])
    (.seq (.reg [⟨.t 23, .mov (.p 0), none⟩,
    ⟨.t 24, .mov (.p 2), none⟩,
    ⟨.t 25, .mov (.p 3), none⟩,
    ⟨.t 26, .mov (.p 4), none⟩,
    ⟨.t 27, .mov (.p 5), none⟩,
    ⟨.t 28, .call F_slices_order2CmpFunc_runes_span [.t 23, .t 24, .t 25, .t 26, .t 27], none⟩,
    ⟨.t 22, .mov (.t 28), none⟩,
    ⟨.t 29, .extract (.t 22) 0, none⟩,
    ⟨.t 30, .extract (.t 22) 1, none⟩,
    ⟨.p 2, .mov (.t 29), none⟩,
    ⟨.p 3, .mov (.t 30), none⟩])
    (.seq (.reg [⟨.t 32, .mov (.p 0), none⟩,
    ⟨.t 33, .mov (.p 1), none⟩,
    ⟨.t 34, .mov (.p 2), none⟩,
    ⟨.t 35, .mov (.p 4), none⟩,
    ⟨.t 36, .mov (.p 5), none⟩,
    ⟨.t 37, .call F_slices_order2CmpFunc_runes_span [.t 32, .t 33, .t 34, .t 35, .t 36], none⟩,
    ⟨.t 31, .mov (.t 37), none⟩,
    ⟨.t 38, .extract (.t 31) 0, none⟩,
    ⟨.t 39, .extract (.t 31) 1, none⟩,
    ⟨.p 1, .mov (.t 38), none⟩,
    ⟨.p 2, .mov (.t 39), none⟩])
    (.seq (.reg [⟨.t 40, .mov (.p 2), none⟩,
    ⟨.p 12, .mov (.t 40), none⟩])
    (.ret)))))
def cf_slices_medianCmpFunc_runes_span : CFunc :=
{ nargs := 6, ps := [0, 1, 2, 3, 4, 5, 12], results := [.slot 12], body := bd_slices_medianCmpFunc_runes_span }

/- slices.order2CmpFunc[gobo/runes.span] -/
def bd_slices_order2CmpFunc_runes_span : CCode :=
 .seq (.reg [⟨.p 10, .mov (.c (.int .i64 0)), none⟩,
    ⟨.p 11, .mov (.c (.int .i64 0)), none⟩])
    (.seq (.seq (.dreg [⟨⟨.t 12, .mov (.p 4), none⟩, false, false, []⟩,
    ⟨⟨.t 13, .mov (.p 0), none⟩, false, false, []⟩,
    ⟨⟨.t 14, .mov (.p 2), none⟩, false, false, []⟩,
    ⟨⟨.t 15, .idxAddr 2 (.t 13) (.t 14), none⟩, false, false, []⟩,
    ⟨⟨.t 16, .loadN 2 (.t 15), none⟩, false, false, []⟩,
    ⟨⟨.t 17, .mov (.p 0), none⟩, false, false, []⟩,
    ⟨⟨.t 18, .mov (.p 1), none⟩, false, false, []⟩,
    ⟨⟨.t 19, .idxAddr 2 (.t 17) (.t 18), none⟩, false, false, []⟩,
    ⟨⟨.t 20, .loadN 2 (.t 19), none⟩, false, false, []⟩,
    ⟨⟨.t 21, .callV (.t 12) [.t 16, .t 20], none⟩, false, false, []⟩,
    ⟨⟨.p 22, .bin .lss (.t 21) (.c (.int .i64 0)), none⟩, false, false, []⟩])
    (.cond (.p 22)
    (.seq (.reg [⟨.t 23, .mov (.p 3), none⟩,
    ⟨.t 24, .nilCheck (.t 23), none⟩,
    ⟨.t 25, .load1 (.t 24), none⟩,
    ⟨.t 26, .bin .add (.t 25) (.c (.int .i64 1)), none⟩,
    ⟨.t 27, .nilCheck (.t 23), none⟩,
    ⟨.no, .store 1 (.t 27) (.t 26), none⟩])
    (.seq (.reg [⟨.t 28, .mov (.p 2), none⟩,
    ⟨.t 29, .mov (.p 1), none⟩,
    ⟨.p 10, .mov (.t 28), none⟩,
    ⟨.p 11, .mov (.t 29), none⟩])
    (.ret)))
    (.skip)))
    (.seq (.reg [⟨.t 30, .mov (.p 1), none⟩,
    ⟨.t 31, .mov (.p 2), none⟩,
    ⟨.p 10, .mov (.t 30), none⟩,
    ⟨.p 11, .mov (.t 31), none⟩])
    (.ret)))
def cf_slices_order2CmpFunc_runes_span : CFunc :=
{ nargs := 5, ps := [0, 1, 2, 3, 4, 10, 11, 22], results := [.slot 10, .slot 11], body := bd_slices_order2CmpFunc_runes_span }

end Go.Ev
