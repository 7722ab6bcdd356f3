/- Functions of the program, printed by gen.py. -/
import Derived.Test.YtkpjindnackmdaaGreatDoorT02
namespace Go.Ev
open Go
/- gobo/runes.Norm -/
def bd_runes_Norm : CCode :=
 .seq (.reg [⟨.p 2, .mov (.c (.nils)), none⟩])
    (.seq (.reg [⟨.t 3, .mov (.p 0), none⟩,
    ⟨.t 4, .call F_runes_spans [.t 3], none⟩,
    ⟨.t 5, .call F_runes_ranges [.t 4], none⟩,
    ⟨.p 2, .mov (.t 5), none⟩])
    (.ret))
def cf_runes_Norm : CFunc :=
{ nargs := 1, ps := [0, 2], results := [.slot 2], body := bd_runes_Norm }

/- gobo/runes.Not$1 -/
def bd_runes_Not_1 : CCode :=
 .seq (.reg [⟨.t 4, .load1 (.p 1), none⟩,
    ⟨.t 5, .mov (.p 0), none⟩,
    ⟨.p 6, .bin .lss (.t 4) (.t 5), none⟩])
    (.cond (.p 6)
    (.reg [⟨.t 7, .load1 (.p 2), none⟩,
    ⟨.t 8, .load1 (.p 1), none⟩,
    ⟨.t 9, .mov (.p 0), none⟩,
    ⟨.t 10, .build [.int .i64 0, .int .i64 0] [(0, 1, .t 8), (1, 1, .t 9)], none⟩,
    ⟨.t 11, .lit [.int .i64 0, .int .i64 0] 1 [(0, 2, .t 10)], none⟩,
    ⟨.t 12, .append 2 16 (.t 7) (.t 11), none⟩,
    ⟨.no, .store 1 (.p 2) (.t 12), none⟩])
    (.skip))
def cf_runes_Not_1 : CFunc :=
{ nargs := 3, ps := [0, 1, 2, 6], results := [], body := bd_runes_Not_1 }

/- gobo/runes.spans -/
def lb_runes_spans_0 : CCode :=
 .seq (.reg [⟨.p 14, .bin .lss (.p 13) (.p 12), none⟩])
    (.seq (.cond (.p 14)
    (.skip)
    (.exit 0))
    (.seq (.block 1 [3, 11, 12, 13]
    (.seq (.reg [⟨.t 15, .idxAddr 2 (.p 11) (.p 13), none⟩,
    ⟨.t 16, .loadN 2 (.t 15), none⟩,
    ⟨.p 5, .alloc [.int .i32 0, .int .i32 0], none⟩,
    ⟨.no, .store 2 (.p 5) (.t 16), none⟩])
    (.seq (.dreg [⟨⟨.t 17, .fieldAddr 0 (.p 5), none⟩, false, false, []⟩,
    ⟨⟨.t 18, .load1 (.t 17), none⟩, true, false, []⟩,
    ⟨⟨.t 19, .callP 9 F_runes_number [.t 18], none⟩, false, false, []⟩,
    ⟨⟨.t 20, .fieldAddr 1 (.p 5), none⟩, false, false, []⟩,
    ⟨⟨.t 21, .load1 (.t 20), none⟩, true, false, []⟩,
    ⟨⟨.t 22, .callP 9 F_runes_behind [.t 21], none⟩, false, false, []⟩,
    ⟨⟨.t 23, .build [.int .i64 0, .int .i64 0] [(0, 1, .t 19), (1, 1, .t 22)], none⟩, false, false, []⟩,
    ⟨⟨.p 6, .alloc [.int .i64 0, .int .i64 0], none⟩, false, false, [1, 4]⟩,
    ⟨⟨.no, .store 2 (.p 6) (.t 23), none⟩, false, false, []⟩])
    (.seq (.reg [⟨.t 24, .fieldAddr 0 (.p 5), none⟩,
    ⟨.t 25, .load1 (.t 24), none⟩,
    ⟨.t 26, .fieldAddr 1 (.p 5), none⟩,
    ⟨.t 27, .load1 (.t 26), none⟩,
    ⟨.t 28, .bin .leq (.t 25) (.t 27), none⟩,
    ⟨.t 29, .mov (.t 28), none⟩,
    ⟨.t 30, .fieldAddr 0 (.p 6), some (.t 29, true)⟩,
    ⟨.t 31, .load1 (.t 30), some (.t 29, true)⟩,
    ⟨.t 32, .fieldAddr 1 (.p 6), some (.t 29, true)⟩,
    ⟨.t 33, .load1 (.t 32), some (.t 29, true)⟩,
    ⟨.t 34, .bin .lss (.t 31) (.t 33), some (.t 29, true)⟩,
    ⟨.p 35, .pick (.t 29) (.t 34) (.c (.bool false)), none⟩])
    (.cond (.p 35)
    (.reg [⟨.t 36, .mov (.p 3), none⟩,
    ⟨.t 37, .loadN 2 (.p 6), none⟩,
    ⟨.t 38, .lit [.int .i64 0, .int .i64 0] 1 [(0, 2, .t 37)], none⟩,
    ⟨.t 39, .append 2 16 (.t 36) (.t 38), none⟩,
    ⟨.p 3, .mov (.t 39), none⟩])
    (.skip))))))
    (.reg [⟨.t 40, .bin .add (.p 13) (.c (.int .i64 1)), none⟩,
    ⟨.p 13, .mov (.t 40), none⟩])))
def lb_runes_spans_1 : CCode :=
 .seq (.reg [⟨.p 46, .bin .lss (.p 45) (.p 44), none⟩])
    (.seq (.cond (.p 46)
    (.skip)
    (.exit 2))
    (.seq (.block 3 [7, 43, 44, 45]
    (.seq (.reg [⟨.t 47, .idxAddr 2 (.p 43) (.p 45), none⟩,
    ⟨.t 48, .loadN 2 (.t 47), none⟩,
    ⟨.p 9, .alloc [.int .i64 0, .int .i64 0], none⟩,
    ⟨.no, .store 2 (.p 9) (.t 48), none⟩])
    (.seq (.reg [⟨.t 49, .mov (.p 7), none⟩,
    ⟨.t 50, .lenSl (.t 49), none⟩,
    ⟨.p 10, .mov (.t 50), none⟩])
    (.seq (.dreg [⟨⟨.t 51, .mov (.p 10), none⟩, false, false, []⟩,
    ⟨⟨.t 52, .bin .gtr (.t 51) (.c (.int .i64 0)), none⟩, false, false, []⟩,
    ⟨⟨.t 53, .mov (.t 52), none⟩, false, false, []⟩,
    ⟨⟨.t 54, .fieldAddr 0 (.p 9), some (.t 53, true)⟩, false, false, []⟩,
    ⟨⟨.t 55, .load1 (.t 54), some (.t 53, true)⟩, false, false, []⟩,
    ⟨⟨.t 56, .mov (.p 7), some (.t 53, true)⟩, false, false, []⟩,
    ⟨⟨.t 57, .mov (.p 10), some (.t 53, true)⟩, false, false, []⟩,
    ⟨⟨.t 58, .bin .sub (.t 57) (.c (.int .i64 1)), some (.t 53, true)⟩, false, false, []⟩,
    ⟨⟨.t 59, .idxAddr 2 (.t 56) (.t 58), some (.t 53, true)⟩, false, false, []⟩,
    ⟨⟨.t 60, .fieldAddr 1 (.t 59), some (.t 53, true)⟩, false, false, []⟩,
    ⟨⟨.t 61, .load1 (.t 60), some (.t 53, true)⟩, false, false, []⟩,
    ⟨⟨.t 62, .bin .leq (.t 55) (.t 61), some (.t 53, true)⟩, false, false, []⟩,
    ⟨⟨.p 63, .pick (.t 53) (.t 62) (.c (.bool false)), none⟩, false, false, []⟩])
    (.cond (.p 63)
    (.dreg [⟨⟨.t 64, .mov (.p 7), none⟩, false, false, []⟩,
    ⟨⟨.t 65, .mov (.p 10), none⟩, false, false, []⟩,
    ⟨⟨.t 66, .bin .sub (.t 65) (.c (.int .i64 1)), none⟩, false, false, []⟩,
    ⟨⟨.t 67, .mov (.p 7), none⟩, false, false, []⟩,
    ⟨⟨.t 68, .mov (.p 10), none⟩, false, false, []⟩,
    ⟨⟨.t 69, .bin .sub (.t 68) (.c (.int .i64 1)), none⟩, false, false, []⟩,
    ⟨⟨.t 70, .idxAddr 2 (.t 67) (.t 69), none⟩, false, false, []⟩,
    ⟨⟨.t 71, .fieldAddr 1 (.t 70), none⟩, false, false, []⟩,
    ⟨⟨.t 72, .load1 (.t 71), none⟩, false, false, []⟩,
    ⟨⟨.t 73, .fieldAddr 1 (.p 9), none⟩, false, false, []⟩,
    ⟨⟨.t 74, .load1 (.t 73), none⟩, false, false, []⟩,
    ⟨⟨.t 75, .minmax true [.t 72, .t 74], none⟩, false, false, []⟩,
    ⟨⟨.t 76, .idxAddr 2 (.t 64) (.t 66), none⟩, false, false, []⟩,
    ⟨⟨.t 77, .fieldAddr 1 (.t 76), none⟩, false, false, []⟩,
    ⟨⟨.no, .store 1 (.t 77) (.t 75), none⟩, false, false, []⟩])
    (.reg [⟨.t 78, .mov (.p 7), none⟩,
    ⟨.t 79, .loadN 2 (.p 9), none⟩,
    ⟨.t 80, .lit [.int .i64 0, .int .i64 0] 1 [(0, 2, .t 79)], none⟩,
    ⟨.t 81, .append 2 16 (.t 78) (.t 80), none⟩,
    ⟨.p 7, .mov (.t 81), none⟩]))))))
    (.reg [⟨.t 82, .bin .add (.p 45) (.c (.int .i64 1)), none⟩,
    ⟨.p 45, .mov (.t 82), none⟩])))
def bd_runes_spans : CCode :=
 .seq (.reg [⟨.p 2, .mov (.c (.nils)), none⟩])
    (.seq (.reg [⟨.p 3, .mov (.c (.nils)), none⟩])
    (.seq (.seq (.reg [⟨.p 11, .mov (.p 0), none⟩,
    ⟨.p 12, .lenSl (.p 11), none⟩,
    ⟨.p 13, .mov (.c (.int .i64 0)), none⟩])
    (.block 0 [3]
    (.loop [3, 11, 12, 13] lb_runes_spans_0)))
    (.seq (.reg [⟨.t 41, .mov (.p 3), none⟩,
    ⟨.t 42, .call F_slices_SortFunc_runes_span_runes_span [.t 41, .f F_runes_spans_1], none⟩])
    (.seq (.reg [⟨.p 7, .mov (.c (.nils)), none⟩])
    (.seq (.seq (.reg [⟨.p 43, .mov (.p 3), none⟩,
    ⟨.p 44, .lenSl (.p 43), none⟩,
    ⟨.p 45, .mov (.c (.int .i64 0)), none⟩])
    (.block 2 [7]
    (.loop [7, 43, 44, 45] lb_runes_spans_1)))
    (.seq (.reg [⟨.t 83, .mov (.p 7), none⟩,
    ⟨.p 2, .mov (.t 83), none⟩])
    (.ret)))))))
def cf_runes_spans : CFunc :=
{ nargs := 1, ps := [0, 2, 3, 5, 6, 7, 9, 10, 11, 12, 13, 14, 35, 43, 44, 45, 46, 63], results := [.slot 2], body := bd_runes_spans }

/- gobo/runes.ranges -/
def lb_runes_ranges_0 : CCode :=
 .seq (.reg [⟨.p 9, .bin .lss (.p 8) (.p 7), none⟩])
    (.seq (.cond (.p 9)
    (.skip)
    (.exit 0))
    (.seq (.block 1 [3, 6, 7, 8]
    (.seq (.reg [⟨.t 10, .idxAddr 2 (.p 6) (.p 8), none⟩,
    ⟨.t 11, .loadN 2 (.t 10), none⟩,
    ⟨.p 5, .alloc [.int .i64 0, .int .i64 0], none⟩,
    ⟨.no, .store 2 (.p 5) (.t 11), none⟩])
    (.dreg [⟨⟨.t 12, .mov (.p 3), none⟩, false, false, []⟩,
    ⟨⟨.t 13, .fieldAddr 0 (.p 5), none⟩, false, false, []⟩,
    ⟨⟨.t 14, .load1 (.t 13), none⟩, false, false, []⟩,
    ⟨⟨.t 15, .call F_runes_value [.t 14], none⟩, true, false, []⟩,
    ⟨⟨.t 16, .fieldAddr 1 (.p 5), none⟩, false, false, []⟩,
    ⟨⟨.t 17, .load1 (.t 16), none⟩, false, false, [3]⟩,
    ⟨⟨.t 18, .bin .sub (.t 17) (.c (.int .i64 1)), none⟩, false, false, []⟩,
    ⟨⟨.t 19, .call F_runes_value [.t 18], none⟩, false, false, []⟩,
    ⟨⟨.t 20, .build [.int .i32 0, .int .i32 0] [(0, 1, .t 15), (1, 1, .t 19)], none⟩, false, false, []⟩,
    ⟨⟨.t 21, .lit [.int .i32 0, .int .i32 0] 1 [(0, 2, .t 20)], none⟩, false, false, []⟩,
    ⟨⟨.t 22, .append 2 8 (.t 12) (.t 21), none⟩, false, false, []⟩,
    ⟨⟨.p 3, .mov (.t 22), none⟩, false, false, []⟩])))
    (.reg [⟨.t 23, .bin .add (.p 8) (.c (.int .i64 1)), none⟩,
    ⟨.p 8, .mov (.t 23), none⟩])))
def bd_runes_ranges : CCode :=
 .seq (.reg [⟨.p 2, .mov (.c (.nils)), none⟩])
    (.seq (.reg [⟨.p 3, .mov (.c (.nils)), none⟩])
    (.seq (.seq (.reg [⟨.p 6, .mov (.p 0), none⟩,
    ⟨.p 7, .lenSl (.p 6), none⟩,
    ⟨.p 8, .mov (.c (.int .i64 0)), none⟩])
    (.block 0 [3]
    (.loop [3, 6, 7, 8] lb_runes_ranges_0)))
    (.seq (.reg [⟨.t 24, .mov (.p 3), none⟩,
    ⟨.p 2, .mov (.t 24), none⟩])
    (.ret))))
def cf_runes_ranges : CFunc :=
{ nargs := 1, ps := [0, 2, 3, 5, 6, 7, 8, 9], results := [.slot 2], body := bd_runes_ranges }

/- gobo/word.hasRune -/
def lb_word_hasRune_0 : CCode :=
 .seq (.reg [⟨.p 9, .nextStr (.p 8), none⟩,
    ⟨.p 10, .extract (.p 9) 0, none⟩])
    (.seq (.cond (.p 10)
    (.skip)
    (.exit 0))
    (.block 1 [1, 8]
    (.seq (.reg [⟨.t 11, .extract (.p 9) 2, none⟩,
    ⟨.p 6, .mov (.t 11), none⟩])
    (.seq (.reg [⟨.t 12, .mov (.p 6), none⟩,
    ⟨.t 13, .mov (.p 1), none⟩,
    ⟨.p 14, .bin .eql (.t 12) (.t 13), none⟩])
    (.cond (.p 14)
    (.seq (.reg [⟨.p 4, .mov (.c (.bool true)), none⟩])
    (.ret))
    (.skip))))))
def bd_word_hasRune : CCode :=
 .seq (.reg [⟨.p 4, .mov (.c (.bool false)), none⟩])
    (.seq (.seq (.reg [⟨.t 7, .mov (.p 0), none⟩,
    ⟨.p 8, .rangeStr (.t 7), none⟩])
    (.block 0 []
    (.loop [1, 8] lb_word_hasRune_0)))
    (.seq (.reg [⟨.p 4, .mov (.c (.bool false)), none⟩])
    (.ret)))
def cf_word_hasRune : CFunc :=
{ nargs := 2, ps := [0, 1, 4, 6, 8, 9, 10, 14], results := [.slot 4], body := bd_word_hasRune }

/- (*gobo/word.Reader).number -/
def lb_word_Reader_number_0 : CCode :=
 .seq (.seq (.reg [⟨.t 8, .mov (.p 4), none⟩,
    ⟨.p 9, .bin .lss (.t 8) (.c (.int .i64 6)), none⟩])
    (.cond (.p 9)
    (.skip)
    (.exit 0)))
    (.seq (.block 1 [0, 3, 4]
    (.seq (.reg [⟨.t 12, .mov (.p 0), none⟩,
    ⟨.t 13, .call F_word_Reader_Peek [.t 12], none⟩,
    ⟨.t 14, .call F_word_hex [.t 13], none⟩,
    ⟨.p 5, .mov (.t 14), none⟩])
    (.seq (.seq (.reg [⟨.t 15, .mov (.p 5), none⟩,
    ⟨.t 16, .bin .lss (.t 15) (.c (.int .i32 0)), none⟩,
    ⟨.t 17, .mov (.t 16), none⟩,
    ⟨.t 18, .mov (.p 3), some (.t 17, false)⟩,
    ⟨.t 19, .bin .mul (.t 18) (.c (.int .i32 16)), some (.t 17, false)⟩,
    ⟨.t 20, .mov (.p 5), some (.t 17, false)⟩,
    ⟨.t 21, .bin .add (.t 19) (.t 20), some (.t 17, false)⟩,
    ⟨.t 22, .bin .gtr (.t 21) (.c (.int .i32 1114111)), some (.t 17, false)⟩,
    ⟨.p 23, .pick (.t 17) (.c (.bool true)) (.t 22), none⟩])
    (.cond (.p 23)
    (.exit 0)
    (.skip)))
    (.seq (.reg [⟨.t 24, .mov (.p 3), none⟩,
    ⟨.t 25, .bin .mul (.t 24) (.c (.int .i32 16)), none⟩,
    ⟨.t 26, .mov (.p 5), none⟩,
    ⟨.t 27, .bin .add (.t 25) (.t 26), none⟩,
    ⟨.p 3, .mov (.t 27), none⟩])
    (.reg [⟨.t 28, .mov (.p 0), none⟩,
    ⟨.t 29, .nilCheck (.t 28), none⟩,
    ⟨.t 30, .fieldAddr 1 (.t 29), none⟩,
    ⟨.t 31, .load1 (.t 30), none⟩,
    ⟨.t 32, .bin .add (.t 31) (.c (.int .i64 1)), none⟩,
    ⟨.t 33, .nilCheck (.t 28), none⟩,
    ⟨.t 34, .fieldAddr 1 (.t 33), none⟩,
    ⟨.no, .store 1 (.t 34) (.t 32), none⟩])))))
    (.reg [⟨.t 10, .mov (.p 4), none⟩,
    ⟨.t 11, .bin .add (.t 10) (.c (.int .i64 1)), none⟩,
    ⟨.p 4, .mov (.t 11), none⟩]))
def bd_word_Reader_number : CCode :=
 .seq (.reg [⟨.p 2, .mov (.c (.int .i32 0)), none⟩])
    (.seq (.reg [⟨.t 6, .mov (.p 0), none⟩,
    ⟨.t 7, .call F_word_Reader_Must [.t 6, .c (.int .i32 123)], none⟩])
    (.seq (.reg [⟨.p 3, .mov (.c (.int .i32 0)), none⟩])
    (.seq (.reg [⟨.p 4, .mov (.c (.int .i64 0)), none⟩])
    (.seq (.block 0 [0, 3, 4]
    (.loop [0, 3, 4] lb_word_Reader_number_0))
    (.seq (.seq (.reg [⟨.t 35, .mov (.p 4), none⟩,
    ⟨.t 36, .bin .eql (.t 35) (.c (.int .i64 0)), none⟩,
    ⟨.t 37, .mov (.t 36), none⟩,
    ⟨.t 38, .mov (.p 0), some (.t 37, false)⟩,
    ⟨.t 39, .call F_word_Reader_Peek [.t 38], some (.t 37, false)⟩,
    ⟨.t 40, .bin .neq (.t 39) (.c (.int .i32 125)), some (.t 37, false)⟩,
    ⟨.t 41, .pick (.t 37) (.c (.bool true)) (.t 40), none⟩,
    ⟨.t 42, .mov (.t 41), none⟩,
    ⟨.t 43, .mov (.p 3), some (.t 42, false)⟩,
    ⟨.t 44, .bin .geq (.t 43) (.c (.int .i32 55296)), some (.t 42, false)⟩,
    ⟨.t 45, .mov (.t 44), some (.t 42, false)⟩,
    ⟨.t 46, .mov (.p 3), some (.t 45, true)⟩,
    ⟨.t 47, .bin .leq (.t 46) (.c (.int .i32 57343)), some (.t 45, true)⟩,
    ⟨.t 48, .pick (.t 45) (.t 47) (.c (.bool false)), some (.t 42, false)⟩,
    ⟨.p 49, .pick (.t 42) (.c (.bool true)) (.t 48), none⟩])
    (.cond (.p 49)
    (.reg [⟨.t 50, .mov (.p 0), none⟩,
    ⟨.t 51, .call F_word_Reader_At [.t 50], none⟩,
    ⟨.t 52, .call F_word_Fail [.c (.int .i64 3), .t 51], none⟩])
    (.skip)))
    (.seq (.reg [⟨.t 53, .mov (.p 0), none⟩,
    ⟨.t 54, .nilCheck (.t 53), none⟩,
    ⟨.t 55, .fieldAddr 1 (.t 54), none⟩,
    ⟨.t 56, .load1 (.t 55), none⟩,
    ⟨.t 57, .bin .add (.t 56) (.c (.int .i64 1)), none⟩,
    ⟨.t 58, .nilCheck (.t 53), none⟩,
    ⟨.t 59, .fieldAddr 1 (.t 58), none⟩,
    ⟨.no, .store 1 (.t 59) (.t 57), none⟩])
    (.seq (.reg [⟨.t 60, .mov (.p 3), none⟩,
    ⟨.p 2, .mov (.t 60), none⟩])
    (.ret))))))))
def cf_word_Reader_number : CFunc :=
{ nargs := 1, ps := [0, 2, 3, 4, 5, 9, 23, 49], results := [.slot 2], body := bd_word_Reader_number }

/- internal/stringslite.IndexByte -/
def bd_stringslite_IndexByte : CCode :=
 .seq (.reg [⟨.p 4, .mov (.c (.int .i64 0)), none⟩])
    (.seq (.reg [⟨.t 5, .mov (.p 0), none⟩,
    ⟨.t 6, .mov (.p 1), none⟩,
    ⟨.t 7, .idxByte (.t 5) (.t 6), none⟩,
    ⟨.p 4, .mov (.t 7), none⟩])
    (.ret))
def cf_stringslite_IndexByte : CFunc :=
{ nargs := 2, ps := [0, 1, 4], results := [.slot 4], body := bd_stringslite_IndexByte }

/- strconv.Atoi -/
def bd_strconv_Atoi : CCode :=
 .seq (.reg [⟨.p 2, .mov (.c (.int .i64 0)), none⟩,
    ⟨.p 3, .mov (.c (.nili)), none⟩])
    (.seq (.reg [⟨.t 7, .mov (.p 0), none⟩,
    ⟨.t 8, .call F_strconv_Atoi_104 [.t 7], none⟩,
    ⟨.t 6, .mov (.t 8), none⟩,
    ⟨.t 9, .extract (.t 6) 0, none⟩,
    ⟨.t 10, .extract (.t 6) 1, none⟩,
    ⟨.p 4, .mov (.t 9), none⟩,
    ⟨.p 5, .mov (.t 10), none⟩])
    (.seq (.seq (.reg [⟨.t 11, .mov (.p 5), none⟩,
    ⟨.p 12, .eqv true .iface (.t 11) (.c (.nili)), none⟩])
    (.cond (.p 12)
    (.seq (.reg [⟨.t 13, .mov (.p 4), none⟩,
    ⟨.t 14, .mov (.p 0), none⟩,
    ⟨.t 15, .mov (.p 5), none⟩,
    ⟨.t 16, .call F_strconv_toError [.c (.str [65, 116, 111, 105]), .t 14, .c (.int .i64 0), .c (.int .i64 0), .t 15], none⟩,
    ⟨.p 2, .mov (.t 13), none⟩,
    ⟨.p 3, .mov (.t 16), none⟩])
    (.ret))
    (.skip)))
    (.seq (.reg [⟨.t 17, .mov (.p 4), none⟩,
    ⟨.p 2, .mov (.t 17), none⟩,
    ⟨.p 3, .mov (.c (.nili)), none⟩])
    (.ret))))
def cf_strconv_Atoi : CFunc :=
{ nargs := 1, ps := [0, 2, 3, 4, 5, 12], results := [.slot 2, .slot 3], body := bd_strconv_Atoi }

/- (*gobo/parse.source).names -/
def lb_parse_source_names_0 : CCode :=
 .seq (.seq (.reg [⟨.t 4, .mov (.p 3), none⟩,
    ⟨.t 5, .lenSl (.t 4), none⟩,
    ⟨.t 6, .bin .eql (.t 5) (.c (.int .i64 0)), none⟩,
    ⟨.t 7, .mov (.t 6), none⟩,
    ⟨.t 8, .mov (.p 0), some (.t 7, false)⟩,
    ⟨.t 9, .call F_parse_source_peek [.t 8], some (.t 7, false)⟩,
    ⟨.t 10, .field1 0 (.t 9), some (.t 7, false)⟩,
    ⟨.t 11, .bin .eql (.t 10) (.c (.int .i64 1)), some (.t 7, false)⟩,
    ⟨.p 12, .pick (.t 7) (.c (.bool true)) (.t 11), none⟩])
    (.cond (.p 12)
    (.skip)
    (.exit 0)))
    (.block 1 [0, 3]
    (.reg [⟨.t 13, .mov (.p 3), none⟩,
    ⟨.t 14, .mov (.p 0), none⟩,
    ⟨.t 15, .call F_parse_source_name [.t 14], none⟩,
    ⟨.t 16, .lit [.str []] 1 [(0, 1, .t 15)], none⟩,
    ⟨.t 17, .append 1 16 (.t 13) (.t 16), none⟩,
    ⟨.p 3, .mov (.t 17), none⟩]))
def bd_parse_source_names : CCode :=
 .seq (.reg [⟨.p 2, .mov (.c (.nils)), none⟩])
    (.seq (.reg [⟨.p 3, .mov (.c (.nils)), none⟩])
    (.seq (.block 0 [3]
    (.loop [0, 3] lb_parse_source_names_0))
    (.seq (.reg [⟨.t 18, .mov (.p 3), none⟩,
    ⟨.p 2, .mov (.t 18), none⟩])
    (.ret))))
def cf_parse_source_names : CFunc :=
{ nargs := 1, ps := [0, 2, 3, 12], results := [.slot 2], body := bd_parse_source_names }

/- (*gobo/parse.source).row -/
def lb_parse_source_row_0 : CCode :=
 .seq (.seq (.reg [⟨.t 6, .mov (.p 0), none⟩,
    ⟨.p 7, .call F_parse_source_begins [.t 6], none⟩])
    (.cond (.p 7)
    (.skip)
    (.exit 0)))
    (.block 1 [0, 2, 3]
    (.dreg [⟨⟨.t 8, .loadN 4 (.p 3), none⟩, true, false, []⟩,
    ⟨⟨.t 9, .mov (.p 0), none⟩, false, false, []⟩,
    ⟨⟨.t 10, .call F_parse_source_post [.t 9], none⟩, false, false, [0]⟩,
    ⟨⟨.t 11, .lit [.int .i64 0, .nils, .nils, .nils, .int .i64 0, .nils, .nils, .nils] 2 [(0, 4, .t 8), (4, 4, .t 10)], none⟩, false, false, []⟩,
    ⟨⟨.t 12, .build [.int .i64 0, .nils, .nils, .nils] [(0, 1, .c (.int .i64 5)), (3, 1, .t 11)], none⟩, false, false, []⟩,
    ⟨⟨.no, .store 4 (.p 3) (.t 12), none⟩, false, false, []⟩]))
def bd_parse_source_row : CCode :=
 .seq (.reg [⟨.p 2, .alloc [.int .i64 0, .nils, .nils, .nils], none⟩])
    (.seq (.reg [⟨.t 4, .mov (.p 0), none⟩,
    ⟨.t 5, .call F_parse_source_post [.t 4], none⟩,
    ⟨.p 3, .alloc [.int .i64 0, .nils, .nils, .nils], none⟩,
    ⟨.no, .store 4 (.p 3) (.t 5), none⟩])
    (.seq (.block 0 [2, 3]
    (.loop [0, 2, 3] lb_parse_source_row_0))
    (.seq (.reg [⟨.t 13, .loadN 4 (.p 3), none⟩,
    ⟨.no, .store 4 (.p 2) (.t 13), none⟩])
    (.ret))))
def cf_parse_source_row : CFunc :=
{ nargs := 1, ps := [0, 2, 3, 7], results := [.cellN 2 4], body := bd_parse_source_row }

/- slices.Contains[[]string,string] -/
def bd_slices_Contains_string_string : CCode :=
 .seq (.reg [⟨.p 4, .mov (.c (.bool false)), none⟩])
    (.seq (.reg [⟨.t 5, .mov (.p 0), none⟩,
    ⟨.t 6, .mov (.p 1), none⟩,
    ⟨.t 7, .call F_slices_Index_string_string [.t 5, .t 6], none⟩,
    ⟨.t 8, .bin .geq (.t 7) (.c (.int .i64 0)), none⟩,
    ⟨.p 4, .mov (.t 8), none⟩])
    (.ret))
def cf_slices_Contains_string_string : CFunc :=
{ nargs := 2, ps := [0, 1, 4], results := [.slot 4], body := bd_slices_Contains_string_string }

/- slices.IndexFunc[[]gobo/api.Token,gobo/api.Token] -/
def lb_slices_IndexFunc_api_Token_api_Token_0 : CCode :=
 .seq (.reg [⟨.p 9, .bin .lss (.p 8) (.p 7), none⟩])
    (.seq (.cond (.p 9)
    (.skip)
    (.exit 0))
    (.seq (.block 1 [0, 1, 7, 8]
    (.seq (.reg [⟨.t 10, .mov (.p 8), none⟩,
    ⟨.p 5, .mov (.t 10), none⟩])
    (.seq (.reg [⟨.t 11, .mov (.p 1), none⟩,
    ⟨.t 12, .mov (.p 0), none⟩,
    ⟨.t 13, .mov (.p 5), none⟩,
    ⟨.t 14, .idxAddr 6 (.t 12) (.t 13), none⟩,
    ⟨.t 15, .loadN 6 (.t 14), none⟩,
    ⟨.p 16, .callV (.t 11) [.t 15], none⟩])
    (.cond (.p 16)
    (.seq (.reg [⟨.t 17, .mov (.p 5), none⟩,
    ⟨.p 4, .mov (.t 17), none⟩])
    (.ret))
    (.skip)))))
    (.reg [⟨.t 18, .bin .add (.p 8) (.c (.int .i64 1)), none⟩,
    ⟨.p 8, .mov (.t 18), none⟩])))
def bd_slices_IndexFunc_api_Token_api_Token : CCode :=
 .seq (.reg [⟨.p 4, .mov (.c (.int .i64 0)), none⟩])
    (.seq (.seq (.reg [⟨.t 6, .mov (.p 0), none⟩,
    ⟨.p 7, .lenSl (.t 6), none⟩,
    ⟨.p 8, .mov (.c (.int .i64 0)), none⟩])
    (.block 0 []
    (.loop [0, 1, 7, 8] lb_slices_IndexFunc_api_Token_api_Token_0)))
    (.seq (.reg [⟨.p 4, .mov (.c (.int .i64 (-1))), none⟩])
    (.ret)))
def cf_slices_IndexFunc_api_Token_api_Token : CFunc :=
{ nargs := 2, ps := [0, 1, 4, 5, 7, 8, 9, 16], results := [.slot 4], body := bd_slices_IndexFunc_api_Token_api_Token }

/- gobo/gram.Find$1 -/
def bd_gram_Find_1 : CCode :=
 .seq (.reg [⟨.p 2, .box (.p 0), none⟩,
    ⟨.p 3, .mov (.c (.bool false)), none⟩])
    (.seq (.reg [⟨.t 4, .fieldAddr 0 (.p 2), none⟩,
    ⟨.t 5, .load1 (.t 4), none⟩,
    ⟨.t 6, .load1 (.p 1), none⟩,
    ⟨.t 7, .bin .eql (.t 5) (.t 6), none⟩,
    ⟨.p 3, .mov (.t 7), none⟩])
    (.ret))
def cf_gram_Find_1 : CFunc :=
{ nargs := 2, ps := [0, 1, 2, 3], results := [.slot 3], body := bd_gram_Find_1 }

/- gobo/regex.within -/
def bd_regex_within : CCode :=
 .seq (.reg [⟨.p 1, .box (.p 0), none⟩,
    ⟨.p 2, .mov (.c (.bool false)), none⟩])
    (.seq (.reg [⟨.p 3, .alloc [.int .i64 0], none⟩,
    ⟨.no, .store 1 (.p 3) (.c (.int .i64 60)), none⟩])
    (.seq (.reg [⟨.p 4, .alloc [.nilf], none⟩])
    (.seq (.reg [⟨.t 5, .mkFn F_regex_within_1 [.p 3, .p 4], none⟩,
    ⟨.no, .store 1 (.p 4) (.t 5), none⟩])
    (.seq (.reg [⟨.t 6, .load1 (.p 4), none⟩,
    ⟨.t 7, .loadN 3 (.p 1), none⟩,
    ⟨.t 8, .callV (.t 6) [.t 7, .c (.int .i64 1)], none⟩,
    ⟨.p 2, .mov (.t 8), none⟩])
    (.ret)))))
def cf_regex_within : CFunc :=
{ nargs := 1, ps := [0, 1, 2, 3, 4], results := [.slot 2], body := bd_regex_within }

/- gobo/regex.may -/
def bd_regex_may : CCode :=
 .seq (.reg [⟨.p 1, .box (.p 0), none⟩,
    ⟨.p 2, .mov (.c (.bool false)), none⟩])
    (.seq (.seq (.dreg [⟨⟨.t 3, .fieldAddr 2 (.p 1), none⟩, false, false, []⟩,
    ⟨⟨.t 4, .load1 (.t 3), none⟩, true, false, []⟩,
    ⟨⟨.t 5, .lenSl (.t 4), none⟩, false, false, []⟩,
    ⟨⟨.t 6, .fieldAddr 0 (.p 1), none⟩, false, false, []⟩,
    ⟨⟨.t 7, .load1 (.t 6), none⟩, false, false, []⟩,
    ⟨⟨.t 8, .call F_regex_parts [.t 7], none⟩, false, false, [1]⟩,
    ⟨⟨.t 9, .bin .neq (.t 5) (.t 8), none⟩, false, false, []⟩,
    ⟨⟨.t 10, .mov (.t 9), none⟩, false, false, []⟩,
    ⟨⟨.t 11, .fieldAddr 2 (.p 1), some (.t 10, false)⟩, false, false, []⟩,
    ⟨⟨.t 12, .load1 (.t 11), some (.t 10, false)⟩, false, false, []⟩,
    ⟨⟨.t 13, .call F_slices_ContainsFunc_api_Re_api_Re [.t 12, .f F_regex_may_1], some (.t 10, false)⟩, false, false, []⟩,
    ⟨⟨.p 14, .pick (.t 10) (.c (.bool true)) (.t 13), none⟩, false, false, []⟩])
    (.cond (.p 14)
    (.seq (.reg [⟨.p 2, .mov (.c (.bool false)), none⟩])
    (.ret))
    (.skip)))
    (.seq (.seq (.reg [⟨.t 15, .fieldAddr 0 (.p 1), none⟩,
    ⟨.t 16, .load1 (.t 15), none⟩,
    ⟨.p 17, .bin .neq (.t 16) (.c (.int .i64 2)), none⟩])
    (.cond (.p 17)
    (.seq (.reg [⟨.t 18, .fieldAddr 1 (.p 1), none⟩,
    ⟨.t 19, .load1 (.t 18), none⟩,
    ⟨.t 20, .lenSl (.t 19), none⟩,
    ⟨.t 21, .bin .eql (.t 20) (.c (.int .i64 0)), none⟩,
    ⟨.p 2, .mov (.t 21), none⟩])
    (.ret))
    (.skip)))
    (.seq (.reg [⟨.t 22, .fieldAddr 1 (.p 1), none⟩,
    ⟨.t 23, .load1 (.t 22), none⟩,
    ⟨.t 24, .lenSl (.t 23), none⟩,
    ⟨.t 25, .bin .geq (.t 24) (.c (.int .i64 1)), none⟩,
    ⟨.t 26, .mov (.t 25), none⟩,
    ⟨.t 27, .fieldAddr 1 (.p 1), some (.t 26, true)⟩,
    ⟨.t 28, .load1 (.t 27), some (.t 26, true)⟩,
    ⟨.t 29, .lenSl (.t 28), some (.t 26, true)⟩,
    ⟨.t 30, .bin .leq (.t 29) (.c (.int .i64 20)), some (.t 26, true)⟩,
    ⟨.t 31, .pick (.t 26) (.t 30) (.c (.bool false)), none⟩,
    ⟨.t 32, .mov (.t 31), none⟩,
    ⟨.t 33, .fieldAddr 1 (.p 1), some (.t 32, true)⟩,
    ⟨.t 34, .load1 (.t 33), some (.t 32, true)⟩,
    ⟨.t 35, .call F_runes_May [.t 34], some (.t 32, true)⟩,
    ⟨.t 36, .pick (.t 32) (.t 35) (.c (.bool false)), none⟩,
    ⟨.p 2, .mov (.t 36), none⟩])
    (.ret))))
def cf_regex_may : CFunc :=
{ nargs := 1, ps := [0, 1, 2, 14, 17], results := [.slot 2], body := bd_regex_may }

/- gobo/regex.empty -/
def bd_regex_empty : CCode :=
 .seq (.reg [⟨.p 1, .box (.p 0), none⟩,
    ⟨.p 2, .mov (.c (.bool false)), none⟩])
    (.seq (.seq (.reg [⟨.t 3, .fieldAddr 0 (.p 1), none⟩,
    ⟨.p 4, .load1 (.t 3), none⟩])
    (.block 0 []
    (.seq (.seq (.reg [⟨.t 6, .bin .eql (.p 4) (.c (.int .i64 1)), none⟩,
    ⟨.p 5, .mov (.t 6), none⟩])
    (.cond (.p 5)
    (.skip)
    (.reg [⟨.t 7, .bin .eql (.p 4) (.c (.int .i64 5)), none⟩,
    ⟨.p 5, .mov (.t 7), none⟩])))
    (.cond (.p 5)
    (.seq (.reg [⟨.p 2, .mov (.c (.bool true)), none⟩])
    (.ret))
    (.seq (.reg [⟨.t 9, .bin .eql (.p 4) (.c (.int .i64 3)), none⟩,
    ⟨.p 8, .mov (.t 9), none⟩])
    (.cond (.p 8)
    (.seq (.reg [⟨.t 10, .fieldAddr 2 (.p 1), none⟩,
    ⟨.t 11, .load1 (.t 10), none⟩,
    ⟨.t 12, .idxAddr 3 (.t 11) (.c (.int .i64 0)), none⟩,
    ⟨.t 13, .loadN 3 (.t 12), none⟩,
    ⟨.t 14, .call F_regex_empty [.t 13], none⟩,
    ⟨.t 15, .mov (.t 14), none⟩,
    ⟨.t 16, .fieldAddr 2 (.p 1), some (.t 15, true)⟩,
    ⟨.t 17, .load1 (.t 16), some (.t 15, true)⟩,
    ⟨.t 18, .idxAddr 3 (.t 17) (.c (.int .i64 1)), some (.t 15, true)⟩,
    ⟨.t 19, .loadN 3 (.t 18), some (.t 15, true)⟩,
    ⟨.t 20, .call F_regex_empty [.t 19], some (.t 15, true)⟩,
    ⟨.t 21, .pick (.t 15) (.t 20) (.c (.bool false)), none⟩,
    ⟨.p 2, .mov (.t 21), none⟩])
    (.ret))
    (.seq (.reg [⟨.t 23, .bin .eql (.p 4) (.c (.int .i64 4)), none⟩,
    ⟨.p 22, .mov (.t 23), none⟩])
    (.cond (.p 22)
    (.seq (.reg [⟨.t 24, .fieldAddr 2 (.p 1), none⟩,
    ⟨.t 25, .load1 (.t 24), none⟩,
    ⟨.t 26, .idxAddr 3 (.t 25) (.c (.int .i64 0)), none⟩,
    ⟨.t 27, .loadN 3 (.t 26), none⟩,
    ⟨.t 28, .call F_regex_empty [.t 27], none⟩,
    ⟨.t 29, .mov (.t 28), none⟩,
    ⟨.t 30, .fieldAddr 2 (.p 1), some (.t 29, false)⟩,
    ⟨.t 31, .load1 (.t 30), some (.t 29, false)⟩,
    ⟨.t 32, .idxAddr 3 (.t 31) (.c (.int .i64 1)), some (.t 29, false)⟩,
    ⟨.t 33, .loadN 3 (.t 32), some (.t 29, false)⟩,
    ⟨.t 34, .call F_regex_empty [.t 33], some (.t 29, false)⟩,
    ⟨.t 35, .pick (.t 29) (.c (.bool true)) (.t 34), none⟩,
    ⟨.p 2, .mov (.t 35), none⟩])
    (.ret))
    (.skip)))))))))
    (.seq (.reg [⟨.p 2, .mov (.c (.bool false)), none⟩])
    (.ret)))
def cf_regex_empty : CFunc :=
{ nargs := 1, ps := [0, 1, 2, 4, 5, 8, 22], results := [.slot 2], body := bd_regex_empty }

/- gobo/gram.few -/
def bd_gram_few : CCode :=
 .seq (.reg [⟨.p 1, .box (.p 0), none⟩,
    ⟨.p 2, .mov (.c (.bool false)), none⟩])
    (.seq (.reg [⟨.p 3, .alloc [.int .i64 0], none⟩,
    ⟨.no, .store 1 (.p 3) (.c (.int .i64 60)), none⟩])
    (.seq (.reg [⟨.p 4, .alloc [.nilf], none⟩])
    (.seq (.reg [⟨.t 5, .mkFn F_gram_few_1 [.p 3, .p 4], none⟩,
    ⟨.no, .store 1 (.p 4) (.t 5), none⟩])
    (.seq (.reg [⟨.t 6, .load1 (.p 4), none⟩,
    ⟨.t 7, .loadN 4 (.p 1), none⟩,
    ⟨.t 8, .callV (.t 6) [.t 7, .c (.int .i64 1)], none⟩,
    ⟨.p 2, .mov (.t 8), none⟩])
    (.ret)))))
def cf_gram_few : CFunc :=
{ nargs := 1, ps := [0, 1, 2, 3, 4], results := [.slot 2], body := bd_gram_few }

/- (*gobo/gram.court).node -/
def lb_gram_court_node_0 : CCode :=
 .seq (.reg [⟨.p 27, .bin .lss (.p 26) (.p 25), none⟩])
    (.seq (.cond (.p 27)
    (.skip)
    (.exit 0))
    (.seq (.block 1 [0, 24, 25, 26]
    (.seq (.reg [⟨.t 28, .idxAddr 4 (.p 24) (.p 26), none⟩,
    ⟨.t 29, .loadN 4 (.t 28), none⟩,
    ⟨.p 6, .alloc [.int .i64 0, .nils, .nils, .nils], none⟩,
    ⟨.no, .store 4 (.p 6) (.t 29), none⟩])
    (.reg [⟨.t 30, .mov (.p 0), none⟩,
    ⟨.t 31, .loadN 4 (.p 6), none⟩,
    ⟨.t 32, .call F_gram_court_node [.t 30, .t 31], none⟩])))
    (.reg [⟨.t 33, .bin .add (.p 26) (.c (.int .i64 1)), none⟩,
    ⟨.p 26, .mov (.t 33), none⟩])))
def bd_gram_court_node : CCode :=
 .seq (.reg [⟨.p 3, .box (.p 1), none⟩])
    (.seq (.reg [⟨.t 7, .mov (.p 0), none⟩,
    ⟨.t 8, .loadN 4 (.p 3), none⟩,
    ⟨.t 9, .call F_gram_shaped [.t 8], none⟩,
    ⟨.t 10, .call F_gram_court_must [.t 7, .t 9, .c (.int .i64 5)], none⟩])
    (.seq (.reg [⟨.p 4, .mov (.c (.int .i64 0)), none⟩])
    (.seq (.seq (.reg [⟨.t 11, .fieldAddr 0 (.p 3), none⟩,
    ⟨.t 12, .load1 (.t 11), none⟩,
    ⟨.p 13, .bin .eql (.t 12) (.c (.int .i64 3)), none⟩])
    (.cond (.p 13)
    (.reg [⟨.p 4, .mov (.c (.int .i64 1)), none⟩])
    (.skip)))
    (.seq (.reg [⟨.t 14, .mov (.p 0), none⟩,
    ⟨.t 15, .fieldAddr 1 (.p 3), none⟩,
    ⟨.t 16, .load1 (.t 15), none⟩,
    ⟨.t 17, .mov (.p 4), none⟩,
    ⟨.t 18, .call F_gram_court_names [.t 14, .t 16, .t 17], none⟩])
    (.seq (.reg [⟨.t 19, .mov (.p 0), none⟩,
    ⟨.t 20, .fieldAddr 2 (.p 3), none⟩,
    ⟨.t 21, .load1 (.t 20), none⟩,
    ⟨.t 22, .call F_gram_court_names [.t 19, .t 21, .c (.int .i64 2)], none⟩])
    (.seq (.reg [⟨.t 23, .fieldAddr 3 (.p 3), none⟩,
    ⟨.p 24, .load1 (.t 23), none⟩,
    ⟨.p 25, .lenSl (.p 24), none⟩,
    ⟨.p 26, .mov (.c (.int .i64 0)), none⟩])
    (.block 0 []
    (.loop [0, 24, 25, 26] lb_gram_court_node_0))))))))
def cf_gram_court_node : CFunc :=
{ nargs := 2, ps := [0, 1, 3, 4, 6, 13, 24, 25, 26, 27], results := [], body := bd_gram_court_node }

/- (*gobo/decode.Dec).more$1 -/
def bd_decode_Dec_more_1 : CCode :=
 .seq (.reg [⟨.t 4, .recover, none⟩,
    ⟨.p 1, .mov (.t 4), none⟩])
    (.seq (.reg [⟨.t 5, .mov (.p 1), none⟩,
    ⟨.p 6, .eqv true .iface (.t 5) (.c (.nili)), none⟩])
    (.cond (.p 6)
    (.seq (.seq (.reg [⟨.t 8, .mov (.p 1), none⟩,
    ⟨.t 9, .assert T_decode_wrong (some (.agg [])) (.t 8), none⟩,
    ⟨.t 7, .mov (.t 9), none⟩,
    ⟨.t 10, .extract (.t 7) 0, none⟩,
    ⟨.t 11, .extract (.t 7) 1, none⟩,
    ⟨.t 2, .alloc [], none⟩,
    ⟨.no, .store 0 (.t 2) (.t 10), none⟩,
    ⟨.p 3, .mov (.t 11), none⟩])
    (.seq (.reg [⟨.t 12, .mov (.p 3), none⟩,
    ⟨.p 13, .un .not (.t 12), none⟩])
    (.cond (.p 13)
    (.reg [⟨.t 14, .mov (.p 1), none⟩,
    ⟨.no, .panic (.t 14), none⟩])
    (.skip))))
    (.reg [⟨.no, .store 1 (.p 0) (.c (.bool false)), none⟩]))
    (.skip)))
def cf_decode_Dec_more_1 : CFunc :=
{ nargs := 1, ps := [0, 1, 3, 6, 13], results := [], body := bd_decode_Dec_more_1 }

/- gobo/decode.grow -/
def bd_decode_grow : CCode :=
 .seq (.reg [⟨.p 4, .mov (.c (.nils)), none⟩])
    (.seq (.reg [⟨.p 5, .mov (.c (.int .u8 128)), none⟩,
    ⟨.p 6, .mov (.c (.int .u8 191)), none⟩])
    (.seq (.seq (.reg [⟨.t 7, .mov (.p 0), none⟩,
    ⟨.t 8, .lenSl (.t 7), none⟩,
    ⟨.p 9, .bin .eql (.t 8) (.c (.int .i64 1)), none⟩])
    (.cond (.p 9)
    (.reg [⟨.t 11, .mov (.p 0), none⟩,
    ⟨.t 12, .idxAddr 1 (.t 11) (.c (.int .i64 0)), none⟩,
    ⟨.t 13, .load1 (.t 12), none⟩,
    ⟨.t 14, .call F_decode_second [.t 13], none⟩,
    ⟨.t 10, .mov (.t 14), none⟩,
    ⟨.t 15, .extract (.t 10) 0, none⟩,
    ⟨.t 16, .extract (.t 10) 1, none⟩,
    ⟨.p 5, .mov (.t 15), none⟩,
    ⟨.p 6, .mov (.t 16), none⟩])
    (.skip)))
    (.seq (.seq (.reg [⟨.t 17, .mov (.p 0), none⟩,
    ⟨.t 18, .lenSl (.t 17), none⟩,
    ⟨.t 19, .bin .eql (.t 18) (.c (.int .i64 0)), none⟩,
    ⟨.t 20, .mov (.t 19), none⟩,
    ⟨.t 21, .mov (.p 1), some (.t 20, true)⟩,
    ⟨.t 22, .call F_decode_long [.t 21], some (.t 20, true)⟩,
    ⟨.t 23, .bin .eql (.t 22) (.c (.int .i64 0)), some (.t 20, true)⟩,
    ⟨.t 24, .pick (.t 20) (.t 23) (.c (.bool false)), none⟩,
    ⟨.t 25, .mov (.t 24), none⟩,
    ⟨.t 26, .mov (.p 0), some (.t 25, false)⟩,
    ⟨.t 27, .lenSl (.t 26), some (.t 25, false)⟩,
    ⟨.t 28, .bin .gtr (.t 27) (.c (.int .i64 0)), some (.t 25, false)⟩,
    ⟨.t 29, .mov (.t 28), some (.t 25, false)⟩,
    ⟨.t 30, .mov (.p 1), some (.t 29, true)⟩,
    ⟨.t 31, .mov (.p 5), some (.t 29, true)⟩,
    ⟨.t 32, .bin .lss (.t 30) (.t 31), some (.t 29, true)⟩,
    ⟨.t 33, .mov (.t 32), some (.t 29, true)⟩,
    ⟨.t 34, .mov (.p 1), some (.t 33, false)⟩,
    ⟨.t 35, .mov (.p 6), some (.t 33, false)⟩,
    ⟨.t 36, .bin .gtr (.t 34) (.t 35), some (.t 33, false)⟩,
    ⟨.t 37, .pick (.t 33) (.c (.bool true)) (.t 36), some (.t 29, true)⟩,
    ⟨.t 38, .pick (.t 29) (.t 37) (.c (.bool false)), some (.t 25, false)⟩,
    ⟨.p 39, .pick (.t 25) (.c (.bool true)) (.t 38), none⟩])
    (.cond (.p 39)
    (.reg [⟨.t 40, .build [] [], none⟩,
    ⟨.t 41, .mkIface T_decode_wrong (.t 40), none⟩,
    ⟨.no, .panic (.t 41), none⟩])
    (.skip)))
    (.seq (.reg [⟨.t 42, .mov (.p 0), none⟩,
    ⟨.t 43, .call F_slices_Clone_byte_byte [.t 42], none⟩,
    ⟨.t 44, .mov (.p 1), none⟩,
    ⟨.t 45, .lit [.int .u8 0] 1 [(0, 1, .t 44)], none⟩,
    ⟨.t 46, .append 1 1 (.t 43) (.t 45), none⟩,
    ⟨.p 4, .mov (.t 46), none⟩])
    (.ret)))))
def cf_decode_grow : CFunc :=
{ nargs := 2, ps := [0, 1, 4, 5, 6, 9, 39], results := [.slot 4], body := bd_decode_grow }

/- gobo/decode.long -/
def bd_decode_long : CCode :=
 .seq (.reg [⟨.p 2, .mov (.c (.int .i64 0)), none⟩])
    (.seq (.block 0 []
    (.seq (.reg [⟨.t 4, .mov (.p 0), none⟩,
    ⟨.t 5, .bin .lss (.t 4) (.c (.int .u8 128)), none⟩,
    ⟨.p 3, .mov (.t 5), none⟩])
    (.cond (.p 3)
    (.seq (.reg [⟨.p 2, .mov (.c (.int .i64 1)), none⟩])
    (.ret))
    (.seq (.reg [⟨.t 7, .mov (.p 0), none⟩,
    ⟨.t 8, .bin .geq (.t 7) (.c (.int .u8 194)), none⟩,
    ⟨.t 9, .mov (.t 8), none⟩,
    ⟨.t 10, .mov (.p 0), some (.t 9, true)⟩,
    ⟨.t 11, .bin .leq (.t 10) (.c (.int .u8 223)), some (.t 9, true)⟩,
    ⟨.t 12, .pick (.t 9) (.t 11) (.c (.bool false)), none⟩,
    ⟨.p 6, .mov (.t 12), none⟩])
    (.cond (.p 6)
    (.seq (.reg [⟨.p 2, .mov (.c (.int .i64 2)), none⟩])
    (.ret))
    (.seq (.reg [⟨.t 14, .mov (.p 0), none⟩,
    ⟨.t 15, .bin .geq (.t 14) (.c (.int .u8 224)), none⟩,
    ⟨.t 16, .mov (.t 15), none⟩,
    ⟨.t 17, .mov (.p 0), some (.t 16, true)⟩,
    ⟨.t 18, .bin .leq (.t 17) (.c (.int .u8 239)), some (.t 16, true)⟩,
    ⟨.t 19, .pick (.t 16) (.t 18) (.c (.bool false)), none⟩,
    ⟨.p 13, .mov (.t 19), none⟩])
    (.cond (.p 13)
    (.seq (.reg [⟨.p 2, .mov (.c (.int .i64 3)), none⟩])
    (.ret))
    (.seq (.reg [⟨.t 21, .mov (.p 0), none⟩,
    ⟨.t 22, .bin .geq (.t 21) (.c (.int .u8 240)), none⟩,
    ⟨.t 23, .mov (.t 22), none⟩,
    ⟨.t 24, .mov (.p 0), some (.t 23, true)⟩,
    ⟨.t 25, .bin .leq (.t 24) (.c (.int .u8 244)), some (.t 23, true)⟩,
    ⟨.t 26, .pick (.t 23) (.t 25) (.c (.bool false)), none⟩,
    ⟨.p 20, .mov (.t 26), none⟩])
    (.cond (.p 20)
    (.seq (.reg [⟨.p 2, .mov (.c (.int .i64 4)), none⟩])
    (.ret))
    (.skip))))))))))
    (.seq (.reg [⟨.p 2, .mov (.c (.int .i64 0)), none⟩])
    (.ret)))
def cf_decode_long : CFunc :=
{ nargs := 1, ps := [0, 2, 3, 6, 13, 20], results := [.slot 2], body := bd_decode_long }

/- unicode/utf8.decodeRuneSlow -/
def bd_utf8_decodeRuneSlow : CCode :=
 .seq (.reg [⟨.p 2, .mov (.c (.int .i32 0)), none⟩,
    ⟨.p 3, .mov (.c (.int .i64 0)), none⟩])
    (.seq (.reg [⟨.t 13, .mov (.p 0), none⟩,
    ⟨.t 14, .lenSl (.t 13), none⟩,
    ⟨.p 4, .mov (.t 14), none⟩])
    (.seq (.seq (.reg [⟨.t 15, .mov (.p 4), none⟩,
    ⟨.p 16, .bin .lss (.t 15) (.c (.int .i64 1)), none⟩])
    (.cond (.p 16)
    (.seq (.reg [⟨.p 2, .mov (.c (.int .i32 65533)), none⟩,
    ⟨.p 3, .mov (.c (.int .i64 0)), none⟩])
    (.ret))
    (.skip)))
    (.seq (.reg [⟨.t 17, .mov (.p 0), none⟩,
    ⟨.t 18, .idxAddr 1 (.t 17) (.c (.int .i64 0)), none⟩,
    ⟨.t 19, .load1 (.t 18), none⟩,
    ⟨.p 5, .mov (.t 19), none⟩])
    (.seq (.reg [⟨.t 20, .mov (.p 5), none⟩,
    ⟨.t 21, .idxArr 256 1 (.g G_utf8_first) (.t 20), none⟩,
    ⟨.t 22, .load1 (.t 21), none⟩,
    ⟨.p 6, .mov (.t 22), none⟩])
    (.seq (.seq (.reg [⟨.t 23, .mov (.p 6), none⟩,
    ⟨.p 24, .bin .geq (.t 23) (.c (.int .u8 240)), none⟩])
    (.cond (.p 24)
    (.seq (.reg [⟨.t 25, .mov (.p 6), none⟩,
    ⟨.t 26, .convI .i32 (.t 25), none⟩,
    ⟨.t 27, .bin .shl (.t 26) (.c (.int .u64 31)), none⟩,
    ⟨.t 28, .bin .shr (.t 27) (.c (.int .u64 31)), none⟩,
    ⟨.p 7, .mov (.t 28), none⟩])
    (.seq (.reg [⟨.t 29, .mov (.p 0), none⟩,
    ⟨.t 30, .idxAddr 1 (.t 29) (.c (.int .i64 0)), none⟩,
    ⟨.t 31, .load1 (.t 30), none⟩,
    ⟨.t 32, .convI .i32 (.t 31), none⟩,
    ⟨.t 33, .mov (.p 7), none⟩,
    ⟨.t 34, .bin .andNot (.t 32) (.t 33), none⟩,
    ⟨.t 35, .mov (.p 7), none⟩,
    ⟨.t 36, .bin .and (.c (.int .i32 65533)) (.t 35), none⟩,
    ⟨.t 37, .bin .or (.t 34) (.t 36), none⟩,
    ⟨.p 2, .mov (.t 37), none⟩,
    ⟨.p 3, .mov (.c (.int .i64 1)), none⟩])
    (.ret)))
    (.skip)))
    (.seq (.reg [⟨.t 38, .mov (.p 6), none⟩,
    ⟨.t 39, .bin .and (.t 38) (.c (.int .u8 7)), none⟩,
    ⟨.t 40, .convI .i64 (.t 39), none⟩,
    ⟨.p 8, .mov (.t 40), none⟩])
    (.seq (.reg [⟨.t 41, .mov (.p 6), none⟩,
    ⟨.t 42, .bin .shr (.t 41) (.c (.int .u64 4)), none⟩,
    ⟨.t 43, .idxArr 16 2 (.g G_utf8_acceptRanges) (.t 42), none⟩,
    ⟨.t 44, .loadN 2 (.t 43), none⟩,
    ⟨.p 9, .alloc [.int .u8 0, .int .u8 0], none⟩,
    ⟨.no, .store 2 (.p 9) (.t 44), none⟩])
    (.seq (.seq (.reg [⟨.t 45, .mov (.p 4), none⟩,
    ⟨.t 46, .mov (.p 8), none⟩,
    ⟨.p 47, .bin .lss (.t 45) (.t 46), none⟩])
    (.cond (.p 47)
    (.seq (.reg [⟨.p 2, .mov (.c (.int .i32 65533)), none⟩,
    ⟨.p 3, .mov (.c (.int .i64 1)), none⟩])
    (.ret))
    (.skip)))
    (.seq (.reg [⟨.t 48, .mov (.p 0), none⟩,
    ⟨.t 49, .idxAddr 1 (.t 48) (.c (.int .i64 1)), none⟩,
    ⟨.t 50, .load1 (.t 49), none⟩,
    ⟨.p 10, .mov (.t 50), none⟩])
    (.seq (.seq (.reg [⟨.t 51, .mov (.p 10), none⟩,
    ⟨.t 52, .fieldAddr 0 (.p 9), none⟩,
    ⟨.t 53, .load1 (.t 52), none⟩,
    ⟨.t 54, .bin .lss (.t 51) (.t 53), none⟩,
    ⟨.t 55, .mov (.t 54), none⟩,
    ⟨.t 56, .fieldAddr 1 (.p 9), some (.t 55, false)⟩,
    ⟨.t 57, .load1 (.t 56), some (.t 55, false)⟩,
    ⟨.t 58, .mov (.p 10), some (.t 55, false)⟩,
    ⟨.t 59, .bin .lss (.t 57) (.t 58), some (.t 55, false)⟩,
    ⟨.p 60, .pick (.t 55) (.c (.bool true)) (.t 59), none⟩])
    (.cond (.p 60)
    (.seq (.reg [⟨.p 2, .mov (.c (.int .i32 65533)), none⟩,
    ⟨.p 3, .mov (.c (.int .i64 1)), none⟩])
    (.ret))
    (.skip)))
    (.seq (.seq (.reg [⟨.t 61, .mov (.p 8), none⟩,
    ⟨.p 62, .bin .leq (.t 61) (.c (.int .i64 2)), none⟩])
    (.cond (.p 62)
    (.seq (.reg [⟨.t 63, .mov (.p 5), none⟩,
    ⟨.t 64, .bin .and (.t 63) (.c (.int .u8 31)), none⟩,
    ⟨.t 65, .convI .i32 (.t 64), none⟩,
    ⟨.t 66, .bin .shl (.t 65) (.c (.int .u64 6)), none⟩,
    ⟨.t 67, .mov (.p 10), none⟩,
    ⟨.t 68, .bin .and (.t 67) (.c (.int .u8 63)), none⟩,
    ⟨.t 69, .convI .i32 (.t 68), none⟩,
    ⟨.t 70, .bin .or (.t 66) (.t 69), none⟩,
    ⟨.p 2, .mov (.t 70), none⟩,
    ⟨.p 3, .mov (.c (.int .i64 2)), none⟩])
    (.ret))
    (.skip)))
    (.seq (.reg [⟨.t 71, .mov (.p 0), none⟩,
    ⟨.t 72, .idxAddr 1 (.t 71) (.c (.int .i64 2)), none⟩,
    ⟨.t 73, .load1 (.t 72), none⟩,
    ⟨.p 11, .mov (.t 73), none⟩])
    (.seq (.seq (.reg [⟨.t 74, .mov (.p 11), none⟩,
    ⟨.t 75, .bin .lss (.t 74) (.c (.int .u8 128)), none⟩,
    ⟨.t 76, .mov (.t 75), none⟩,
    ⟨.t 77, .mov (.p 11), some (.t 76, false)⟩,
    ⟨.t 78, .bin .lss (.c (.int .u8 191)) (.t 77), some (.t 76, false)⟩,
    ⟨.p 79, .pick (.t 76) (.c (.bool true)) (.t 78), none⟩])
    (.cond (.p 79)
    (.seq (.reg [⟨.p 2, .mov (.c (.int .i32 65533)), none⟩,
    ⟨.p 3, .mov (.c (.int .i64 1)), none⟩])
    (.ret))
    (.skip)))
    (.seq (.seq (.reg [⟨.t 80, .mov (.p 8), none⟩,
    ⟨.p 81, .bin .leq (.t 80) (.c (.int .i64 3)), none⟩])
    (.cond (.p 81)
    (.seq (.reg [⟨.t 82, .mov (.p 5), none⟩,
    ⟨.t 83, .bin .and (.t 82) (.c (.int .u8 15)), none⟩,
    ⟨.t 84, .convI .i32 (.t 83), none⟩,
    ⟨.t 85, .bin .shl (.t 84) (.c (.int .u64 12)), none⟩,
    ⟨.t 86, .mov (.p 10), none⟩,
    ⟨.t 87, .bin .and (.t 86) (.c (.int .u8 63)), none⟩,
    ⟨.t 88, .convI .i32 (.t 87), none⟩,
    ⟨.t 89, .bin .shl (.t 88) (.c (.int .u64 6)), none⟩,
    ⟨.t 90, .bin .or (.t 85) (.t 89), none⟩,
    ⟨.t 91, .mov (.p 11), none⟩,
    ⟨.t 92, .bin .and (.t 91) (.c (.int .u8 63)), none⟩,
    ⟨.t 93, .convI .i32 (.t 92), none⟩,
    ⟨.t 94, .bin .or (.t 90) (.t 93), none⟩,
    ⟨.p 2, .mov (.t 94), none⟩,
    ⟨.p 3, .mov (.c (.int .i64 3)), none⟩])
    (.ret))
    (.skip)))
    (.seq (.reg [⟨.t 95, .mov (.p 0), none⟩,
    ⟨.t 96, .idxAddr 1 (.t 95) (.c (.int .i64 3)), none⟩,
    ⟨.t 97, .load1 (.t 96), none⟩,
    ⟨.p 12, .mov (.t 97), none⟩])
    (.seq (.seq (.reg [⟨.t 98, .mov (.p 12), none⟩,
    ⟨.t 99, .bin .lss (.t 98) (.c (.int .u8 128)), none⟩,
    ⟨.t 100, .mov (.t 99), none⟩,
    ⟨.t 101, .mov (.p 12), some (.t 100, false)⟩,
    ⟨.t 102, .bin .lss (.c (.int .u8 191)) (.t 101), some (.t 100, false)⟩,
    ⟨.p 103, .pick (.t 100) (.c (.bool true)) (.t 102), none⟩])
    (.cond (.p 103)
    (.seq (.reg [⟨.p 2, .mov (.c (.int .i32 65533)), none⟩,
    ⟨.p 3, .mov (.c (.int .i64 1)), none⟩])
    (.ret))
    (.skip)))
    (.seq (.reg [⟨.t 104, .mov (.p 5), none⟩,
    ⟨.t 105, .bin .and (.t 104) (.c (.int .u8 7)), none⟩,
    ⟨.t 106, .convI .i32 (.t 105), none⟩,
    ⟨.t 107, .bin .shl (.t 106) (.c (.int .u64 18)), none⟩,
    ⟨.t 108, .mov (.p 10), none⟩,
    ⟨.t 109, .bin .and (.t 108) (.c (.int .u8 63)), none⟩,
    ⟨.t 110, .convI .i32 (.t 109), none⟩,
    ⟨.t 111, .bin .shl (.t 110) (.c (.int .u64 12)), none⟩,
    ⟨.t 112, .bin .or (.t 107) (.t 111), none⟩,
    ⟨.t 113, .mov (.p 11), none⟩,
    ⟨.t 114, .bin .and (.t 113) (.c (.int .u8 63)), none⟩,
    ⟨.t 115, .convI .i32 (.t 114), none⟩,
    ⟨.t 116, .bin .shl (.t 115) (.c (.int .u64 6)), none⟩,
    ⟨.t 117, .bin .or (.t 112) (.t 116), none⟩,
    ⟨.t 118, .mov (.p 12), none⟩,
    ⟨.t 119, .bin .and (.t 118) (.c (.int .u8 63)), none⟩,
    ⟨.t 120, .convI .i32 (.t 119), none⟩,
    ⟨.t 121, .bin .or (.t 117) (.t 120), none⟩,
    ⟨.p 2, .mov (.t 121), none⟩,
    ⟨.p 3, .mov (.c (.int .i64 4)), none⟩])
    (.ret))))))))))))))))))
def cf_utf8_decodeRuneSlow : CFunc :=
{ nargs := 1, ps := [0, 2, 3, 4, 5, 6, 7, 8, 9, 10, 11, 12, 16, 24, 47, 60, 62, 79, 81, 103], results := [.slot 2, .slot 3], body := bd_utf8_decodeRuneSlow }

/- gobo/runes.number -/
def bd_runes_number : CCode :=
 .seq (.reg [⟨.p 2, .mov (.c (.int .i64 0)), none⟩])
    (.seq (.block 0 [0]
    (.seq (.reg [⟨.t 4, .mov (.p 0), none⟩,
    ⟨.t 5, .bin .lss (.t 4) (.c (.int .i32 0)), none⟩,
    ⟨.p 3, .mov (.t 5), none⟩])
    (.cond (.p 3)
    (.seq (.reg [⟨.p 2, .mov (.c (.int .i64 0)), none⟩])
    (.ret))
    (.seq (.reg [⟨.t 7, .mov (.p 0), none⟩,
    ⟨.t 8, .bin .lss (.t 7) (.c (.int .i32 55296)), none⟩,
    ⟨.p 6, .mov (.t 8), none⟩])
    (.cond (.p 6)
    (.seq (.reg [⟨.t 9, .mov (.p 0), none⟩,
    ⟨.t 10, .convI .i64 (.t 9), none⟩,
    ⟨.p 2, .mov (.t 10), none⟩])
    (.ret))
    (.seq (.reg [⟨.t 12, .mov (.p 0), none⟩,
    ⟨.t 13, .bin .leq (.t 12) (.c (.int .i32 57343)), none⟩,
    ⟨.p 11, .mov (.t 13), none⟩])
    (.cond (.p 11)
    (.seq (.reg [⟨.p 2, .mov (.c (.int .i64 55296)), none⟩])
    (.ret))
    (.skip))))))))
    (.seq (.reg [⟨.t 14, .mov (.p 0), none⟩,
    ⟨.t 15, .convI .i64 (.t 14), none⟩,
    ⟨.t 16, .minmax false [.t 15, .c (.int .i64 1114112)], none⟩,
    ⟨.t 17, .bin .sub (.t 16) (.c (.int .i64 2048)), none⟩,
    ⟨.p 2, .mov (.t 17), none⟩])
    (.ret)))
def cf_runes_number : CFunc :=
{ nargs := 1, ps := [0, 2, 3, 6, 11], results := [.slot 2], body := bd_runes_number }

/- gobo/runes.behind -/
def bd_runes_behind : CCode :=
 .seq (.reg [⟨.p 2, .mov (.c (.int .i64 0)), none⟩])
    (.seq (.reg [⟨.t 4, .mov (.p 0), none⟩,
    ⟨.t 5, .call F_runes_number [.t 4], none⟩,
    ⟨.p 3, .mov (.t 5), none⟩])
    (.seq (.seq (.reg [⟨.t 6, .mov (.p 0), none⟩,
    ⟨.p 7, .call F_runes_is [.t 6], none⟩])
    (.cond (.p 7)
    (.reg [⟨.t 8, .mov (.p 3), none⟩,
    ⟨.t 9, .bin .add (.t 8) (.c (.int .i64 1)), none⟩,
    ⟨.p 3, .mov (.t 9), none⟩])
    (.skip)))
    (.seq (.reg [⟨.t 10, .mov (.p 3), none⟩,
    ⟨.p 2, .mov (.t 10), none⟩])
    (.ret))))
def cf_runes_behind : CFunc :=
{ nargs := 1, ps := [0, 2, 3, 7], results := [.slot 2], body := bd_runes_behind }

/- slices.SortFunc[[]gobo/runes.span,gobo/runes.span] -/
def bd_slices_SortFunc_runes_span_runes_span : CCode :=
 .seq (.reg [⟨.t 5, .mov (.p 0), none⟩,
    ⟨.t 6, .lenSl (.t 5), none⟩,
    ⟨.p 4, .mov (.t 6), none⟩])
    (.reg [⟨.t 7, .mov (.p 0), none⟩,
    ⟨.t 8, .mov (.p 4), none⟩,
    ⟨.t 9, .mov (.p 4), none⟩,
    ⟨.t 10, .convI .u64 (.t 9), none⟩,
    ⟨.t 11, .call F_bits_Len [.t 10], none⟩,
    ⟨.t 12, .mov (.p 1), none⟩,
    ⟨.t 13, .call F_slices_pdqsortCmpFunc_runes_span [.t 7, .c (.int .i64 0), .t 8, .t 11, .t 12], none⟩])
def cf_slices_SortFunc_runes_span_runes_span : CFunc :=
{ nargs := 2, ps := [0, 1, 4], results := [], body := bd_slices_SortFunc_runes_span_runes_span }

/- gobo/runes.spans$1 -/
def bd_runes_spans_1 : CCode :=
 .seq (.reg [⟨.p 2, .box (.p 0), none⟩,
    ⟨.p 3, .box (.p 1), none⟩,
    ⟨.p 4, .mov (.c (.int .i64 0)), none⟩])
    (.seq (.reg [⟨.t 5, .fieldAddr 0 (.p 2), none⟩,
    ⟨.t 6, .load1 (.t 5), none⟩,
    ⟨.t 7, .fieldAddr 0 (.p 3), none⟩,
    ⟨.t 8, .load1 (.t 7), none⟩,
    ⟨.t 9, .call F_cmp_Compare_int [.t 6, .t 8], none⟩,
    ⟨.p 4, .mov (.t 9), none⟩])
    (.ret))
def cf_runes_spans_1 : CFunc :=
{ nargs := 2, ps := [0, 1, 2, 3, 4], results := [.slot 4], body := bd_runes_spans_1 }

/- cmp.Compare[int] -/
def bd_cmp_Compare_int : CCode :=
 .seq (.reg [⟨.p 4, .mov (.c (.int .i64 0)), none⟩])
    (.seq (.reg [⟨.t 7, .mov (.p 0), none⟩,
    ⟨.t 8, .call F_cmp_isNaN_int [.t 7], none⟩,
    ⟨.p 5, .mov (.t 8), none⟩])
    (.seq (.reg [⟨.t 9, .mov (.p 1), none⟩,
    ⟨.t 10, .call F_cmp_isNaN_int [.t 9], none⟩,
    ⟨.p 6, .mov (.t 10), none⟩])
    (.seq (.seq (.reg [⟨.p 11, .mov (.p 5), none⟩])
    (.cond (.p 11)
    (.seq (.seq (.reg [⟨.p 12, .mov (.p 6), none⟩])
    (.cond (.p 12)
    (.seq (.reg [⟨.p 4, .mov (.c (.int .i64 0)), none⟩])
    (.ret))
    (.skip)))
    (.seq (.reg [⟨.p 4, .mov (.c (.int .i64 (-1))), none⟩])
    (.ret)))
    (.skip)))
    (.seq (.seq (.reg [⟨.p 13, .mov (.p 6), none⟩])
    (.cond (.p 13)
    (.seq (.reg [⟨.p 4, .mov (.c (.int .i64 1)), none⟩])
    (.ret))
    (.skip)))
    (.seq (.seq (.reg [⟨.t 14, .mov (.p 0), none⟩,
    ⟨.t 15, .mov (.p 1), none⟩,
    ⟨.p 16, .bin .lss (.t 14) (.t 15), none⟩])
    (.cond (.p 16)
    (.seq (.reg [⟨.p 4, .mov (.c (.int .i64 (-1))), none⟩])
    (.ret))
    (.skip)))
    (.seq (.seq (.reg [⟨.t 17, .mov (.p 0), none⟩,
    ⟨.t 18, .mov (.p 1), none⟩,
    ⟨.p 19, .bin .gtr (.t 17) (.t 18), none⟩])
    (.cond (.p 19)
    (.seq (.reg [⟨.p 4, .mov (.c (.int .i64 1)), none⟩])
    (.ret))
    (.skip)))
    (.seq (.reg [⟨.p 4, .mov (.c (.int .i64 0)), none⟩])
    (.ret))))))))
def cf_cmp_Compare_int : CFunc :=
{ nargs := 2, ps := [0, 1, 4, 5, 6, 11, 12, 13, 16, 19], results := [.slot 4], body := bd_cmp_Compare_int }

/- gobo/runes.value -/
def bd_runes_value : CCode :=
 .seq (.reg [⟨.p 2, .mov (.c (.int .i32 0)), none⟩])
    (.seq (.seq (.reg [⟨.t 3, .mov (.p 0), none⟩,
    ⟨.p 4, .bin .lss (.t 3) (.c (.int .i64 55296)), none⟩])
    (.cond (.p 4)
    (.seq (.reg [⟨.t 5, .mov (.p 0), none⟩,
    ⟨.t 6, .convI .i32 (.t 5), none⟩,
    ⟨.p 2, .mov (.t 6), none⟩])
    (.ret))
    (.skip)))
    (.seq (.reg [⟨.t 7, .mov (.p 0), none⟩,
    ⟨.t 8, .bin .add (.t 7) (.c (.int .i64 2048)), none⟩,
    ⟨.t 9, .convI .i32 (.t 8), none⟩,
    ⟨.p 2, .mov (.t 9), none⟩])
    (.ret)))
def cf_runes_value : CFunc :=
{ nargs := 1, ps := [0, 2, 4], results := [.slot 2], body := bd_runes_value }

/- gobo/word.hex -/
def bd_word_hex : CCode :=
 .seq (.reg [⟨.p 2, .mov (.c (.int .i32 0)), none⟩])
    (.seq (.block 0 []
    (.seq (.reg [⟨.t 4, .mov (.p 0), none⟩,
    ⟨.t 5, .bin .geq (.t 4) (.c (.int .i32 48)), none⟩,
    ⟨.t 6, .mov (.t 5), none⟩,
    ⟨.t 7, .mov (.p 0), some (.t 6, true)⟩,
    ⟨.t 8, .bin .leq (.t 7) (.c (.int .i32 57)), some (.t 6, true)⟩,
    ⟨.t 9, .pick (.t 6) (.t 8) (.c (.bool false)), none⟩,
    ⟨.p 3, .mov (.t 9), none⟩])
    (.cond (.p 3)
    (.seq (.reg [⟨.t 10, .mov (.p 0), none⟩,
    ⟨.t 11, .bin .sub (.t 10) (.c (.int .i32 48)), none⟩,
    ⟨.p 2, .mov (.t 11), none⟩])
    (.ret))
    (.seq (.reg [⟨.t 13, .mov (.p 0), none⟩,
    ⟨.t 14, .bin .geq (.t 13) (.c (.int .i32 65)), none⟩,
    ⟨.t 15, .mov (.t 14), none⟩,
    ⟨.t 16, .mov (.p 0), some (.t 15, true)⟩,
    ⟨.t 17, .bin .leq (.t 16) (.c (.int .i32 70)), some (.t 15, true)⟩,
    ⟨.t 18, .pick (.t 15) (.t 17) (.c (.bool false)), none⟩,
    ⟨.p 12, .mov (.t 18), none⟩])
    (.cond (.p 12)
    (.seq (.reg [⟨.t 19, .mov (.p 0), none⟩,
    ⟨.t 20, .bin .sub (.t 19) (.c (.int .i32 65)), none⟩,
    ⟨.t 21, .bin .add (.t 20) (.c (.int .i32 10)), none⟩,
    ⟨.p 2, .mov (.t 21), none⟩])
    (.ret))
    (.skip))))))
    (.seq (.reg [⟨.p 2, .mov (.c (.int .i32 (-1))), none⟩])
    (.ret)))
def cf_word_hex : CFunc :=
{ nargs := 1, ps := [0, 2, 3, 12], results := [.slot 2], body := bd_word_hex }

/- internal/strconv.Atoi -/
def lb_strconv_Atoi_104_0 : CCode :=
 .seq (.reg [⟨.p 50, .bin .lss (.p 49) (.p 48), none⟩])
    (.seq (.cond (.p 50)
    (.skip)
    (.exit 0))
    (.seq (.block 1 [5, 6, 47, 48, 49]
    (.seq (.reg [⟨.t 51, .idxAddr 1 (.p 47) (.p 49), none⟩,
    ⟨.t 52, .load1 (.t 51), none⟩,
    ⟨.p 8, .mov (.t 52), none⟩])
    (.seq (.reg [⟨.t 53, .mov (.p 8), none⟩,
    ⟨.t 54, .bin .sub (.t 53) (.c (.int .u8 48)), none⟩,
    ⟨.p 8, .mov (.t 54), none⟩])
    (.seq (.seq (.reg [⟨.t 55, .mov (.p 8), none⟩,
    ⟨.p 56, .bin .gtr (.t 55) (.c (.int .u8 9)), none⟩])
    (.cond (.p 56)
    (.seq (.reg [⟨.t 57, .mkIface T_strconv_Error (.c (.int .i64 2)), none⟩,
    ⟨.p 2, .mov (.c (.int .i64 0)), none⟩,
    ⟨.p 3, .mov (.t 57), none⟩])
    (.ret))
    (.skip)))
    (.reg [⟨.t 58, .mov (.p 6), none⟩,
    ⟨.t 59, .bin .mul (.t 58) (.c (.int .i64 10)), none⟩,
    ⟨.t 60, .mov (.p 8), none⟩,
    ⟨.t 61, .convI .i64 (.t 60), none⟩,
    ⟨.t 62, .bin .add (.t 59) (.t 61), none⟩,
    ⟨.p 6, .mov (.t 62), none⟩])))))
    (.reg [⟨.t 63, .bin .add (.p 49) (.c (.int .i64 1)), none⟩,
    ⟨.p 49, .mov (.t 63), none⟩])))
def bd_strconv_Atoi_104 : CCode :=
 .seq (.reg [⟨.p 2, .mov (.c (.int .i64 0)), none⟩,
    ⟨.p 3, .mov (.c (.nili)), none⟩])
    (.seq (.reg [⟨.t 11, .mov (.p 0), none⟩,
    ⟨.t 12, .lenStr (.t 11), none⟩,
    ⟨.p 4, .mov (.t 12), none⟩])
    (.seq (.seq (.reg [⟨.t 13, .mov (.c (.bool false)), none⟩,
    ⟨.t 14, .mov (.p 4), some (.t 13, true)⟩,
    ⟨.t 15, .bin .lss (.c (.int .i64 0)) (.t 14), some (.t 13, true)⟩,
    ⟨.t 16, .mov (.t 15), some (.t 13, true)⟩,
    ⟨.t 17, .mov (.p 4), some (.t 16, true)⟩,
    ⟨.t 18, .bin .lss (.t 17) (.c (.int .i64 10)), some (.t 16, true)⟩,
    ⟨.t 19, .pick (.t 16) (.t 18) (.c (.bool false)), some (.t 13, true)⟩,
    ⟨.t 20, .pick (.t 13) (.t 19) (.c (.bool false)), none⟩,
    ⟨.t 21, .mov (.t 20), none⟩,
    ⟨.t 22, .mov (.c (.bool true)), some (.t 21, false)⟩,
    ⟨.t 23, .mov (.p 4), some (.t 22, true)⟩,
    ⟨.t 24, .bin .lss (.c (.int .i64 0)) (.t 23), some (.t 22, true)⟩,
    ⟨.t 25, .mov (.t 24), some (.t 22, true)⟩,
    ⟨.t 26, .mov (.p 4), some (.t 25, true)⟩,
    ⟨.t 27, .bin .lss (.t 26) (.c (.int .i64 19)), some (.t 25, true)⟩,
    ⟨.t 28, .pick (.t 25) (.t 27) (.c (.bool false)), some (.t 22, true)⟩,
    ⟨.t 29, .pick (.t 22) (.t 28) (.c (.bool false)), some (.t 21, false)⟩,
    ⟨.p 30, .pick (.t 21) (.c (.bool true)) (.t 29), none⟩])
    (.cond (.p 30)
    (.seq (.reg [⟨.t 31, .mov (.p 0), none⟩,
    ⟨.p 5, .mov (.t 31), none⟩])
    (.seq (.seq (.reg [⟨.t 32, .mov (.p 0), none⟩,
    ⟨.t 33, .idxStr (.t 32) (.c (.int .i64 0)), none⟩,
    ⟨.t 34, .bin .eql (.t 33) (.c (.int .u8 45)), none⟩,
    ⟨.t 35, .mov (.t 34), none⟩,
    ⟨.t 36, .mov (.p 0), some (.t 35, false)⟩,
    ⟨.t 37, .idxStr (.t 36) (.c (.int .i64 0)), some (.t 35, false)⟩,
    ⟨.t 38, .bin .eql (.t 37) (.c (.int .u8 43)), some (.t 35, false)⟩,
    ⟨.p 39, .pick (.t 35) (.c (.bool true)) (.t 38), none⟩])
    (.cond (.p 39)
    (.seq (.reg [⟨.t 40, .mov (.p 0), none⟩,
    ⟨.t 41, .sliceStr (.t 40) (some (.c (.int .i64 1))) none, none⟩,
    ⟨.p 0, .mov (.t 41), none⟩])
    (.seq (.reg [⟨.t 42, .mov (.p 0), none⟩,
    ⟨.t 43, .lenStr (.t 42), none⟩,
    ⟨.p 44, .bin .lss (.t 43) (.c (.int .i64 1)), none⟩])
    (.cond (.p 44)
    (.seq (.reg [⟨.t 45, .mkIface T_strconv_Error (.c (.int .i64 2)), none⟩,
    ⟨.p 2, .mov (.c (.int .i64 0)), none⟩,
    ⟨.p 3, .mov (.t 45), none⟩])
    (.ret))
    (.skip))))
    (.skip)))
    (.seq (.reg [⟨.p 6, .mov (.c (.int .i64 0)), none⟩])
    (.seq (.seq (.reg [⟨.t 46, .mov (.p 0), none⟩,
    ⟨.p 47, .strBytes (.t 46), none⟩,
    ⟨.p 48, .lenSl (.p 47), none⟩,
    ⟨.p 49, .mov (.c (.int .i64 0)), none⟩])
    (.block 0 [5, 6]
    (.loop [5, 6, 47, 48, 49] lb_strconv_Atoi_104_0)))
    (.seq (.seq (.reg [⟨.t 64, .mov (.p 5), none⟩,
    ⟨.t 65, .idxStr (.t 64) (.c (.int .i64 0)), none⟩,
    ⟨.p 66, .bin .eql (.t 65) (.c (.int .u8 45)), none⟩])
    (.cond (.p 66)
    (.reg [⟨.t 67, .mov (.p 6), none⟩,
    ⟨.t 68, .un .neg (.t 67), none⟩,
    ⟨.p 6, .mov (.t 68), none⟩])
    (.skip)))
    (.seq (.reg [⟨.t 69, .mov (.p 6), none⟩,
    ⟨.p 2, .mov (.t 69), none⟩,
    ⟨.p 3, .mov (.c (.nili)), none⟩])
    (.ret)))))))
    (.skip)))
    (.seq (.reg [⟨.t 71, .mov (.p 0), none⟩,
    ⟨.t 72, .call F_strconv_ParseInt [.t 71, .c (.int .i64 10), .c (.int .i64 0)], none⟩,
    ⟨.t 70, .mov (.t 72), none⟩,
    ⟨.t 73, .extract (.t 70) 0, none⟩,
    ⟨.t 74, .extract (.t 70) 1, none⟩,
    ⟨.p 9, .mov (.t 73), none⟩,
    ⟨.p 10, .mov (.t 74), none⟩])
    (.seq (.reg [⟨.t 75, .mov (.p 9), none⟩,
    ⟨.t 76, .mov (.p 10), none⟩,
    ⟨.p 2, .mov (.t 75), none⟩,
    ⟨.p 3, .mov (.t 76), none⟩])
    (.ret)))))
def cf_strconv_Atoi_104 : CFunc :=
{ nargs := 1, ps := [0, 2, 3, 4, 5, 6, 8, 9, 10, 30, 39, 44, 47, 48, 49, 50, 56, 66], results := [.slot 2, .slot 3], body := bd_strconv_Atoi_104 }

/- (*gobo/parse.source).post -/
def lb_parse_source_post_0 : CCode :=
 .seq (.seq (.reg [⟨.t 6, .mov (.p 0), none⟩,
    ⟨.p 7, .call F_parse_source_skip [.t 6, .c (.str [42])], none⟩])
    (.cond (.p 7)
    (.skip)
    (.exit 0)))
    (.block 1 [0, 2, 3]
    (.reg [⟨.t 8, .loadN 4 (.p 3), none⟩,
    ⟨.t 9, .lit [.int .i64 0, .nils, .nils, .nils] 1 [(0, 4, .t 8)], none⟩,
    ⟨.t 10, .build [.int .i64 0, .nils, .nils, .nils] [(0, 1, .c (.int .i64 7)), (3, 1, .t 9)], none⟩,
    ⟨.no, .store 4 (.p 3) (.t 10), none⟩]))
def bd_parse_source_post : CCode :=
 .seq (.reg [⟨.p 2, .alloc [.int .i64 0, .nils, .nils, .nils], none⟩])
    (.seq (.reg [⟨.t 4, .mov (.p 0), none⟩,
    ⟨.t 5, .call F_parse_source_atom [.t 4], none⟩,
    ⟨.p 3, .alloc [.int .i64 0, .nils, .nils, .nils], none⟩,
    ⟨.no, .store 4 (.p 3) (.t 5), none⟩])
    (.seq (.block 0 [2, 3]
    (.loop [0, 2, 3] lb_parse_source_post_0))
    (.seq (.reg [⟨.t 11, .loadN 4 (.p 3), none⟩,
    ⟨.no, .store 4 (.p 2) (.t 11), none⟩])
    (.ret))))
def cf_parse_source_post : CFunc :=
{ nargs := 1, ps := [0, 2, 3, 7], results := [.cellN 2 4], body := bd_parse_source_post }

/- (*gobo/parse.source).begins -/
def bd_parse_source_begins : CCode :=
 .seq (.reg [⟨.p 2, .mov (.c (.bool false)), none⟩])
    (.seq (.reg [⟨.t 3, .mov (.p 0), none⟩,
    ⟨.t 4, .call F_parse_source_is [.t 3, .c (.str [123])], none⟩,
    ⟨.t 5, .mov (.t 4), none⟩,
    ⟨.t 6, .mov (.p 0), some (.t 5, false)⟩,
    ⟨.t 7, .call F_parse_source_is [.t 6, .c (.str [95])], some (.t 5, false)⟩,
    ⟨.t 8, .pick (.t 5) (.c (.bool true)) (.t 7), none⟩,
    ⟨.t 9, .mov (.t 8), none⟩,
    ⟨.t 10, .mov (.p 0), some (.t 9, false)⟩,
    ⟨.t 11, .call F_parse_source_is [.t 10, .c (.str [40])], some (.t 9, false)⟩,
    ⟨.t 12, .pick (.t 9) (.c (.bool true)) (.t 11), none⟩,
    ⟨.t 13, .mov (.t 12), none⟩,
    ⟨.t 14, .mov (.p 0), some (.t 13, false)⟩,
    ⟨.t 15, .call F_parse_source_is [.t 14, .c (.str [60])], some (.t 13, false)⟩,
    ⟨.t 16, .pick (.t 13) (.c (.bool true)) (.t 15), none⟩,
    ⟨.p 2, .mov (.t 16), none⟩])
    (.ret))
def cf_parse_source_begins : CFunc :=
{ nargs := 1, ps := [0, 2], results := [.slot 2], body := bd_parse_source_begins }

/- slices.Index[[]string,string] -/
def lb_slices_Index_string_string_0 : CCode :=
 .seq (.reg [⟨.p 9, .bin .lss (.p 8) (.p 7), none⟩])
    (.seq (.cond (.p 9)
    (.skip)
    (.exit 0))
    (.seq (.block 1 [0, 1, 7, 8]
    (.seq (.reg [⟨.t 10, .mov (.p 8), none⟩,
    ⟨.p 5, .mov (.t 10), none⟩])
    (.seq (.reg [⟨.t 11, .mov (.p 1), none⟩,
    ⟨.t 12, .mov (.p 0), none⟩,
    ⟨.t 13, .mov (.p 5), none⟩,
    ⟨.t 14, .idxAddr 1 (.t 12) (.t 13), none⟩,
    ⟨.t 15, .load1 (.t 14), none⟩,
    ⟨.p 16, .bin .eql (.t 11) (.t 15), none⟩])
    (.cond (.p 16)
    (.seq (.reg [⟨.t 17, .mov (.p 5), none⟩,
    ⟨.p 4, .mov (.t 17), none⟩])
    (.ret))
    (.skip)))))
    (.reg [⟨.t 18, .bin .add (.p 8) (.c (.int .i64 1)), none⟩,
    ⟨.p 8, .mov (.t 18), none⟩])))
def bd_slices_Index_string_string : CCode :=
 .seq (.reg [⟨.p 4, .mov (.c (.int .i64 0)), none⟩])
    (.seq (.seq (.reg [⟨.t 6, .mov (.p 0), none⟩,
    ⟨.p 7, .lenSl (.t 6), none⟩,
    ⟨.p 8, .mov (.c (.int .i64 0)), none⟩])
    (.block 0 []
    (.loop [0, 1, 7, 8] lb_slices_Index_string_string_0)))
    (.seq (.reg [⟨.p 4, .mov (.c (.int .i64 (-1))), none⟩])
    (.ret)))
def cf_slices_Index_string_string : CFunc :=
{ nargs := 2, ps := [0, 1, 4, 5, 7, 8, 9, 16], results := [.slot 4], body := bd_slices_Index_string_string }

/- gobo/regex.within$1 -/
def bd_regex_within_1 : CCode :=
 .seq (.reg [⟨.p 4, .box (.p 0), none⟩,
    ⟨.p 5, .box (.p 1), none⟩,
    ⟨.p 6, .mov (.c (.bool false)), none⟩])
    (.seq (.reg [⟨.t 7, .load1 (.p 2), none⟩,
    ⟨.t 8, .bin .sub (.t 7) (.c (.int .i64 1)), none⟩,
    ⟨.no, .store 1 (.p 2) (.t 8), none⟩])
    (.seq (.reg [⟨.t 9, .load1 (.p 2), none⟩,
    ⟨.t 10, .bin .geq (.t 9) (.c (.int .i64 0)), none⟩,
    ⟨.t 11, .mov (.t 10), none⟩,
    ⟨.t 12, .load1 (.p 5), some (.t 11, true)⟩,
    ⟨.t 13, .bin .leq (.t 12) (.c (.int .i64 12)), some (.t 11, true)⟩,
    ⟨.t 14, .pick (.t 11) (.t 13) (.c (.bool false)), none⟩,
    ⟨.t 15, .mov (.t 14), none⟩,
    ⟨.t 16, .fieldAddr 2 (.p 4), some (.t 15, true)⟩,
    ⟨.t 17, .load1 (.t 16), some (.t 15, true)⟩,
    ⟨.t 18, .mkFn F_regex_within_1_1 [.p 3, .p 5], some (.t 15, true)⟩,
    ⟨.t 19, .call F_slices_ContainsFunc_api_Re_api_Re [.t 17, .t 18], some (.t 15, true)⟩,
    ⟨.t 20, .un .not (.t 19), some (.t 15, true)⟩,
    ⟨.t 21, .pick (.t 15) (.t 20) (.c (.bool false)), none⟩,
    ⟨.p 6, .mov (.t 21), none⟩])
    (.ret)))
def cf_regex_within_1 : CFunc :=
{ nargs := 4, ps := [0, 1, 2, 3, 4, 5, 6], results := [.slot 6], body := bd_regex_within_1 }

/- slices.ContainsFunc[[]gobo/api.Re,gobo/api.Re] -/
def bd_slices_ContainsFunc_api_Re_api_Re : CCode :=
 .seq (.reg [⟨.p 4, .mov (.c (.bool false)), none⟩])
    (.seq (.reg [⟨.t 5, .mov (.p 0), none⟩,
    ⟨.t 6, .mov (.p 1), none⟩,
    ⟨.t 7, .call F_slices_IndexFunc_api_Re_api_Re [.t 5, .t 6], none⟩,
    ⟨.t 8, .bin .geq (.t 7) (.c (.int .i64 0)), none⟩,
    ⟨.p 4, .mov (.t 8), none⟩])
    (.ret))
def cf_slices_ContainsFunc_api_Re_api_Re : CFunc :=
{ nargs := 2, ps := [0, 1, 4], results := [.slot 4], body := bd_slices_ContainsFunc_api_Re_api_Re }

/- gobo/regex.within$1$1 -/
def bd_regex_within_1_1 : CCode :=
 .seq (.reg [⟨.p 3, .box (.p 0), none⟩,
    ⟨.p 4, .mov (.c (.bool false)), none⟩])
    (.seq (.reg [⟨.t 5, .load1 (.p 1), none⟩,
    ⟨.t 6, .loadN 3 (.p 3), none⟩,
    ⟨.t 7, .load1 (.p 2), none⟩,
    ⟨.t 8, .bin .add (.t 7) (.c (.int .i64 1)), none⟩,
    ⟨.t 9, .callV (.t 5) [.t 6, .t 8], none⟩,
    ⟨.t 10, .un .not (.t 9), none⟩,
    ⟨.p 4, .mov (.t 10), none⟩])
    (.ret))
def cf_regex_within_1_1 : CFunc :=
{ nargs := 3, ps := [0, 1, 2, 3, 4], results := [.slot 4], body := bd_regex_within_1_1 }

/- gobo/regex.parts -/
def bd_regex_parts : CCode :=
 .seq (.reg [⟨.p 2, .mov (.c (.int .i64 0)), none⟩])
    (.seq (.seq (.reg [⟨.p 3, .mov (.p 0), none⟩])
    (.block 0 []
    (.seq (.seq (.reg [⟨.t 5, .bin .eql (.p 3) (.c (.int .i64 0)), none⟩,
    ⟨.p 4, .mov (.t 5), none⟩])
    (.cond (.p 4)
    (.skip)
    (.seq (.reg [⟨.t 6, .bin .eql (.p 3) (.c (.int .i64 1)), none⟩,
    ⟨.p 4, .mov (.t 6), none⟩])
    (.cond (.p 4)
    (.skip)
    (.reg [⟨.t 7, .bin .eql (.p 3) (.c (.int .i64 2)), none⟩,
    ⟨.p 4, .mov (.t 7), none⟩])))))
    (.cond (.p 4)
    (.seq (.reg [⟨.p 2, .mov (.c (.int .i64 0)), none⟩])
    (.ret))
    (.seq (.seq (.reg [⟨.t 9, .bin .eql (.p 3) (.c (.int .i64 3)), none⟩,
    ⟨.p 8, .mov (.t 9), none⟩])
    (.cond (.p 8)
    (.skip)
    (.reg [⟨.t 10, .bin .eql (.p 3) (.c (.int .i64 4)), none⟩,
    ⟨.p 8, .mov (.t 10), none⟩])))
    (.cond (.p 8)
    (.seq (.reg [⟨.p 2, .mov (.c (.int .i64 2)), none⟩])
    (.ret))
    (.seq (.reg [⟨.t 12, .bin .eql (.p 3) (.c (.int .i64 5)), none⟩,
    ⟨.p 11, .mov (.t 12), none⟩])
    (.cond (.p 11)
    (.seq (.reg [⟨.p 2, .mov (.c (.int .i64 1)), none⟩])
    (.ret))
    (.skip)))))))))
    (.seq (.reg [⟨.p 2, .mov (.c (.int .i64 (-1))), none⟩])
    (.ret)))
def cf_regex_parts : CFunc :=
{ nargs := 1, ps := [0, 2, 3, 4, 8, 11], results := [.slot 2], body := bd_regex_parts }

/- gobo/regex.may$1 -/
def bd_regex_may_1 : CCode :=
 .seq (.reg [⟨.p 1, .box (.p 0), none⟩,
    ⟨.p 2, .mov (.c (.bool false)), none⟩])
    (.seq (.reg [⟨.t 3, .loadN 3 (.p 1), none⟩,
    ⟨.t 4, .call F_regex_may [.t 3], none⟩,
    ⟨.t 5, .un .not (.t 4), none⟩,
    ⟨.p 2, .mov (.t 5), none⟩])
    (.ret))
def cf_regex_may_1 : CFunc :=
{ nargs := 1, ps := [0, 1, 2], results := [.slot 2], body := bd_regex_may_1 }

/- gobo/runes.May -/
def bd_runes_May : CCode :=
 .seq (.reg [⟨.p 2, .mov (.c (.bool false)), none⟩])
    (.seq (.reg [⟨.t 3, .mov (.p 0), none⟩,
    ⟨.t 4, .mov (.p 0), none⟩,
    ⟨.t 5, .call F_runes_Norm [.t 4], none⟩,
    ⟨.t 6, .call F_slices_Equal_api_Range_api_Range [.t 3, .t 5], none⟩,
    ⟨.p 2, .mov (.t 6), none⟩])
    (.ret))
def cf_runes_May : CFunc :=
{ nargs := 1, ps := [0, 2], results := [.slot 2], body := bd_runes_May }

/- gobo/gram.few$1 -/
def bd_gram_few_1 : CCode :=
 .seq (.reg [⟨.p 4, .box (.p 0), none⟩,
    ⟨.p 5, .box (.p 1), none⟩,
    ⟨.p 6, .mov (.c (.bool false)), none⟩])
    (.seq (.reg [⟨.t 7, .load1 (.p 2), none⟩,
    ⟨.t 8, .bin .sub (.t 7) (.c (.int .i64 1)), none⟩,
    ⟨.no, .store 1 (.p 2) (.t 8), none⟩])
    (.seq (.reg [⟨.t 9, .load1 (.p 2), none⟩,
    ⟨.t 10, .bin .geq (.t 9) (.c (.int .i64 0)), none⟩,
    ⟨.t 11, .mov (.t 10), none⟩,
    ⟨.t 12, .load1 (.p 5), some (.t 11, true)⟩,
    ⟨.t 13, .bin .leq (.t 12) (.c (.int .i64 12)), some (.t 11, true)⟩,
    ⟨.t 14, .pick (.t 11) (.t 13) (.c (.bool false)), none⟩,
    ⟨.t 15, .mov (.t 14), none⟩,
    ⟨.t 16, .fieldAddr 3 (.p 4), some (.t 15, true)⟩,
    ⟨.t 17, .load1 (.t 16), some (.t 15, true)⟩,
    ⟨.t 18, .mkFn F_gram_few_1_1 [.p 3, .p 5], some (.t 15, true)⟩,
    ⟨.t 19, .call F_slices_ContainsFunc_api_Pat_api_Pat [.t 17, .t 18], some (.t 15, true)⟩,
    ⟨.t 20, .un .not (.t 19), some (.t 15, true)⟩,
    ⟨.t 21, .pick (.t 15) (.t 20) (.c (.bool false)), none⟩,
    ⟨.p 6, .mov (.t 21), none⟩])
    (.ret)))
def cf_gram_few_1 : CFunc :=
{ nargs := 4, ps := [0, 1, 2, 3, 4, 5, 6], results := [.slot 6], body := bd_gram_few_1 }

/- slices.ContainsFunc[[]gobo/api.Pat,gobo/api.Pat] -/
def bd_slices_ContainsFunc_api_Pat_api_Pat : CCode :=
 .seq (.reg [⟨.p 4, .mov (.c (.bool false)), none⟩])
    (.seq (.reg [⟨.t 5, .mov (.p 0), none⟩,
    ⟨.t 6, .mov (.p 1), none⟩,
    ⟨.t 7, .call F_slices_IndexFunc_api_Pat_api_Pat [.t 5, .t 6], none⟩,
    ⟨.t 8, .bin .geq (.t 7) (.c (.int .i64 0)), none⟩,
    ⟨.p 4, .mov (.t 8), none⟩])
    (.ret))
def cf_slices_ContainsFunc_api_Pat_api_Pat : CFunc :=
{ nargs := 2, ps := [0, 1, 4], results := [.slot 4], body := bd_slices_ContainsFunc_api_Pat_api_Pat }

/- gobo/gram.few$1$1 -/
def bd_gram_few_1_1 : CCode :=
 .seq (.reg [⟨.p 3, .box (.p 0), none⟩,
    ⟨.p 4, .mov (.c (.bool false)), none⟩])
    (.seq (.reg [⟨.t 5, .load1 (.p 1), none⟩,
    ⟨.t 6, .loadN 4 (.p 3), none⟩,
    ⟨.t 7, .load1 (.p 2), none⟩,
    ⟨.t 8, .bin .add (.t 7) (.c (.int .i64 1)), none⟩,
    ⟨.t 9, .callV (.t 5) [.t 6, .t 8], none⟩,
    ⟨.t 10, .un .not (.t 9), none⟩,
    ⟨.p 4, .mov (.t 10), none⟩])
    (.ret))
def cf_gram_few_1_1 : CFunc :=
{ nargs := 3, ps := [0, 1, 2, 3, 4], results := [.slot 4], body := bd_gram_few_1_1 }

/- gobo/gram.shaped -/
def bd_gram_shaped : CCode :=
 .seq (.reg [⟨.p 1, .box (.p 0), none⟩,
    ⟨.p 2, .mov (.c (.bool false)), none⟩])
    (.seq (.reg [⟨.t 4, .fieldAddr 0 (.p 1), none⟩,
    ⟨.t 5, .load1 (.t 4), none⟩,
    ⟨.t 6, .bin .eql (.t 5) (.c (.int .i64 3)), none⟩,
    ⟨.p 3, .mov (.t 6), none⟩])
    (.seq (.dreg [⟨⟨.t 7, .fieldAddr 3 (.p 1), none⟩, false, false, []⟩,
    ⟨⟨.t 8, .load1 (.t 7), none⟩, true, false, []⟩,
    ⟨⟨.t 9, .lenSl (.t 8), none⟩, false, false, []⟩,
    ⟨⟨.t 10, .fieldAddr 0 (.p 1), none⟩, false, false, []⟩,
    ⟨⟨.t 11, .load1 (.t 10), none⟩, false, false, []⟩,
    ⟨⟨.t 12, .call F_gram_parts [.t 11], none⟩, false, false, [1]⟩,
    ⟨⟨.t 13, .bin .eql (.t 9) (.t 12), none⟩, false, false, []⟩,
    ⟨⟨.t 14, .mov (.t 13), none⟩, false, false, []⟩,
    ⟨⟨.t 15, .fieldAddr 1 (.p 1), some (.t 14, true)⟩, false, false, []⟩,
    ⟨⟨.t 16, .load1 (.t 15), some (.t 14, true)⟩, false, false, []⟩,
    ⟨⟨.t 17, .lenSl (.t 16), some (.t 14, true)⟩, false, false, []⟩,
    ⟨⟨.t 18, .bin .gtr (.t 17) (.c (.int .i64 0)), some (.t 14, true)⟩, false, false, []⟩,
    ⟨⟨.t 19, .mov (.p 3), some (.t 14, true)⟩, false, false, []⟩,
    ⟨⟨.t 20, .mov (.t 19), some (.t 14, true)⟩, false, false, []⟩,
    ⟨⟨.t 21, .fieldAddr 0 (.p 1), some (.t 20, false)⟩, false, false, []⟩,
    ⟨⟨.t 22, .load1 (.t 21), some (.t 20, false)⟩, false, false, []⟩,
    ⟨⟨.t 23, .bin .eql (.t 22) (.c (.int .i64 2)), some (.t 20, false)⟩, false, false, []⟩,
    ⟨⟨.t 24, .pick (.t 20) (.c (.bool true)) (.t 23), some (.t 14, true)⟩, false, false, []⟩,
    ⟨⟨.t 25, .eqv false .bool (.t 18) (.t 24), some (.t 14, true)⟩, false, false, []⟩,
    ⟨⟨.t 26, .pick (.t 14) (.t 25) (.c (.bool false)), none⟩, false, false, []⟩,
    ⟨⟨.t 27, .mov (.t 26), none⟩, false, false, []⟩,
    ⟨⟨.t 28, .fieldAddr 2 (.p 1), some (.t 27, true)⟩, false, false, []⟩,
    ⟨⟨.t 29, .load1 (.t 28), some (.t 27, true)⟩, false, false, []⟩,
    ⟨⟨.t 30, .lenSl (.t 29), some (.t 27, true)⟩, false, false, []⟩,
    ⟨⟨.t 31, .bin .gtr (.t 30) (.c (.int .i64 0)), some (.t 27, true)⟩, false, false, []⟩,
    ⟨⟨.t 32, .mov (.p 3), some (.t 27, true)⟩, false, false, []⟩,
    ⟨⟨.t 33, .eqv false .bool (.t 31) (.t 32), some (.t 27, true)⟩, false, false, []⟩,
    ⟨⟨.t 34, .pick (.t 27) (.t 33) (.c (.bool false)), none⟩, false, false, []⟩,
    ⟨⟨.p 2, .mov (.t 34), none⟩, false, false, []⟩])
    (.ret)))
def cf_gram_shaped : CFunc :=
{ nargs := 1, ps := [0, 1, 2, 3], results := [.slot 2], body := bd_gram_shaped }

/- gobo/decode.second -/
def bd_decode_second : CCode :=
 .seq (.reg [⟨.p 2, .mov (.c (.int .u8 0)), none⟩,
    ⟨.p 3, .mov (.c (.int .u8 0)), none⟩])
    (.seq (.seq (.reg [⟨.p 4, .mov (.p 0), none⟩])
    (.block 0 []
    (.seq (.reg [⟨.t 6, .bin .eql (.p 4) (.c (.int .u8 224)), none⟩,
    ⟨.p 5, .mov (.t 6), none⟩])
    (.cond (.p 5)
    (.seq (.reg [⟨.p 2, .mov (.c (.int .u8 160)), none⟩,
    ⟨.p 3, .mov (.c (.int .u8 191)), none⟩])
    (.ret))
    (.seq (.reg [⟨.t 8, .bin .eql (.p 4) (.c (.int .u8 237)), none⟩,
    ⟨.p 7, .mov (.t 8), none⟩])
    (.cond (.p 7)
    (.seq (.reg [⟨.p 2, .mov (.c (.int .u8 128)), none⟩,
    ⟨.p 3, .mov (.c (.int .u8 159)), none⟩])
    (.ret))
    (.seq (.reg [⟨.t 10, .bin .eql (.p 4) (.c (.int .u8 240)), none⟩,
    ⟨.p 9, .mov (.t 10), none⟩])
    (.cond (.p 9)
    (.seq (.reg [⟨.p 2, .mov (.c (.int .u8 144)), none⟩,
    ⟨.p 3, .mov (.c (.int .u8 191)), none⟩])
    (.ret))
    (.seq (.reg [⟨.t 12, .bin .eql (.p 4) (.c (.int .u8 244)), none⟩,
    ⟨.p 11, .mov (.t 12), none⟩])
    (.cond (.p 11)
    (.seq (.reg [⟨.p 2, .mov (.c (.int .u8 128)), none⟩,
    ⟨.p 3, .mov (.c (.int .u8 143)), none⟩])
    (.ret))
    (.skip)))))))))))
    (.seq (.reg [⟨.p 2, .mov (.c (.int .u8 128)), none⟩,
    ⟨.p 3, .mov (.c (.int .u8 191)), none⟩])
    (.ret)))
def cf_decode_second : CFunc :=
{ nargs := 1, ps := [0, 2, 3, 4, 5, 7, 9, 11], results := [.slot 2, .slot 3], body := bd_decode_second }

/- slices.Clone[[]byte,byte] -/
def bd_slices_Clone_byte_byte : CCode :=
 .seq (.reg [⟨.p 2, .mov (.c (.nils)), none⟩])
    (.seq (.seq (.reg [⟨.t 3, .mov (.p 0), none⟩,
    ⟨.p 4, .eqv false .slice (.t 3) (.c (.nils)), none⟩])
    (.cond (.p 4)
    (.seq (.reg [⟨.p 2, .mov (.c (.nils)), none⟩])
    (.ret))
    (.skip)))
    (.seq (.reg [⟨.t 5, .lit [] 0 [], none⟩,
    ⟨.t 6, .mov (.p 0), none⟩,
    ⟨.t 7, .append 1 1 (.t 5) (.t 6), none⟩,
    ⟨.p 2, .mov (.t 7), none⟩])
    (.ret)))
def cf_slices_Clone_byte_byte : CFunc :=
{ nargs := 1, ps := [0, 2, 4], results := [.slot 2], body := bd_slices_Clone_byte_byte }

/- gobo/runes.is -/
def bd_runes_is : CCode :=
 .seq (.reg [⟨.p 2, .mov (.c (.bool false)), none⟩])
    (.seq (.reg [⟨.t 3, .mov (.p 0), none⟩,
    ⟨.t 4, .bin .geq (.t 3) (.c (.int .i32 0)), none⟩,
    ⟨.t 5, .mov (.t 4), none⟩,
    ⟨.t 6, .mov (.p 0), some (.t 5, true)⟩,
    ⟨.t 7, .bin .lss (.t 6) (.c (.int .i32 55296)), some (.t 5, true)⟩,
    ⟨.t 8, .pick (.t 5) (.t 7) (.c (.bool false)), none⟩,
    ⟨.t 9, .mov (.t 8), none⟩,
    ⟨.t 10, .mov (.p 0), some (.t 9, false)⟩,
    ⟨.t 11, .bin .gtr (.t 10) (.c (.int .i32 57343)), some (.t 9, false)⟩,
    ⟨.t 12, .mov (.t 11), some (.t 9, false)⟩,
    ⟨.t 13, .mov (.p 0), some (.t 12, true)⟩,
    ⟨.t 14, .bin .leq (.t 13) (.c (.int .i32 1114111)), some (.t 12, true)⟩,
    ⟨.t 15, .pick (.t 12) (.t 14) (.c (.bool false)), some (.t 9, false)⟩,
    ⟨.t 16, .pick (.t 9) (.c (.bool true)) (.t 15), none⟩,
    ⟨.p 2, .mov (.t 16), none⟩])
    (.ret))
def cf_runes_is : CFunc :=
{ nargs := 1, ps := [0, 2], results := [.slot 2], body := bd_runes_is }

/- slices.pdqsortCmpFunc[gobo/runes.span] -/
def lb_slices_pdqsortCmpFunc_runes_span_0 : CCode :=
 .block 1 [0, 1, 2, 3, 4, 10, 11]
    (.seq (.reg [⟨.t 21, .mov (.p 2), none⟩,
    ⟨.t 22, .mov (.p 1), none⟩,
    ⟨.t 23, .bin .sub (.t 21) (.t 22), none⟩,
    ⟨.p 12, .mov (.t 23), none⟩])
    (.seq (.seq (.reg [⟨.t 24, .mov (.p 12), none⟩,
    ⟨.p 25, .bin .leq (.t 24) (.c (.int .i64 12)), none⟩])
    (.cond (.p 25)
    (.seq (.reg [⟨.t 26, .mov (.p 0), none⟩,
    ⟨.t 27, .mov (.p 1), none⟩,
    ⟨.t 28, .mov (.p 2), none⟩,
    ⟨.t 29, .mov (.p 4), none⟩,
    ⟨.t 30, .call F_slices_insertionSortCmpFunc_runes_span [.t 26, .t 27, .t 28, .t 29], none⟩])
    (.ret))
    (.skip)))
    (.seq (.seq (.reg [⟨.t 31, .mov (.p 3), none⟩,
    ⟨.p 32, .bin .eql (.t 31) (.c (.int .i64 0)), none⟩])
    (.cond (.p 32)
    (.seq (.reg [⟨.t 33, .mov (.p 0), none⟩,
    ⟨.t 34, .mov (.p 1), none⟩,
    ⟨.t 35, .mov (.p 2), none⟩,
    ⟨.t 36, .mov (.p 4), none⟩,
    ⟨.t 37, .call F_slices_heapSortCmpFunc_runes_span [.t 33, .t 34, .t 35, .t 36], none⟩])
    (.ret))
    (.skip)))
    (.seq (.seq (.reg [⟨.t 38, .mov (.p 10), none⟩,
    ⟨.p 39, .un .not (.t 38), none⟩])
    (.cond (.p 39)
    (.seq (.reg [⟨.t 40, .mov (.p 0), none⟩,
    ⟨.t 41, .mov (.p 1), none⟩,
    ⟨.t 42, .mov (.p 2), none⟩,
    ⟨.t 43, .mov (.p 4), none⟩,
    ⟨.t 44, .call F_slices_breakPatternsCmpFunc_runes_span [.t 40, .t 41, .t 42, .t 43], none⟩])
    (.reg [⟨.t 45, .mov (.p 3), none⟩,
    ⟨.t 46, .bin .sub (.t 45) (.c (.int .i64 1)), none⟩,
    ⟨.p 3, .mov (.t 46), none⟩]))
    (.skip)))
    (.seq (.reg [⟨.t 48, .mov (.p 0), none⟩,
    ⟨.t 49, .mov (.p 1), none⟩,
    ⟨.t 50, .mov (.p 2), none⟩,
    ⟨.t 51, .mov (.p 4), none⟩,
    ⟨.t 52, .call F_slices_choosePivotCmpFunc_runes_span [.t 48, .t 49, .t 50, .t 51], none⟩,
    ⟨.t 47, .mov (.t 52), none⟩,
    ⟨.t 53, .extract (.t 47) 0, none⟩,
    ⟨.t 54, .extract (.t 47) 1, none⟩,
    ⟨.p 13, .mov (.t 53), none⟩,
    ⟨.p 14, .mov (.t 54), none⟩])
    (.seq (.seq (.reg [⟨.t 55, .mov (.p 14), none⟩,
    ⟨.p 56, .bin .eql (.t 55) (.c (.int .i64 2)), none⟩])
    (.cond (.p 56)
    (.seq (.reg [⟨.t 57, .mov (.p 0), none⟩,
    ⟨.t 58, .mov (.p 1), none⟩,
    ⟨.t 59, .mov (.p 2), none⟩,
    ⟨.t 60, .mov (.p 4), none⟩,
    ⟨.t 61, .call F_slices_reverseRangeCmpFunc_runes_span [.t 57, .t 58, .t 59, .t 60], none⟩])
    (.seq (.reg [⟨.t 62, .mov (.p 2), none⟩,
    ⟨.t 63, .bin .sub (.t 62) (.c (.int .i64 1)), none⟩,
    ⟨.t 64, .mov (.p 13), none⟩,
    ⟨.t 65, .mov (.p 1), none⟩,
    ⟨.t 66, .bin .sub (.t 64) (.t 65), none⟩,
    ⟨.t 67, .bin .sub (.t 63) (.t 66), none⟩,
    ⟨.p 13, .mov (.t 67), none⟩])
    (.reg [⟨.p 14, .mov (.c (.int .i64 1)), none⟩])))
    (.skip)))
    (.seq (.seq (.reg [⟨.t 68, .mov (.p 10), none⟩,
    ⟨.t 69, .mov (.t 68), none⟩,
    ⟨.t 70, .mov (.p 11), some (.t 69, true)⟩,
    ⟨.t 71, .pick (.t 69) (.t 70) (.c (.bool false)), none⟩,
    ⟨.t 72, .mov (.t 71), none⟩,
    ⟨.t 73, .mov (.p 14), some (.t 72, true)⟩,
    ⟨.t 74, .bin .eql (.t 73) (.c (.int .i64 1)), some (.t 72, true)⟩,
    ⟨.p 75, .pick (.t 72) (.t 74) (.c (.bool false)), none⟩])
    (.cond (.p 75)
    (.seq (.reg [⟨.t 76, .mov (.p 0), none⟩,
    ⟨.t 77, .mov (.p 1), none⟩,
    ⟨.t 78, .mov (.p 2), none⟩,
    ⟨.t 79, .mov (.p 4), none⟩,
    ⟨.p 80, .call F_slices_partialInsertionSortCmpFunc_runes_span [.t 76, .t 77, .t 78, .t 79], none⟩])
    (.cond (.p 80)
    (.ret)
    (.skip)))
    (.skip)))
    (.seq (.seq (.dreg [⟨⟨.t 81, .mov (.p 1), none⟩, false, false, []⟩,
    ⟨⟨.t 82, .bin .gtr (.t 81) (.c (.int .i64 0)), none⟩, false, false, []⟩,
    ⟨⟨.t 83, .mov (.t 82), none⟩, false, false, []⟩,
    ⟨⟨.t 84, .mov (.p 4), some (.t 83, true)⟩, false, false, []⟩,
    ⟨⟨.t 85, .mov (.p 0), some (.t 83, true)⟩, false, false, []⟩,
    ⟨⟨.t 86, .mov (.p 1), some (.t 83, true)⟩, false, false, []⟩,
    ⟨⟨.t 87, .bin .sub (.t 86) (.c (.int .i64 1)), some (.t 83, true)⟩, false, false, []⟩,
    ⟨⟨.t 88, .idxAddr 2 (.t 85) (.t 87), some (.t 83, true)⟩, false, false, []⟩,
    ⟨⟨.t 89, .loadN 2 (.t 88), some (.t 83, true)⟩, false, false, []⟩,
    ⟨⟨.t 90, .mov (.p 0), some (.t 83, true)⟩, false, false, []⟩,
    ⟨⟨.t 91, .mov (.p 13), some (.t 83, true)⟩, false, false, []⟩,
    ⟨⟨.t 92, .idxAddr 2 (.t 90) (.t 91), some (.t 83, true)⟩, false, false, []⟩,
    ⟨⟨.t 93, .loadN 2 (.t 92), some (.t 83, true)⟩, false, false, []⟩,
    ⟨⟨.t 94, .callV (.t 84) [.t 89, .t 93], some (.t 83, true)⟩, false, false, []⟩,
    ⟨⟨.t 95, .bin .lss (.t 94) (.c (.int .i64 0)), some (.t 83, true)⟩, false, false, []⟩,
    ⟨⟨.t 96, .un .not (.t 95), some (.t 83, true)⟩, false, false, []⟩,
    ⟨⟨.p 97, .pick (.t 83) (.t 96) (.c (.bool false)), none⟩, false, false, []⟩])
    (.cond (.p 97)
    (.seq (.reg [⟨.t 98, .mov (.p 0), none⟩,
    ⟨.t 99, .mov (.p 1), none⟩,
    ⟨.t 100, .mov (.p 2), none⟩,
    ⟨.t 101, .mov (.p 13), none⟩,
    ⟨.t 102, .mov (.p 4), none⟩,
    ⟨.t 103, .call F_slices_partitionEqualCmpFunc_runes_span [.t 98, .t 99, .t 100, .t 101, .t 102], none⟩,
    ⟨.p 15, .mov (.t 103), none⟩])
    (.seq (.reg [⟨.t 104, .mov (.p 15), none⟩,
    ⟨.p 1, .mov (.t 104), none⟩])
    (.exit 1)))
    (.skip)))
    (.seq (.reg [⟨.t 106, .mov (.p 0), none⟩,
    ⟨.t 107, .mov (.p 1), none⟩,
    ⟨.t 108, .mov (.p 2), none⟩,
    ⟨.t 109, .mov (.p 13), none⟩,
    ⟨.t 110, .mov (.p 4), none⟩,
    ⟨.t 111, .call F_slices_partitionCmpFunc_runes_span [.t 106, .t 107, .t 108, .t 109, .t 110], none⟩,
    ⟨.t 105, .mov (.t 111), none⟩,
    ⟨.t 112, .extract (.t 105) 0, none⟩,
    ⟨.t 113, .extract (.t 105) 1, none⟩,
    ⟨.p 16, .mov (.t 112), none⟩,
    ⟨.p 17, .mov (.t 113), none⟩])
    (.seq (.reg [⟨.t 114, .mov (.p 17), none⟩,
    ⟨.p 11, .mov (.t 114), none⟩])
    (.seq (.reg [⟨.t 115, .mov (.p 16), none⟩,
    ⟨.t 116, .mov (.p 1), none⟩,
    ⟨.t 117, .bin .sub (.t 115) (.t 116), none⟩,
    ⟨.t 118, .mov (.p 2), none⟩,
    ⟨.t 119, .mov (.p 16), none⟩,
    ⟨.t 120, .bin .sub (.t 118) (.t 119), none⟩,
    ⟨.p 18, .mov (.t 117), none⟩,
    ⟨.p 19, .mov (.t 120), none⟩])
    (.seq (.reg [⟨.t 121, .mov (.p 12), none⟩,
    ⟨.t 122, .bin .quo (.t 121) (.c (.int .i64 8)), none⟩,
    ⟨.p 20, .mov (.t 122), none⟩])
    (.seq (.reg [⟨.t 123, .mov (.p 18), none⟩,
    ⟨.t 124, .mov (.p 19), none⟩,
    ⟨.p 125, .bin .lss (.t 123) (.t 124), none⟩])
    (.cond (.p 125)
    (.seq (.reg [⟨.t 126, .mov (.p 18), none⟩,
    ⟨.t 127, .mov (.p 20), none⟩,
    ⟨.t 128, .bin .geq (.t 126) (.t 127), none⟩,
    ⟨.p 10, .mov (.t 128), none⟩])
    (.seq (.reg [⟨.t 129, .mov (.p 0), none⟩,
    ⟨.t 130, .mov (.p 1), none⟩,
    ⟨.t 131, .mov (.p 16), none⟩,
    ⟨.t 132, .mov (.p 3), none⟩,
    ⟨.t 133, .mov (.p 4), none⟩,
    ⟨.t 134, .call F_slices_pdqsortCmpFunc_runes_span [.t 129, .t 130, .t 131, .t 132, .t 133], none⟩])
    (.reg [⟨.t 135, .mov (.p 16), none⟩,
    ⟨.t 136, .bin .add (.t 135) (.c (.int .i64 1)), none⟩,
    ⟨.p 1, .mov (.t 136), none⟩])))
    (.seq (.reg [⟨.t 137, .mov (.p 19), none⟩,
    ⟨.t 138, .mov (.p 20), none⟩,
    ⟨.t 139, .bin .geq (.t 137) (.t 138), none⟩,
    ⟨.p 10, .mov (.t 139), none⟩])
    (.seq (.reg [⟨.t 140, .mov (.p 0), none⟩,
    ⟨.t 141, .mov (.p 16), none⟩,
    ⟨.t 142, .bin .add (.t 141) (.c (.int .i64 1)), none⟩,
    ⟨.t 143, .mov (.p 2), none⟩,
    ⟨.t 144, .mov (.p 3), none⟩,
    ⟨.t 145, .mov (.p 4), none⟩,
    ⟨.t 146, .call F_slices_pdqsortCmpFunc_runes_span [.t 140, .t 142, .t 143, .t 144, .t 145], none⟩])
    (.reg [⟨.t 147, .mov (.p 16), none⟩,
    ⟨.p 2, .mov (.t 147), none⟩])))))))))))))))))
def bd_slices_pdqsortCmpFunc_runes_span : CCode :=
 .seq (.reg [⟨.p 10, .mov (.c (.bool true)), none⟩])
    (.seq (.reg [⟨.p 11, .mov (.c (.bool true)), none⟩])
    (.block 0 []
    (.loop [0, 1, 2, 3, 4, 10, 11] lb_slices_pdqsortCmpFunc_runes_span_0)))
def cf_slices_pdqsortCmpFunc_runes_span : CFunc :=
{ nargs := 5, ps := [0, 1, 2, 3, 4, 10, 11, 12, 13, 14, 15, 16, 17, 18, 19, 20, 25, 32, 39, 56, 75, 80, 97, 125], results := [], body := bd_slices_pdqsortCmpFunc_runes_span }

/- math/bits.Len -/
def bd_bits_Len : CCode :=
 .seq (.reg [⟨.p 2, .mov (.c (.int .i64 0)), none⟩])
    (.seq (.cond (.c (.bool false))
    (.seq (.reg [⟨.t 3, .mov (.p 0), none⟩,
    ⟨.t 4, .convI .u32 (.t 3), none⟩,
    ⟨.t 5, .call F_bits_Len32 [.t 4], none⟩,
    ⟨.p 2, .mov (.t 5), none⟩])
    (.ret))
    (.skip))
    (.seq (.reg [⟨.t 6, .mov (.p 0), none⟩,
    ⟨.t 7, .call F_bits_Len64 [.t 6], none⟩,
    ⟨.p 2, .mov (.t 7), none⟩])
    (.ret)))
def cf_bits_Len : CFunc :=
{ nargs := 1, ps := [0, 2], results := [.slot 2], body := bd_bits_Len }

/- cmp.isNaN[int] -/
def bd_cmp_isNaN_int : CCode :=
 .seq (.reg [⟨.p 2, .mov (.c (.bool false)), none⟩])
    (.seq (.reg [⟨.t 3, .mov (.p 0), none⟩,
    ⟨.t 4, .mov (.p 0), none⟩,
    ⟨.t 5, .bin .neq (.t 3) (.t 4), none⟩,
    ⟨.p 2, .mov (.t 5), none⟩])
    (.ret))
def cf_cmp_isNaN_int : CFunc :=
{ nargs := 1, ps := [0, 2], results := [.slot 2], body := bd_cmp_isNaN_int }

/- (*gobo/parse.source).atom -/
def bd_parse_source_atom : CCode :=
 .seq (.reg [⟨.p 2, .alloc [.int .i64 0, .nils, .nils, .nils], none⟩])
    (.seq (.block 0 [0, 2]
    (.seq (.reg [⟨.t 6, .mov (.p 0), none⟩,
    ⟨.t 7, .call F_parse_source_is [.t 6, .c (.str [123])], none⟩,
    ⟨.p 5, .mov (.t 7), none⟩])
    (.cond (.p 5)
    (.seq (.reg [⟨.t 8, .mov (.p 0), none⟩,
    ⟨.t 9, .call F_parse_source_list [.t 8], none⟩,
    ⟨.t 10, .build [.int .i64 0, .nils, .nils, .nils] [(0, 1, .c (.int .i64 2)), (1, 1, .t 9)], none⟩,
    ⟨.no, .store 4 (.p 2) (.t 10), none⟩])
    (.ret))
    (.seq (.reg [⟨.t 12, .mov (.p 0), none⟩,
    ⟨.t 13, .call F_parse_source_skip [.t 12, .c (.str [95])], none⟩,
    ⟨.p 11, .mov (.t 13), none⟩])
    (.cond (.p 11)
    (.seq (.reg [⟨.t 14, .build [.int .i64 0, .nils, .nils, .nils] [(0, 1, .c (.int .i64 4))], none⟩,
    ⟨.no, .store 4 (.p 2) (.t 14), none⟩])
    (.ret))
    (.seq (.reg [⟨.t 16, .mov (.p 0), none⟩,
    ⟨.t 17, .call F_parse_source_bracket [.t 16, .c (.str [40])], none⟩,
    ⟨.p 15, .mov (.t 17), none⟩])
    (.cond (.p 15)
    (.seq (.reg [⟨.t 18, .build [.int .i64 0, .nils, .nils, .nils] [(0, 1, .c (.int .i64 1))], none⟩,
    ⟨.p 3, .alloc [.int .i64 0, .nils, .nils, .nils], none⟩,
    ⟨.no, .store 4 (.p 3) (.t 18), none⟩])
    (.seq (.seq (.reg [⟨.t 19, .mov (.p 0), none⟩,
    ⟨.t 20, .call F_parse_source_is [.t 19, .c (.str [41])], none⟩,
    ⟨.p 21, .un .not (.t 20), none⟩])
    (.cond (.p 21)
    (.reg [⟨.t 22, .mov (.p 0), none⟩,
    ⟨.t 23, .call F_parse_source_pattern [.t 22], none⟩,
    ⟨.no, .store 4 (.p 3) (.t 23), none⟩])
    (.skip)))
    (.seq (.reg [⟨.t 24, .mov (.p 0), none⟩,
    ⟨.t 25, .call F_parse_source_must [.t 24, .c (.str [41])], none⟩])
    (.seq (.reg [⟨.t 26, .mov (.p 0), none⟩,
    ⟨.t 27, .nilCheck (.t 26), none⟩,
    ⟨.t 28, .fieldAddr 3 (.t 27), none⟩,
    ⟨.t 29, .load1 (.t 28), none⟩,
    ⟨.t 30, .bin .sub (.t 29) (.c (.int .i64 1)), none⟩,
    ⟨.t 31, .nilCheck (.t 26), none⟩,
    ⟨.t 32, .fieldAddr 3 (.t 31), none⟩,
    ⟨.no, .store 1 (.t 32) (.t 30), none⟩])
    (.seq (.reg [⟨.t 33, .loadN 4 (.p 3), none⟩,
    ⟨.no, .store 4 (.p 2) (.t 33), none⟩])
    (.ret))))))
    (.seq (.reg [⟨.t 35, .mov (.p 0), none⟩,
    ⟨.t 36, .call F_parse_source_bracket [.t 35, .c (.str [60])], none⟩,
    ⟨.p 34, .mov (.t 36), none⟩])
    (.cond (.p 34)
    (.seq (.reg [⟨.t 37, .mov (.p 0), none⟩,
    ⟨.t 38, .call F_parse_source_names [.t 37], none⟩,
    ⟨.t 39, .build [.int .i64 0, .nils, .nils, .nils] [(0, 1, .c (.int .i64 3)), (1, 1, .t 38)], none⟩,
    ⟨.p 4, .alloc [.int .i64 0, .nils, .nils, .nils], none⟩,
    ⟨.no, .store 4 (.p 4) (.t 39), none⟩])
    (.seq (.reg [⟨.t 40, .mov (.p 0), none⟩,
    ⟨.t 41, .call F_parse_source_must [.t 40, .c (.str [58])], none⟩])
    (.seq (.reg [⟨.t 42, .mov (.p 0), none⟩,
    ⟨.t 43, .call F_parse_source_pattern [.t 42], none⟩,
    ⟨.t 44, .lit [.int .i64 0, .nils, .nils, .nils] 1 [(0, 4, .t 43)], none⟩,
    ⟨.t 45, .fieldAddr 3 (.p 4), none⟩,
    ⟨.no, .store 1 (.t 45) (.t 44), none⟩])
    (.seq (.reg [⟨.t 46, .mov (.p 0), none⟩,
    ⟨.t 47, .call F_parse_source_must [.t 46, .c (.str [58])], none⟩])
    (.seq (.reg [⟨.t 48, .mov (.p 0), none⟩,
    ⟨.t 49, .call F_parse_source_names [.t 48], none⟩,
    ⟨.t 50, .fieldAddr 2 (.p 4), none⟩,
    ⟨.no, .store 1 (.t 50) (.t 49), none⟩])
    (.seq (.reg [⟨.t 51, .mov (.p 0), none⟩,
    ⟨.t 52, .call F_parse_source_must [.t 51, .c (.str [62])], none⟩])
    (.seq (.reg [⟨.t 53, .mov (.p 0), none⟩,
    ⟨.t 54, .nilCheck (.t 53), none⟩,
    ⟨.t 55, .fieldAddr 3 (.t 54), none⟩,
    ⟨.t 56, .load1 (.t 55), none⟩,
    ⟨.t 57, .bin .sub (.t 56) (.c (.int .i64 1)), none⟩,
    ⟨.t 58, .nilCheck (.t 53), none⟩,
    ⟨.t 59, .fieldAddr 3 (.t 58), none⟩,
    ⟨.no, .store 1 (.t 59) (.t 57), none⟩])
    (.seq (.reg [⟨.t 60, .loadN 4 (.p 4), none⟩,
    ⟨.no, .store 4 (.p 2) (.t 60), none⟩])
    (.ret)))))))))
    (.skip))))))))))
    (.seq (.reg [⟨.t 61, .mov (.p 0), none⟩,
    ⟨.t 62, .call F_parse_source_peek [.t 61], none⟩,
    ⟨.t 63, .field1 2 (.t 62), none⟩,
    ⟨.t 64, .call F_word_Fail [.c (.int .i64 3), .t 63], none⟩])
    (.seq (.reg [⟨.t 65, .build [.int .i64 0, .nils, .nils, .nils] [], none⟩,
    ⟨.no, .store 4 (.p 2) (.t 65), none⟩])
    (.ret))))
def cf_parse_source_atom : CFunc :=
{ nargs := 1, ps := [0, 2, 3, 4, 5, 11, 15, 21, 34], results := [.cellN 2 4], body := bd_parse_source_atom }

/- slices.IndexFunc[[]gobo/api.Re,gobo/api.Re] -/
def lb_slices_IndexFunc_api_Re_api_Re_0 : CCode :=
 .seq (.reg [⟨.p 9, .bin .lss (.p 8) (.p 7), none⟩])
    (.seq (.cond (.p 9)
    (.skip)
    (.exit 0))
    (.seq (.block 1 [0, 1, 7, 8]
    (.seq (.reg [⟨.t 10, .mov (.p 8), none⟩,
    ⟨.p 5, .mov (.t 10), none⟩])
    (.seq (.reg [⟨.t 11, .mov (.p 1), none⟩,
    ⟨.t 12, .mov (.p 0), none⟩,
    ⟨.t 13, .mov (.p 5), none⟩,
    ⟨.t 14, .idxAddr 3 (.t 12) (.t 13), none⟩,
    ⟨.t 15, .loadN 3 (.t 14), none⟩,
    ⟨.p 16, .callV (.t 11) [.t 15], none⟩])
    (.cond (.p 16)
    (.seq (.reg [⟨.t 17, .mov (.p 5), none⟩,
    ⟨.p 4, .mov (.t 17), none⟩])
    (.ret))
    (.skip)))))
    (.reg [⟨.t 18, .bin .add (.p 8) (.c (.int .i64 1)), none⟩,
    ⟨.p 8, .mov (.t 18), none⟩])))
def bd_slices_IndexFunc_api_Re_api_Re : CCode :=
 .seq (.reg [⟨.p 4, .mov (.c (.int .i64 0)), none⟩])
    (.seq (.seq (.reg [⟨.t 6, .mov (.p 0), none⟩,
    ⟨.p 7, .lenSl (.t 6), none⟩,
    ⟨.p 8, .mov (.c (.int .i64 0)), none⟩])
    (.block 0 []
    (.loop [0, 1, 7, 8] lb_slices_IndexFunc_api_Re_api_Re_0)))
    (.seq (.reg [⟨.p 4, .mov (.c (.int .i64 (-1))), none⟩])
    (.ret)))
def cf_slices_IndexFunc_api_Re_api_Re : CFunc :=
{ nargs := 2, ps := [0, 1, 4, 5, 7, 8, 9, 16], results := [.slot 4], body := bd_slices_IndexFunc_api_Re_api_Re }

/- slices.Equal[[]gobo/api.Range,gobo/api.Range] -/
def lb_slices_Equal_api_Range_api_Range_0 : CCode :=
 .seq (.reg [⟨.p 14, .bin .lss (.p 13) (.p 12), none⟩])
    (.seq (.cond (.p 14)
    (.skip)
    (.exit 0))
    (.seq (.block 1 [0, 1, 12, 13]
    (.seq (.reg [⟨.t 15, .mov (.p 13), none⟩,
    ⟨.p 5, .mov (.t 15), none⟩])
    (.seq (.dreg [⟨⟨.t 16, .mov (.p 0), none⟩, false, false, []⟩,
    ⟨⟨.t 17, .mov (.p 5), none⟩, false, false, []⟩,
    ⟨⟨.t 18, .idxAddr 2 (.t 16) (.t 17), none⟩, false, false, []⟩,
    ⟨⟨.t 19, .loadN 2 (.t 18), none⟩, false, false, []⟩,
    ⟨⟨.t 20, .mov (.p 1), none⟩, false, false, []⟩,
    ⟨⟨.t 21, .mov (.p 5), none⟩, false, false, []⟩,
    ⟨⟨.t 22, .idxAddr 2 (.t 20) (.t 21), none⟩, false, false, []⟩,
    ⟨⟨.t 23, .loadN 2 (.t 22), none⟩, false, false, []⟩,
    ⟨⟨.p 24, .eqv true (.agg [(0, .i), (1, .i)]) (.t 19) (.t 23), none⟩, false, false, []⟩])
    (.cond (.p 24)
    (.seq (.reg [⟨.p 4, .mov (.c (.bool false)), none⟩])
    (.ret))
    (.skip)))))
    (.reg [⟨.t 25, .bin .add (.p 13) (.c (.int .i64 1)), none⟩,
    ⟨.p 13, .mov (.t 25), none⟩])))
def bd_slices_Equal_api_Range_api_Range : CCode :=
 .seq (.reg [⟨.p 4, .mov (.c (.bool false)), none⟩])
    (.seq (.seq (.reg [⟨.t 6, .mov (.p 0), none⟩,
    ⟨.t 7, .lenSl (.t 6), none⟩,
    ⟨.t 8, .mov (.p 1), none⟩,
    ⟨.t 9, .lenSl (.t 8), none⟩,
    ⟨.p 10, .bin .neq (.t 7) (.t 9), none⟩])
    (.cond (.p 10)
    (.seq (.reg [⟨.p 4, .mov (.c (.bool false)), none⟩])
    (.ret))
    (.skip)))
    (.seq (.seq (.reg [⟨.t 11, .mov (.p 0), none⟩,
    ⟨.p 12, .lenSl (.t 11), none⟩,
    ⟨.p 13, .mov (.c (.int .i64 0)), none⟩])
    (.block 0 []
    (.loop [0, 1, 12, 13] lb_slices_Equal_api_Range_api_Range_0)))
    (.seq (.reg [⟨.p 4, .mov (.c (.bool true)), none⟩])
    (.ret))))
def cf_slices_Equal_api_Range_api_Range : CFunc :=
{ nargs := 2, ps := [0, 1, 4, 5, 10, 12, 13, 14, 24], results := [.slot 4], body := bd_slices_Equal_api_Range_api_Range }

/- slices.IndexFunc[[]gobo/api.Pat,gobo/api.Pat] -/
def lb_slices_IndexFunc_api_Pat_api_Pat_0 : CCode :=
 .seq (.reg [⟨.p 9, .bin .lss (.p 8) (.p 7), none⟩])
    (.seq (.cond (.p 9)
    (.skip)
    (.exit 0))
    (.seq (.block 1 [0, 1, 7, 8]
    (.seq (.reg [⟨.t 10, .mov (.p 8), none⟩,
    ⟨.p 5, .mov (.t 10), none⟩])
    (.seq (.reg [⟨.t 11, .mov (.p 1), none⟩,
    ⟨.t 12, .mov (.p 0), none⟩,
    ⟨.t 13, .mov (.p 5), none⟩,
    ⟨.t 14, .idxAddr 4 (.t 12) (.t 13), none⟩,
    ⟨.t 15, .loadN 4 (.t 14), none⟩,
    ⟨.p 16, .callV (.t 11) [.t 15], none⟩])
    (.cond (.p 16)
    (.seq (.reg [⟨.t 17, .mov (.p 5), none⟩,
    ⟨.p 4, .mov (.t 17), none⟩])
    (.ret))
    (.skip)))))
    (.reg [⟨.t 18, .bin .add (.p 8) (.c (.int .i64 1)), none⟩,
    ⟨.p 8, .mov (.t 18), none⟩])))
def bd_slices_IndexFunc_api_Pat_api_Pat : CCode :=
 .seq (.reg [⟨.p 4, .mov (.c (.int .i64 0)), none⟩])
    (.seq (.seq (.reg [⟨.t 6, .mov (.p 0), none⟩,
    ⟨.p 7, .lenSl (.t 6), none⟩,
    ⟨.p 8, .mov (.c (.int .i64 0)), none⟩])
    (.block 0 []
    (.loop [0, 1, 7, 8] lb_slices_IndexFunc_api_Pat_api_Pat_0)))
    (.seq (.reg [⟨.p 4, .mov (.c (.int .i64 (-1))), none⟩])
    (.ret)))
def cf_slices_IndexFunc_api_Pat_api_Pat : CFunc :=
{ nargs := 2, ps := [0, 1, 4, 5, 7, 8, 9, 16], results := [.slot 4], body := bd_slices_IndexFunc_api_Pat_api_Pat }

/- gobo/gram.parts -/
def bd_gram_parts : CCode :=
 .seq (.reg [⟨.p 2, .mov (.c (.int .i64 0)), none⟩])
    (.seq (.seq (.reg [⟨.p 3, .mov (.p 0), none⟩])
    (.block 0 []
    (.seq (.seq (.reg [⟨.t 5, .bin .eql (.p 3) (.c (.int .i64 1)), none⟩,
    ⟨.p 4, .mov (.t 5), none⟩])
    (.cond (.p 4)
    (.skip)
    (.seq (.reg [⟨.t 6, .bin .eql (.p 3) (.c (.int .i64 2)), none⟩,
    ⟨.p 4, .mov (.t 6), none⟩])
    (.cond (.p 4)
    (.skip)
    (.reg [⟨.t 7, .bin .eql (.p 3) (.c (.int .i64 4)), none⟩,
    ⟨.p 4, .mov (.t 7), none⟩])))))
    (.cond (.p 4)
    (.seq (.reg [⟨.p 2, .mov (.c (.int .i64 0)), none⟩])
    (.ret))
    (.seq (.seq (.reg [⟨.t 9, .bin .eql (.p 3) (.c (.int .i64 3)), none⟩,
    ⟨.p 8, .mov (.t 9), none⟩])
    (.cond (.p 8)
    (.skip)
    (.reg [⟨.t 10, .bin .eql (.p 3) (.c (.int .i64 7)), none⟩,
    ⟨.p 8, .mov (.t 10), none⟩])))
    (.cond (.p 8)
    (.seq (.reg [⟨.p 2, .mov (.c (.int .i64 1)), none⟩])
    (.ret))
    (.seq (.seq (.reg [⟨.t 12, .bin .eql (.p 3) (.c (.int .i64 5)), none⟩,
    ⟨.p 11, .mov (.t 12), none⟩])
    (.cond (.p 11)
    (.skip)
    (.reg [⟨.t 13, .bin .eql (.p 3) (.c (.int .i64 6)), none⟩,
    ⟨.p 11, .mov (.t 13), none⟩])))
    (.cond (.p 11)
    (.seq (.reg [⟨.p 2, .mov (.c (.int .i64 2)), none⟩])
    (.ret))
    (.skip)))))))))
    (.seq (.reg [⟨.p 2, .mov (.c (.int .i64 (-1))), none⟩])
    (.ret)))
def cf_gram_parts : CFunc :=
{ nargs := 1, ps := [0, 2, 3, 4, 8, 11], results := [.slot 2], body := bd_gram_parts }

/- slices.insertionSortCmpFunc[gobo/runes.span] -/
def lb_slices_insertionSortCmpFunc_runes_span_0 : CCode :=
 .seq (.seq (.dreg [⟨⟨.t 18, .mov (.p 9), none⟩, false, false, []⟩,
    ⟨⟨.t 19, .mov (.p 1), none⟩, false, false, []⟩,
    ⟨⟨.t 20, .bin .gtr (.t 18) (.t 19), none⟩, false, false, []⟩,
    ⟨⟨.t 21, .mov (.t 20), none⟩, false, false, []⟩,
    ⟨⟨.t 22, .mov (.p 3), some (.t 21, true)⟩, false, false, []⟩,
    ⟨⟨.t 23, .mov (.p 0), some (.t 21, true)⟩, false, false, []⟩,
    ⟨⟨.t 24, .mov (.p 9), some (.t 21, true)⟩, false, false, []⟩,
    ⟨⟨.t 25, .idxAddr 2 (.t 23) (.t 24), some (.t 21, true)⟩, false, false, []⟩,
    ⟨⟨.t 26, .loadN 2 (.t 25), some (.t 21, true)⟩, false, false, []⟩,
    ⟨⟨.t 27, .mov (.p 0), some (.t 21, true)⟩, false, false, []⟩,
    ⟨⟨.t 28, .mov (.p 9), some (.t 21, true)⟩, false, false, []⟩,
    ⟨⟨.t 29, .bin .sub (.t 28) (.c (.int .i64 1)), some (.t 21, true)⟩, false, false, []⟩,
    ⟨⟨.t 30, .idxAddr 2 (.t 27) (.t 29), some (.t 21, true)⟩, false, false, []⟩,
    ⟨⟨.t 31, .loadN 2 (.t 30), some (.t 21, true)⟩, false, false, []⟩,
    ⟨⟨.t 32, .callV (.t 22) [.t 26, .t 31], some (.t 21, true)⟩, false, false, []⟩,
    ⟨⟨.t 33, .bin .lss (.t 32) (.c (.int .i64 0)), some (.t 21, true)⟩, false, false, []⟩,
    ⟨⟨.p 34, .pick (.t 21) (.t 33) (.c (.bool false)), none⟩, false, false, []⟩])
    (.cond (.p 34)
    (.skip)
    (.exit 2)))
    (.seq (.block 3 [0, 1, 2, 3, 8, 9]
    (.dreg [⟨⟨.t 37, .mov (.p 0), none⟩, false, false, []⟩,
    ⟨⟨.t 38, .mov (.p 9), none⟩, false, false, []⟩,
    ⟨⟨.t 39, .mov (.p 0), none⟩, false, false, []⟩,
    ⟨⟨.t 40, .mov (.p 9), none⟩, false, false, []⟩,
    ⟨⟨.t 41, .bin .sub (.t 40) (.c (.int .i64 1)), none⟩, false, false, []⟩,
    ⟨⟨.t 42, .mov (.p 0), none⟩, false, false, []⟩,
    ⟨⟨.t 43, .mov (.p 9), none⟩, false, false, []⟩,
    ⟨⟨.t 44, .bin .sub (.t 43) (.c (.int .i64 1)), none⟩, false, false, []⟩,
    ⟨⟨.t 45, .idxAddr 2 (.t 42) (.t 44), none⟩, false, false, []⟩,
    ⟨⟨.t 46, .loadN 2 (.t 45), none⟩, false, false, []⟩,
    ⟨⟨.t 47, .mov (.p 0), none⟩, false, false, []⟩,
    ⟨⟨.t 48, .mov (.p 9), none⟩, false, false, []⟩,
    ⟨⟨.t 49, .idxAddr 2 (.t 47) (.t 48), none⟩, false, false, []⟩,
    ⟨⟨.t 50, .loadN 2 (.t 49), none⟩, false, false, []⟩,
    ⟨⟨.t 51, .idxAddr 2 (.t 37) (.t 38), none⟩, false, false, []⟩,
    ⟨⟨.no, .store 2 (.t 51) (.t 46), none⟩, false, false, []⟩,
    ⟨⟨.t 52, .idxAddr 2 (.t 39) (.t 41), none⟩, false, false, []⟩,
    ⟨⟨.no, .store 2 (.t 52) (.t 50), none⟩, false, false, []⟩]))
    (.reg [⟨.t 35, .mov (.p 9), none⟩,
    ⟨.t 36, .bin .sub (.t 35) (.c (.int .i64 1)), none⟩,
    ⟨.p 9, .mov (.t 36), none⟩]))
def lb_slices_insertionSortCmpFunc_runes_span_1 : CCode :=
 .seq (.seq (.reg [⟨.t 12, .mov (.p 8), none⟩,
    ⟨.t 13, .mov (.p 2), none⟩,
    ⟨.p 14, .bin .lss (.t 12) (.t 13), none⟩])
    (.cond (.p 14)
    (.skip)
    (.exit 0)))
    (.seq (.block 1 [0, 1, 2, 3, 8]
    (.seq (.reg [⟨.t 17, .mov (.p 8), none⟩,
    ⟨.p 9, .mov (.t 17), none⟩])
    (.block 2 [0, 1, 2, 3, 8]
    (.loop [0, 1, 2, 3, 8, 9] lb_slices_insertionSortCmpFunc_runes_span_0))))
    (.reg [⟨.t 15, .mov (.p 8), none⟩,
    ⟨.t 16, .bin .add (.t 15) (.c (.int .i64 1)), none⟩,
    ⟨.p 8, .mov (.t 16), none⟩]))
def bd_slices_insertionSortCmpFunc_runes_span : CCode :=
 .seq (.reg [⟨.t 10, .mov (.p 1), none⟩,
    ⟨.t 11, .bin .add (.t 10) (.c (.int .i64 1)), none⟩,
    ⟨.p 8, .mov (.t 11), none⟩])
    (.block 0 []
    (.loop [0, 1, 2, 3, 8] lb_slices_insertionSortCmpFunc_runes_span_1))
def cf_slices_insertionSortCmpFunc_runes_span : CFunc :=
{ nargs := 4, ps := [0, 1, 2, 3, 8, 9, 14, 34], results := [], body := bd_slices_insertionSortCmpFunc_runes_span }

/- slices.heapSortCmpFunc[gobo/runes.span] -/
def lb_slices_heapSortCmpFunc_runes_span_0 : CCode :=
 .seq (.seq (.reg [⟨.t 20, .mov (.p 11), none⟩,
    ⟨.p 21, .bin .geq (.t 20) (.c (.int .i64 0)), none⟩])
    (.cond (.p 21)
    (.skip)
    (.exit 0)))
    (.seq (.block 1 [0, 3, 8, 9, 10, 11]
    (.reg [⟨.t 24, .mov (.p 0), none⟩,
    ⟨.t 25, .mov (.p 11), none⟩,
    ⟨.t 26, .mov (.p 10), none⟩,
    ⟨.t 27, .mov (.p 8), none⟩,
    ⟨.t 28, .mov (.p 3), none⟩,
    ⟨.t 29, .call F_slices_siftDownCmpFunc_runes_span [.t 24, .t 25, .t 26, .t 27, .t 28], none⟩]))
    (.reg [⟨.t 22, .mov (.p 11), none⟩,
    ⟨.t 23, .bin .sub (.t 22) (.c (.int .i64 1)), none⟩,
    ⟨.p 11, .mov (.t 23), none⟩]))
def lb_slices_heapSortCmpFunc_runes_span_1 : CCode :=
 .seq (.seq (.reg [⟨.t 32, .mov (.p 12), none⟩,
    ⟨.p 33, .bin .geq (.t 32) (.c (.int .i64 0)), none⟩])
    (.cond (.p 33)
    (.skip)
    (.exit 2)))
    (.seq (.block 3 [0, 3, 8, 9, 12]
    (.seq (.dreg [⟨⟨.t 36, .mov (.p 0), none⟩, false, false, []⟩,
    ⟨⟨.t 37, .mov (.p 8), none⟩, false, false, []⟩,
    ⟨⟨.t 38, .mov (.p 0), none⟩, false, false, []⟩,
    ⟨⟨.t 39, .mov (.p 8), none⟩, false, false, []⟩,
    ⟨⟨.t 40, .mov (.p 12), none⟩, false, false, []⟩,
    ⟨⟨.t 41, .bin .add (.t 39) (.t 40), none⟩, false, false, []⟩,
    ⟨⟨.t 42, .mov (.p 0), none⟩, false, false, []⟩,
    ⟨⟨.t 43, .mov (.p 8), none⟩, false, false, []⟩,
    ⟨⟨.t 44, .mov (.p 12), none⟩, false, false, []⟩,
    ⟨⟨.t 45, .bin .add (.t 43) (.t 44), none⟩, false, false, []⟩,
    ⟨⟨.t 46, .idxAddr 2 (.t 42) (.t 45), none⟩, false, false, []⟩,
    ⟨⟨.t 47, .loadN 2 (.t 46), none⟩, false, false, []⟩,
    ⟨⟨.t 48, .mov (.p 0), none⟩, false, false, []⟩,
    ⟨⟨.t 49, .mov (.p 8), none⟩, false, false, []⟩,
    ⟨⟨.t 50, .idxAddr 2 (.t 48) (.t 49), none⟩, false, false, []⟩,
    ⟨⟨.t 51, .loadN 2 (.t 50), none⟩, false, false, []⟩,
    ⟨⟨.t 52, .idxAddr 2 (.t 36) (.t 37), none⟩, false, false, []⟩,
    ⟨⟨.no, .store 2 (.t 52) (.t 47), none⟩, false, false, []⟩,
    ⟨⟨.t 53, .idxAddr 2 (.t 38) (.t 41), none⟩, false, false, []⟩,
    ⟨⟨.no, .store 2 (.t 53) (.t 51), none⟩, false, false, []⟩])
    (.reg [⟨.t 54, .mov (.p 0), none⟩,
    ⟨.t 55, .mov (.p 9), none⟩,
    ⟨.t 56, .mov (.p 12), none⟩,
    ⟨.t 57, .mov (.p 8), none⟩,
    ⟨.t 58, .mov (.p 3), none⟩,
    ⟨.t 59, .call F_slices_siftDownCmpFunc_runes_span [.t 54, .t 55, .t 56, .t 57, .t 58], none⟩])))
    (.reg [⟨.t 34, .mov (.p 12), none⟩,
    ⟨.t 35, .bin .sub (.t 34) (.c (.int .i64 1)), none⟩,
    ⟨.p 12, .mov (.t 35), none⟩]))
def bd_slices_heapSortCmpFunc_runes_span : CCode :=
 .seq (.reg [⟨.t 13, .mov (.p 1), none⟩,
    ⟨.p 8, .mov (.t 13), none⟩])
    (.seq (.reg [⟨.p 9, .mov (.c (.int .i64 0)), none⟩])
    (.seq (.reg [⟨.t 14, .mov (.p 2), none⟩,
    ⟨.t 15, .mov (.p 1), none⟩,
    ⟨.t 16, .bin .sub (.t 14) (.t 15), none⟩,
    ⟨.p 10, .mov (.t 16), none⟩])
    (.seq (.seq (.reg [⟨.t 17, .mov (.p 10), none⟩,
    ⟨.t 18, .bin .sub (.t 17) (.c (.int .i64 1)), none⟩,
    ⟨.t 19, .bin .quo (.t 18) (.c (.int .i64 2)), none⟩,
    ⟨.p 11, .mov (.t 19), none⟩])
    (.block 0 [0, 3, 8, 9, 10]
    (.loop [0, 3, 8, 9, 10, 11] lb_slices_heapSortCmpFunc_runes_span_0)))
    (.seq (.reg [⟨.t 30, .mov (.p 10), none⟩,
    ⟨.t 31, .bin .sub (.t 30) (.c (.int .i64 1)), none⟩,
    ⟨.p 12, .mov (.t 31), none⟩])
    (.block 2 []
    (.loop [0, 3, 8, 9, 12] lb_slices_heapSortCmpFunc_runes_span_1))))))
def cf_slices_heapSortCmpFunc_runes_span : CFunc :=
{ nargs := 4, ps := [0, 1, 2, 3, 8, 9, 10, 11, 12, 21, 33], results := [], body := bd_slices_heapSortCmpFunc_runes_span }

/- slices.breakPatternsCmpFunc[gobo/runes.span] -/
def lb_slices_breakPatternsCmpFunc_runes_span_0 : CCode :=
 .seq (.seq (.reg [⟨.t 28, .mov (.p 11), none⟩,
    ⟨.t 29, .mov (.p 1), none⟩,
    ⟨.t 30, .mov (.p 8), none⟩,
    ⟨.t 31, .bin .quo (.t 30) (.c (.int .i64 4)), none⟩,
    ⟨.t 32, .bin .mul (.t 31) (.c (.int .i64 2)), none⟩,
    ⟨.t 33, .bin .add (.t 29) (.t 32), none⟩,
    ⟨.t 34, .bin .add (.t 33) (.c (.int .i64 1)), none⟩,
    ⟨.p 35, .bin .leq (.t 28) (.t 34), none⟩])
    (.cond (.p 35)
    (.skip)
    (.exit 0)))
    (.seq (.block 1 [0, 1, 8, 9, 10, 11]
    (.seq (.reg [⟨.t 38, .call F_slices_xorshift_Next [.p 9], none⟩,
    ⟨.t 39, .mov (.p 10), none⟩,
    ⟨.t 40, .bin .sub (.t 39) (.c (.int .u64 1)), none⟩,
    ⟨.t 41, .bin .and (.t 38) (.t 40), none⟩,
    ⟨.t 42, .convI .i64 (.t 41), none⟩,
    ⟨.p 12, .mov (.t 42), none⟩])
    (.seq (.seq (.reg [⟨.t 43, .mov (.p 12), none⟩,
    ⟨.t 44, .mov (.p 8), none⟩,
    ⟨.p 45, .bin .geq (.t 43) (.t 44), none⟩])
    (.cond (.p 45)
    (.reg [⟨.t 46, .mov (.p 12), none⟩,
    ⟨.t 47, .mov (.p 8), none⟩,
    ⟨.t 48, .bin .sub (.t 46) (.t 47), none⟩,
    ⟨.p 12, .mov (.t 48), none⟩])
    (.skip)))
    (.dreg [⟨⟨.t 49, .mov (.p 0), none⟩, false, false, []⟩,
    ⟨⟨.t 50, .mov (.p 11), none⟩, false, false, []⟩,
    ⟨⟨.t 51, .mov (.p 0), none⟩, false, false, []⟩,
    ⟨⟨.t 52, .mov (.p 1), none⟩, false, false, []⟩,
    ⟨⟨.t 53, .mov (.p 12), none⟩, false, false, []⟩,
    ⟨⟨.t 54, .bin .add (.t 52) (.t 53), none⟩, false, false, []⟩,
    ⟨⟨.t 55, .mov (.p 0), none⟩, false, false, []⟩,
    ⟨⟨.t 56, .mov (.p 1), none⟩, false, false, []⟩,
    ⟨⟨.t 57, .mov (.p 12), none⟩, false, false, []⟩,
    ⟨⟨.t 58, .bin .add (.t 56) (.t 57), none⟩, false, false, []⟩,
    ⟨⟨.t 59, .idxAddr 2 (.t 55) (.t 58), none⟩, false, false, []⟩,
    ⟨⟨.t 60, .loadN 2 (.t 59), none⟩, false, false, []⟩,
    ⟨⟨.t 61, .mov (.p 0), none⟩, false, false, []⟩,
    ⟨⟨.t 62, .mov (.p 11), none⟩, false, false, []⟩,
    ⟨⟨.t 63, .idxAddr 2 (.t 61) (.t 62), none⟩, false, false, []⟩,
    ⟨⟨.t 64, .loadN 2 (.t 63), none⟩, false, false, []⟩,
    ⟨⟨.t 65, .idxAddr 2 (.t 49) (.t 50), none⟩, false, false, []⟩,
    ⟨⟨.no, .store 2 (.t 65) (.t 60), none⟩, false, false, []⟩,
    ⟨⟨.t 66, .idxAddr 2 (.t 51) (.t 54), none⟩, false, false, []⟩,
    ⟨⟨.no, .store 2 (.t 66) (.t 64), none⟩, false, false, []⟩]))))
    (.reg [⟨.t 36, .mov (.p 11), none⟩,
    ⟨.t 37, .bin .add (.t 36) (.c (.int .i64 1)), none⟩,
    ⟨.p 11, .mov (.t 37), none⟩]))
def bd_slices_breakPatternsCmpFunc_runes_span : CCode :=
 .seq (.reg [⟨.t 13, .mov (.p 2), none⟩,
    ⟨.t 14, .mov (.p 1), none⟩,
    ⟨.t 15, .bin .sub (.t 13) (.t 14), none⟩,
    ⟨.p 8, .mov (.t 15), none⟩])
    (.seq (.reg [⟨.t 16, .mov (.p 8), none⟩,
    ⟨.p 17, .bin .geq (.t 16) (.c (.int .i64 8)), none⟩])
    (.cond (.p 17)
    (.seq (.reg [⟨.t 18, .mov (.p 8), none⟩,
    ⟨.t 19, .convI .u64 (.t 18), none⟩,
    ⟨.p 9, .alloc [.int .u64 0], none⟩,
    ⟨.no, .store 1 (.p 9) (.t 19), none⟩])
    (.seq (.reg [⟨.t 20, .mov (.p 8), none⟩,
    ⟨.t 21, .call F_slices_nextPowerOfTwo [.t 20], none⟩,
    ⟨.p 10, .mov (.t 21), none⟩])
    (.seq (.reg [⟨.t 22, .mov (.p 1), none⟩,
    ⟨.t 23, .mov (.p 8), none⟩,
    ⟨.t 24, .bin .quo (.t 23) (.c (.int .i64 4)), none⟩,
    ⟨.t 25, .bin .mul (.t 24) (.c (.int .i64 2)), none⟩,
    ⟨.t 26, .bin .add (.t 22) (.t 25), none⟩,
    ⟨.t 27, .bin .sub (.t 26) (.c (.int .i64 1)), none⟩,
    ⟨.p 11, .mov (.t 27), none⟩])
    (.block 0 []
    (.loop [0, 1, 8, 9, 10, 11] lb_slices_breakPatternsCmpFunc_runes_span_0)))))
    (.skip)))
def cf_slices_breakPatternsCmpFunc_runes_span : CFunc :=
{ nargs := 4, ps := [0, 1, 2, 3, 8, 9, 10, 11, 12, 17, 35, 45], results := [], body := bd_slices_breakPatternsCmpFunc_runes_span }

/- slices.choosePivotCmpFunc[gobo/runes.span] -/
def bd_slices_choosePivotCmpFunc_runes_span : CCode :=
 .seq (.reg [⟨.p 8, .mov (.c (.int .i64 0)), none⟩,
    ⟨.p 9, .mov (.c (.int .i64 0)), none⟩])
    (.seq (.reg [⟨.t 15, .mov (.p 2), none⟩,
    ⟨.t 16, .mov (.p 1), none⟩,
    ⟨.t 17, .bin .sub (.t 15) (.t 16), none⟩,
    ⟨.p 10, .mov (.t 17), none⟩])
    (.seq (.reg [⟨.p 11, .alloc [.int .i64 0], none⟩])
    (.seq (.reg [⟨.t 18, .mov (.p 1), none⟩,
    ⟨.t 19, .mov (.p 10), none⟩,
    ⟨.t 20, .bin .quo (.t 19) (.c (.int .i64 4)), none⟩,
    ⟨.t 21, .bin .mul (.t 20) (.c (.int .i64 1)), none⟩,
    ⟨.t 22, .bin .add (.t 18) (.t 21), none⟩,
    ⟨.p 12, .mov (.t 22), none⟩])
    (.seq (.reg [⟨.t 23, .mov (.p 1), none⟩,
    ⟨.t 24, .mov (.p 10), none⟩,
    ⟨.t 25, .bin .quo (.t 24) (.c (.int .i64 4)), none⟩,
    ⟨.t 26, .bin .mul (.t 25) (.c (.int .i64 2)), none⟩,
    ⟨.t 27, .bin .add (.t 23) (.t 26), none⟩,
    ⟨.p 13, .mov (.t 27), none⟩])
    (.seq (.reg [⟨.t 28, .mov (.p 1), none⟩,
    ⟨.t 29, .mov (.p 10), none⟩,
    ⟨.t 30, .bin .quo (.t 29) (.c (.int .i64 4)), none⟩,
    ⟨.t 31, .bin .mul (.t 30) (.c (.int .i64 3)), none⟩,
    ⟨.t 32, .bin .add (.t 28) (.t 31), none⟩,
    ⟨.p 14, .mov (.t 32), none⟩])
    (.seq (.seq (.reg [⟨.t 33, .mov (.p 10), none⟩,
    ⟨.p 34, .bin .geq (.t 33) (.c (.int .i64 8)), none⟩])
    (.cond (.p 34)
    (.seq (.seq (.reg [⟨.t 35, .mov (.p 10), none⟩,
    ⟨.p 36, .bin .geq (.t 35) (.c (.int .i64 50)), none⟩])
    (.cond (.p 36)
    (.seq (.reg [⟨.t 37, .mov (.p 0), none⟩,
    ⟨.t 38, .mov (.p 12), none⟩,
    ⟨.t 39, .mov (.p 3), none⟩,
    ⟨.t 40, .call F_slices_medianAdjacentCmpFunc_runes_span [.t 37, .t 38, .p 11, .t 39], none⟩,
    ⟨.p 12, .mov (.t 40), none⟩])
    (.seq (.reg [⟨.t 41, .mov (.p 0), none⟩,
    ⟨.t 42, .mov (.p 13), none⟩,
    ⟨.t 43, .mov (.p 3), none⟩,
    ⟨.t 44, .call F_slices_medianAdjacentCmpFunc_runes_span [.t 41, .t 42, .p 11, .t 43], none⟩,
    ⟨.p 13, .mov (.t 44), none⟩])
    (.reg [⟨.t 45, .mov (.p 0), none⟩,
    ⟨.t 46, .mov (.p 14), none⟩,
    ⟨.t 47, .mov (.p 3), none⟩,
    ⟨.t 48, .call F_slices_medianAdjacentCmpFunc_runes_span [.t 45, .t 46, .p 11, .t 47], none⟩,
    ⟨.p 14, .mov (.t 48), none⟩])))
    (.skip)))
    (.reg [⟨.t 49, .mov (.p 0), none⟩,
    ⟨.t 50, .mov (.p 12), none⟩,
    ⟨.t 51, .mov (.p 13), none⟩,
    ⟨.t 52, .mov (.p 14), none⟩,
    ⟨.t 53, .mov (.p 3), none⟩,
    ⟨.t 54, .call F_slices_medianCmpFunc_runes_span [.t 49, .t 50, .t 51, .t 52, .p 11, .t 53], none⟩,
    ⟨.p 13, .mov (.t 54), none⟩]))
    (.skip)))
    (.seq (.reg [⟨.p 55, .load1 (.p 11), none⟩])
    (.block 0 [8, 9]
    (.seq (.reg [⟨.t 58, .bin .eql (.p 55) (.c (.int .i64 0)), none⟩,
    ⟨.p 57, .mov (.t 58), none⟩])
    (.cond (.p 57)
    (.seq (.reg [⟨.t 59, .mov (.p 13), none⟩,
    ⟨.p 8, .mov (.t 59), none⟩,
    ⟨.p 9, .mov (.c (.int .i64 1)), none⟩])
    (.ret))
    (.seq (.reg [⟨.t 61, .bin .eql (.p 55) (.c (.int .i64 12)), none⟩,
    ⟨.p 60, .mov (.t 61), none⟩])
    (.cond (.p 60)
    (.seq (.reg [⟨.t 62, .mov (.p 13), none⟩,
    ⟨.p 8, .mov (.t 62), none⟩,
    ⟨.p 9, .mov (.c (.int .i64 2)), none⟩])
    (.ret))
    (.seq (.reg [⟨.t 56, .mov (.p 13), none⟩,
    ⟨.p 8, .mov (.t 56), none⟩,
    ⟨.p 9, .mov (.c (.int .i64 0)), none⟩])
    (.ret))))))))))))))
def cf_slices_choosePivotCmpFunc_runes_span : CFunc :=
{ nargs := 4, ps := [0, 1, 2, 3, 8, 9, 10, 11, 12, 13, 14, 34, 36, 55, 57, 60], results := [.slot 8, .slot 9], body := bd_slices_choosePivotCmpFunc_runes_span }

/- slices.reverseRangeCmpFunc[gobo/runes.span] -/
def lb_slices_reverseRangeCmpFunc_runes_span_0 : CCode :=
 .seq (.seq (.reg [⟨.t 13, .mov (.p 8), none⟩,
    ⟨.t 14, .mov (.p 9), none⟩,
    ⟨.p 15, .bin .lss (.t 13) (.t 14), none⟩])
    (.cond (.p 15)
    (.skip)
    (.exit 0)))
    (.block 1 [0, 8, 9]
    (.seq (.dreg [⟨⟨.t 16, .mov (.p 0), none⟩, false, false, []⟩,
    ⟨⟨.t 17, .mov (.p 8), none⟩, false, false, []⟩,
    ⟨⟨.t 18, .mov (.p 0), none⟩, false, false, []⟩,
    ⟨⟨.t 19, .mov (.p 9), none⟩, false, false, []⟩,
    ⟨⟨.t 20, .mov (.p 0), none⟩, false, false, []⟩,
    ⟨⟨.t 21, .mov (.p 9), none⟩, false, false, []⟩,
    ⟨⟨.t 22, .idxAddr 2 (.t 20) (.t 21), none⟩, false, false, []⟩,
    ⟨⟨.t 23, .loadN 2 (.t 22), none⟩, false, false, []⟩,
    ⟨⟨.t 24, .mov (.p 0), none⟩, false, false, []⟩,
    ⟨⟨.t 25, .mov (.p 8), none⟩, false, false, []⟩,
    ⟨⟨.t 26, .idxAddr 2 (.t 24) (.t 25), none⟩, false, false, []⟩,
    ⟨⟨.t 27, .loadN 2 (.t 26), none⟩, false, false, []⟩,
    ⟨⟨.t 28, .idxAddr 2 (.t 16) (.t 17), none⟩, false, false, []⟩,
    ⟨⟨.no, .store 2 (.t 28) (.t 23), none⟩, false, false, []⟩,
    ⟨⟨.t 29, .idxAddr 2 (.t 18) (.t 19), none⟩, false, false, []⟩,
    ⟨⟨.no, .store 2 (.t 29) (.t 27), none⟩, false, false, []⟩])
    (.seq (.reg [⟨.t 30, .mov (.p 8), none⟩,
    ⟨.t 31, .bin .add (.t 30) (.c (.int .i64 1)), none⟩,
    ⟨.p 8, .mov (.t 31), none⟩])
    (.reg [⟨.t 32, .mov (.p 9), none⟩,
    ⟨.t 33, .bin .sub (.t 32) (.c (.int .i64 1)), none⟩,
    ⟨.p 9, .mov (.t 33), none⟩]))))
def bd_slices_reverseRangeCmpFunc_runes_span : CCode :=
 .seq (.reg [⟨.t 10, .mov (.p 1), none⟩,
    ⟨.p 8, .mov (.t 10), none⟩])
    (.seq (.reg [⟨.t 11, .mov (.p 2), none⟩,
    ⟨.t 12, .bin .sub (.t 11) (.c (.int .i64 1)), none⟩,
    ⟨.p 9, .mov (.t 12), none⟩])
    (.block 0 []
    (.loop [0, 8, 9] lb_slices_reverseRangeCmpFunc_runes_span_0)))
def cf_slices_reverseRangeCmpFunc_runes_span : CFunc :=
{ nargs := 4, ps := [0, 1, 2, 3, 8, 9, 15], results := [], body := bd_slices_reverseRangeCmpFunc_runes_span }

/- slices.partialInsertionSortCmpFunc[gobo/runes.span] -/
def lb_slices_partialInsertionSortCmpFunc_runes_span_0 : CCode :=
 .seq (.seq (.dreg [⟨⟨.t 19, .mov (.p 9), none⟩, false, false, []⟩,
    ⟨⟨.t 20, .mov (.p 2), none⟩, false, false, []⟩,
    ⟨⟨.t 21, .bin .lss (.t 19) (.t 20), none⟩, false, false, []⟩,
    ⟨⟨.t 22, .mov (.t 21), none⟩, false, false, []⟩,
    ⟨⟨.t 23, .mov (.p 3), some (.t 22, true)⟩, false, false, []⟩,
    ⟨⟨.t 24, .mov (.p 0), some (.t 22, true)⟩, false, false, []⟩,
    ⟨⟨.t 25, .mov (.p 9), some (.t 22, true)⟩, false, false, []⟩,
    ⟨⟨.t 26, .idxAddr 2 (.t 24) (.t 25), some (.t 22, true)⟩, false, false, []⟩,
    ⟨⟨.t 27, .loadN 2 (.t 26), some (.t 22, true)⟩, false, false, []⟩,
    ⟨⟨.t 28, .mov (.p 0), some (.t 22, true)⟩, false, false, []⟩,
    ⟨⟨.t 29, .mov (.p 9), some (.t 22, true)⟩, false, false, []⟩,
    ⟨⟨.t 30, .bin .sub (.t 29) (.c (.int .i64 1)), some (.t 22, true)⟩, false, false, []⟩,
    ⟨⟨.t 31, .idxAddr 2 (.t 28) (.t 30), some (.t 22, true)⟩, false, false, []⟩,
    ⟨⟨.t 32, .loadN 2 (.t 31), some (.t 22, true)⟩, false, false, []⟩,
    ⟨⟨.t 33, .callV (.t 23) [.t 27, .t 32], some (.t 22, true)⟩, false, false, []⟩,
    ⟨⟨.t 34, .bin .lss (.t 33) (.c (.int .i64 0)), some (.t 22, true)⟩, false, false, []⟩,
    ⟨⟨.t 35, .un .not (.t 34), some (.t 22, true)⟩, false, false, []⟩,
    ⟨⟨.p 36, .pick (.t 22) (.t 35) (.c (.bool false)), none⟩, false, false, []⟩])
    (.cond (.p 36)
    (.skip)
    (.exit 2)))
    (.block 3 [0, 1, 2, 3, 9, 10]
    (.reg [⟨.t 37, .mov (.p 9), none⟩,
    ⟨.t 38, .bin .add (.t 37) (.c (.int .i64 1)), none⟩,
    ⟨.p 9, .mov (.t 38), none⟩]))
def lb_slices_partialInsertionSortCmpFunc_runes_span_1 : CCode :=
 .seq (.seq (.reg [⟨.t 68, .mov (.p 11), none⟩,
    ⟨.p 69, .bin .geq (.t 68) (.c (.int .i64 1)), none⟩])
    (.cond (.p 69)
    (.skip)
    (.exit 4)))
    (.seq (.block 5 [0, 1, 2, 3, 9, 10, 11]
    (.seq (.seq (.dreg [⟨⟨.t 72, .mov (.p 3), none⟩, false, false, []⟩,
    ⟨⟨.t 73, .mov (.p 0), none⟩, false, false, []⟩,
    ⟨⟨.t 74, .mov (.p 11), none⟩, false, false, []⟩,
    ⟨⟨.t 75, .idxAddr 2 (.t 73) (.t 74), none⟩, false, false, []⟩,
    ⟨⟨.t 76, .loadN 2 (.t 75), none⟩, false, false, []⟩,
    ⟨⟨.t 77, .mov (.p 0), none⟩, false, false, []⟩,
    ⟨⟨.t 78, .mov (.p 11), none⟩, false, false, []⟩,
    ⟨⟨.t 79, .bin .sub (.t 78) (.c (.int .i64 1)), none⟩, false, false, []⟩,
    ⟨⟨.t 80, .idxAddr 2 (.t 77) (.t 79), none⟩, false, false, []⟩,
    ⟨⟨.t 81, .loadN 2 (.t 80), none⟩, false, false, []⟩,
    ⟨⟨.t 82, .callV (.t 72) [.t 76, .t 81], none⟩, false, false, []⟩,
    ⟨⟨.t 83, .bin .lss (.t 82) (.c (.int .i64 0)), none⟩, false, false, []⟩,
    ⟨⟨.p 84, .un .not (.t 83), none⟩, false, false, []⟩])
    (.cond (.p 84)
    (.exit 4)
    (.skip)))
    (.dreg [⟨⟨.t 85, .mov (.p 0), none⟩, false, false, []⟩,
    ⟨⟨.t 86, .mov (.p 11), none⟩, false, false, []⟩,
    ⟨⟨.t 87, .mov (.p 0), none⟩, false, false, []⟩,
    ⟨⟨.t 88, .mov (.p 11), none⟩, false, false, []⟩,
    ⟨⟨.t 89, .bin .sub (.t 88) (.c (.int .i64 1)), none⟩, false, false, []⟩,
    ⟨⟨.t 90, .mov (.p 0), none⟩, false, false, []⟩,
    ⟨⟨.t 91, .mov (.p 11), none⟩, false, false, []⟩,
    ⟨⟨.t 92, .bin .sub (.t 91) (.c (.int .i64 1)), none⟩, false, false, []⟩,
    ⟨⟨.t 93, .idxAddr 2 (.t 90) (.t 92), none⟩, false, false, []⟩,
    ⟨⟨.t 94, .loadN 2 (.t 93), none⟩, false, false, []⟩,
    ⟨⟨.t 95, .mov (.p 0), none⟩, false, false, []⟩,
    ⟨⟨.t 96, .mov (.p 11), none⟩, false, false, []⟩,
    ⟨⟨.t 97, .idxAddr 2 (.t 95) (.t 96), none⟩, false, false, []⟩,
    ⟨⟨.t 98, .loadN 2 (.t 97), none⟩, false, false, []⟩,
    ⟨⟨.t 99, .idxAddr 2 (.t 85) (.t 86), none⟩, false, false, []⟩,
    ⟨⟨.no, .store 2 (.t 99) (.t 94), none⟩, false, false, []⟩,
    ⟨⟨.t 100, .idxAddr 2 (.t 87) (.t 89), none⟩, false, false, []⟩,
    ⟨⟨.no, .store 2 (.t 100) (.t 98), none⟩, false, false, []⟩])))
    (.reg [⟨.t 70, .mov (.p 11), none⟩,
    ⟨.t 71, .bin .sub (.t 70) (.c (.int .i64 1)), none⟩,
    ⟨.p 11, .mov (.t 71), none⟩]))
def lb_slices_partialInsertionSortCmpFunc_runes_span_2 : CCode :=
 .seq (.seq (.reg [⟨.t 107, .mov (.p 12), none⟩,
    ⟨.t 108, .mov (.p 2), none⟩,
    ⟨.p 109, .bin .lss (.t 107) (.t 108), none⟩])
    (.cond (.p 109)
    (.skip)
    (.exit 6)))
    (.seq (.block 7 [0, 1, 2, 3, 9, 10, 12]
    (.seq (.seq (.dreg [⟨⟨.t 112, .mov (.p 3), none⟩, false, false, []⟩,
    ⟨⟨.t 113, .mov (.p 0), none⟩, false, false, []⟩,
    ⟨⟨.t 114, .mov (.p 12), none⟩, false, false, []⟩,
    ⟨⟨.t 115, .idxAddr 2 (.t 113) (.t 114), none⟩, false, false, []⟩,
    ⟨⟨.t 116, .loadN 2 (.t 115), none⟩, false, false, []⟩,
    ⟨⟨.t 117, .mov (.p 0), none⟩, false, false, []⟩,
    ⟨⟨.t 118, .mov (.p 12), none⟩, false, false, []⟩,
    ⟨⟨.t 119, .bin .sub (.t 118) (.c (.int .i64 1)), none⟩, false, false, []⟩,
    ⟨⟨.t 120, .idxAddr 2 (.t 117) (.t 119), none⟩, false, false, []⟩,
    ⟨⟨.t 121, .loadN 2 (.t 120), none⟩, false, false, []⟩,
    ⟨⟨.t 122, .callV (.t 112) [.t 116, .t 121], none⟩, false, false, []⟩,
    ⟨⟨.t 123, .bin .lss (.t 122) (.c (.int .i64 0)), none⟩, false, false, []⟩,
    ⟨⟨.p 124, .un .not (.t 123), none⟩, false, false, []⟩])
    (.cond (.p 124)
    (.exit 6)
    (.skip)))
    (.dreg [⟨⟨.t 125, .mov (.p 0), none⟩, false, false, []⟩,
    ⟨⟨.t 126, .mov (.p 12), none⟩, false, false, []⟩,
    ⟨⟨.t 127, .mov (.p 0), none⟩, false, false, []⟩,
    ⟨⟨.t 128, .mov (.p 12), none⟩, false, false, []⟩,
    ⟨⟨.t 129, .bin .sub (.t 128) (.c (.int .i64 1)), none⟩, false, false, []⟩,
    ⟨⟨.t 130, .mov (.p 0), none⟩, false, false, []⟩,
    ⟨⟨.t 131, .mov (.p 12), none⟩, false, false, []⟩,
    ⟨⟨.t 132, .bin .sub (.t 131) (.c (.int .i64 1)), none⟩, false, false, []⟩,
    ⟨⟨.t 133, .idxAddr 2 (.t 130) (.t 132), none⟩, false, false, []⟩,
    ⟨⟨.t 134, .loadN 2 (.t 133), none⟩, false, false, []⟩,
    ⟨⟨.t 135, .mov (.p 0), none⟩, false, false, []⟩,
    ⟨⟨.t 136, .mov (.p 12), none⟩, false, false, []⟩,
    ⟨⟨.t 137, .idxAddr 2 (.t 135) (.t 136), none⟩, false, false, []⟩,
    ⟨⟨.t 138, .loadN 2 (.t 137), none⟩, false, false, []⟩,
    ⟨⟨.t 139, .idxAddr 2 (.t 125) (.t 126), none⟩, false, false, []⟩,
    ⟨⟨.no, .store 2 (.t 139) (.t 134), none⟩, false, false, []⟩,
    ⟨⟨.t 140, .idxAddr 2 (.t 127) (.t 129), none⟩, false, false, []⟩,
    ⟨⟨.no, .store 2 (.t 140) (.t 138), none⟩, false, false, []⟩])))
    (.reg [⟨.t 110, .mov (.p 12), none⟩,
    ⟨.t 111, .bin .add (.t 110) (.c (.int .i64 1)), none⟩,
    ⟨.p 12, .mov (.t 111), none⟩]))
def lb_slices_partialInsertionSortCmpFunc_runes_span_3 : CCode :=
 .seq (.seq (.reg [⟨.t 15, .mov (.p 10), none⟩,
    ⟨.p 16, .bin .lss (.t 15) (.c (.int .i64 5)), none⟩])
    (.cond (.p 16)
    (.skip)
    (.exit 0)))
    (.seq (.block 1 [0, 1, 2, 3, 9, 10]
    (.seq (.block 2 [0, 1, 2, 3, 9, 10]
    (.loop [0, 1, 2, 3, 9, 10] lb_slices_partialInsertionSortCmpFunc_runes_span_0))
    (.seq (.seq (.reg [⟨.t 39, .mov (.p 9), none⟩,
    ⟨.t 40, .mov (.p 2), none⟩,
    ⟨.p 41, .bin .eql (.t 39) (.t 40), none⟩])
    (.cond (.p 41)
    (.seq (.reg [⟨.p 8, .mov (.c (.bool true)), none⟩])
    (.ret))
    (.skip)))
    (.seq (.seq (.reg [⟨.t 42, .mov (.p 2), none⟩,
    ⟨.t 43, .mov (.p 1), none⟩,
    ⟨.t 44, .bin .sub (.t 42) (.t 43), none⟩,
    ⟨.p 45, .bin .lss (.t 44) (.c (.int .i64 50)), none⟩])
    (.cond (.p 45)
    (.seq (.reg [⟨.p 8, .mov (.c (.bool false)), none⟩])
    (.ret))
    (.skip)))
    (.seq (.dreg [⟨⟨.t 46, .mov (.p 0), none⟩, false, false, []⟩,
    ⟨⟨.t 47, .mov (.p 9), none⟩, false, false, []⟩,
    ⟨⟨.t 48, .mov (.p 0), none⟩, false, false, []⟩,
    ⟨⟨.t 49, .mov (.p 9), none⟩, false, false, []⟩,
    ⟨⟨.t 50, .bin .sub (.t 49) (.c (.int .i64 1)), none⟩, false, false, []⟩,
    ⟨⟨.t 51, .mov (.p 0), none⟩, false, false, []⟩,
    ⟨⟨.t 52, .mov (.p 9), none⟩, false, false, []⟩,
    ⟨⟨.t 53, .bin .sub (.t 52) (.c (.int .i64 1)), none⟩, false, false, []⟩,
    ⟨⟨.t 54, .idxAddr 2 (.t 51) (.t 53), none⟩, false, false, []⟩,
    ⟨⟨.t 55, .loadN 2 (.t 54), none⟩, false, false, []⟩,
    ⟨⟨.t 56, .mov (.p 0), none⟩, false, false, []⟩,
    ⟨⟨.t 57, .mov (.p 9), none⟩, false, false, []⟩,
    ⟨⟨.t 58, .idxAddr 2 (.t 56) (.t 57), none⟩, false, false, []⟩,
    ⟨⟨.t 59, .loadN 2 (.t 58), none⟩, false, false, []⟩,
    ⟨⟨.t 60, .idxAddr 2 (.t 46) (.t 47), none⟩, false, false, []⟩,
    ⟨⟨.no, .store 2 (.t 60) (.t 55), none⟩, false, false, []⟩,
    ⟨⟨.t 61, .idxAddr 2 (.t 48) (.t 50), none⟩, false, false, []⟩,
    ⟨⟨.no, .store 2 (.t 61) (.t 59), none⟩, false, false, []⟩])
    (.seq (.seq (.reg [⟨.t 62, .mov (.p 9), none⟩,
    ⟨.t 63, .mov (.p 1), none⟩,
    ⟨.t 64, .bin .sub (.t 62) (.t 63), none⟩,
    ⟨.p 65, .bin .geq (.t 64) (.c (.int .i64 2)), none⟩])
    (.cond (.p 65)
    (.seq (.reg [⟨.t 66, .mov (.p 9), none⟩,
    ⟨.t 67, .bin .sub (.t 66) (.c (.int .i64 1)), none⟩,
    ⟨.p 11, .mov (.t 67), none⟩])
    (.block 4 [0, 1, 2, 3, 9, 10]
    (.loop [0, 1, 2, 3, 9, 10, 11] lb_slices_partialInsertionSortCmpFunc_runes_span_1)))
    (.skip)))
    (.seq (.reg [⟨.t 101, .mov (.p 2), none⟩,
    ⟨.t 102, .mov (.p 9), none⟩,
    ⟨.t 103, .bin .sub (.t 101) (.t 102), none⟩,
    ⟨.p 104, .bin .geq (.t 103) (.c (.int .i64 2)), none⟩])
    (.cond (.p 104)
    (.seq (.reg [⟨.t 105, .mov (.p 9), none⟩,
    ⟨.t 106, .bin .add (.t 105) (.c (.int .i64 1)), none⟩,
    ⟨.p 12, .mov (.t 106), none⟩])
    (.block 6 [0, 1, 2, 3, 9, 10]
    (.loop [0, 1, 2, 3, 9, 10, 12] lb_slices_partialInsertionSortCmpFunc_runes_span_2)))
    (.skip)))))))))
    (.reg [⟨.t 17, .mov (.p 10), none⟩,
    ⟨.t 18, .bin .add (.t 17) (.c (.int .i64 1)), none⟩,
    ⟨.p 10, .mov (.t 18), none⟩]))
def bd_slices_partialInsertionSortCmpFunc_runes_span : CCode :=
 .seq (.reg [⟨.p 8, .mov (.c (.bool false)), none⟩])
    (.seq (.reg [⟨.t 13, .mov (.p 1), none⟩,
    ⟨.t 14, .bin .add (.t 13) (.c (.int .i64 1)), none⟩,
    ⟨.p 9, .mov (.t 14), none⟩])
    (.seq (.seq (.reg [⟨.p 10, .mov (.c (.int .i64 0)), none⟩])
    (.block 0 []
    (.loop [0, 1, 2, 3, 9, 10] lb_slices_partialInsertionSortCmpFunc_runes_span_3)))
    (.seq (.reg [⟨.p 8, .mov (.c (.bool false)), none⟩])
    (.ret))))
def cf_slices_partialInsertionSortCmpFunc_runes_span : CFunc :=
{ nargs := 4, ps := [0, 1, 2, 3, 8, 9, 10, 11, 12, 16, 36, 41, 45, 65, 69, 84, 104, 109, 124], results := [.slot 8], body := bd_slices_partialInsertionSortCmpFunc_runes_span }

/- slices.partitionEqualCmpFunc[gobo/runes.span] -/
def lb_slices_partitionEqualCmpFunc_runes_span_0 : CCode :=
 .seq (.seq (.dreg [⟨⟨.t 31, .mov (.p 11), none⟩, false, false, []⟩,
    ⟨⟨.t 32, .mov (.p 12), none⟩, false, false, []⟩,
    ⟨⟨.t 33, .bin .leq (.t 31) (.t 32), none⟩, false, false, []⟩,
    ⟨⟨.t 34, .mov (.t 33), none⟩, false, false, []⟩,
    ⟨⟨.t 35, .mov (.p 4), some (.t 34, true)⟩, false, false, []⟩,
    ⟨⟨.t 36, .mov (.p 0), some (.t 34, true)⟩, false, false, []⟩,
    ⟨⟨.t 37, .mov (.p 1), some (.t 34, true)⟩, false, false, []⟩,
    ⟨⟨.t 38, .idxAddr 2 (.t 36) (.t 37), some (.t 34, true)⟩, false, false, []⟩,
    ⟨⟨.t 39, .loadN 2 (.t 38), some (.t 34, true)⟩, false, false, []⟩,
    ⟨⟨.t 40, .mov (.p 0), some (.t 34, true)⟩, false, false, []⟩,
    ⟨⟨.t 41, .mov (.p 11), some (.t 34, true)⟩, false, false, []⟩,
    ⟨⟨.t 42, .idxAddr 2 (.t 40) (.t 41), some (.t 34, true)⟩, false, false, []⟩,
    ⟨⟨.t 43, .loadN 2 (.t 42), some (.t 34, true)⟩, false, false, []⟩,
    ⟨⟨.t 44, .callV (.t 35) [.t 39, .t 43], some (.t 34, true)⟩, false, false, []⟩,
    ⟨⟨.t 45, .bin .lss (.t 44) (.c (.int .i64 0)), some (.t 34, true)⟩, false, false, []⟩,
    ⟨⟨.t 46, .un .not (.t 45), some (.t 34, true)⟩, false, false, []⟩,
    ⟨⟨.p 47, .pick (.t 34) (.t 46) (.c (.bool false)), none⟩, false, false, []⟩])
    (.cond (.p 47)
    (.skip)
    (.exit 2)))
    (.block 3 [0, 1, 4, 11, 12]
    (.reg [⟨.t 48, .mov (.p 11), none⟩,
    ⟨.t 49, .bin .add (.t 48) (.c (.int .i64 1)), none⟩,
    ⟨.p 11, .mov (.t 49), none⟩]))
def lb_slices_partitionEqualCmpFunc_runes_span_1 : CCode :=
 .seq (.seq (.dreg [⟨⟨.t 50, .mov (.p 11), none⟩, false, false, []⟩,
    ⟨⟨.t 51, .mov (.p 12), none⟩, false, false, []⟩,
    ⟨⟨.t 52, .bin .leq (.t 50) (.t 51), none⟩, false, false, []⟩,
    ⟨⟨.t 53, .mov (.t 52), none⟩, false, false, []⟩,
    ⟨⟨.t 54, .mov (.p 4), some (.t 53, true)⟩, false, false, []⟩,
    ⟨⟨.t 55, .mov (.p 0), some (.t 53, true)⟩, false, false, []⟩,
    ⟨⟨.t 56, .mov (.p 1), some (.t 53, true)⟩, false, false, []⟩,
    ⟨⟨.t 57, .idxAddr 2 (.t 55) (.t 56), some (.t 53, true)⟩, false, false, []⟩,
    ⟨⟨.t 58, .loadN 2 (.t 57), some (.t 53, true)⟩, false, false, []⟩,
    ⟨⟨.t 59, .mov (.p 0), some (.t 53, true)⟩, false, false, []⟩,
    ⟨⟨.t 60, .mov (.p 12), some (.t 53, true)⟩, false, false, []⟩,
    ⟨⟨.t 61, .idxAddr 2 (.t 59) (.t 60), some (.t 53, true)⟩, false, false, []⟩,
    ⟨⟨.t 62, .loadN 2 (.t 61), some (.t 53, true)⟩, false, false, []⟩,
    ⟨⟨.t 63, .callV (.t 54) [.t 58, .t 62], some (.t 53, true)⟩, false, false, []⟩,
    ⟨⟨.t 64, .bin .lss (.t 63) (.c (.int .i64 0)), some (.t 53, true)⟩, false, false, []⟩,
    ⟨⟨.p 65, .pick (.t 53) (.t 64) (.c (.bool false)), none⟩, false, false, []⟩])
    (.cond (.p 65)
    (.skip)
    (.exit 4)))
    (.block 5 [0, 1, 4, 11, 12]
    (.reg [⟨.t 66, .mov (.p 12), none⟩,
    ⟨.t 67, .bin .sub (.t 66) (.c (.int .i64 1)), none⟩,
    ⟨.p 12, .mov (.t 67), none⟩]))
def lb_slices_partitionEqualCmpFunc_runes_span_2 : CCode :=
 .block 1 [0, 1, 4, 11, 12]
    (.seq (.block 2 [0, 1, 4, 11, 12]
    (.loop [0, 1, 4, 11, 12] lb_slices_partitionEqualCmpFunc_runes_span_0))
    (.seq (.block 4 [0, 1, 4, 11, 12]
    (.loop [0, 1, 4, 11, 12] lb_slices_partitionEqualCmpFunc_runes_span_1))
    (.seq (.seq (.reg [⟨.t 68, .mov (.p 11), none⟩,
    ⟨.t 69, .mov (.p 12), none⟩,
    ⟨.p 70, .bin .gtr (.t 68) (.t 69), none⟩])
    (.cond (.p 70)
    (.exit 0)
    (.skip)))
    (.seq (.dreg [⟨⟨.t 71, .mov (.p 0), none⟩, false, false, []⟩,
    ⟨⟨.t 72, .mov (.p 11), none⟩, false, false, []⟩,
    ⟨⟨.t 73, .mov (.p 0), none⟩, false, false, []⟩,
    ⟨⟨.t 74, .mov (.p 12), none⟩, false, false, []⟩,
    ⟨⟨.t 75, .mov (.p 0), none⟩, false, false, []⟩,
    ⟨⟨.t 76, .mov (.p 12), none⟩, false, false, []⟩,
    ⟨⟨.t 77, .idxAddr 2 (.t 75) (.t 76), none⟩, false, false, []⟩,
    ⟨⟨.t 78, .loadN 2 (.t 77), none⟩, false, false, []⟩,
    ⟨⟨.t 79, .mov (.p 0), none⟩, false, false, []⟩,
    ⟨⟨.t 80, .mov (.p 11), none⟩, false, false, []⟩,
    ⟨⟨.t 81, .idxAddr 2 (.t 79) (.t 80), none⟩, false, false, []⟩,
    ⟨⟨.t 82, .loadN 2 (.t 81), none⟩, false, false, []⟩,
    ⟨⟨.t 83, .idxAddr 2 (.t 71) (.t 72), none⟩, false, false, []⟩,
    ⟨⟨.no, .store 2 (.t 83) (.t 78), none⟩, false, false, []⟩,
    ⟨⟨.t 84, .idxAddr 2 (.t 73) (.t 74), none⟩, false, false, []⟩,
    ⟨⟨.no, .store 2 (.t 84) (.t 82), none⟩, false, false, []⟩])
    (.seq (.reg [⟨.t 85, .mov (.p 11), none⟩,
    ⟨.t 86, .bin .add (.t 85) (.c (.int .i64 1)), none⟩,
    ⟨.p 11, .mov (.t 86), none⟩])
    (.reg [⟨.t 87, .mov (.p 12), none⟩,
    ⟨.t 88, .bin .sub (.t 87) (.c (.int .i64 1)), none⟩,
    ⟨.p 12, .mov (.t 88), none⟩]))))))
def bd_slices_partitionEqualCmpFunc_runes_span : CCode :=
 .seq (.reg [⟨.p 10, .mov (.c (.int .i64 0)), none⟩])
    (.seq (.dreg [⟨⟨.t 13, .mov (.p 0), none⟩, false, false, []⟩,
    ⟨⟨.t 14, .mov (.p 1), none⟩, false, false, []⟩,
    ⟨⟨.t 15, .mov (.p 0), none⟩, false, false, []⟩,
    ⟨⟨.t 16, .mov (.p 3), none⟩, false, false, []⟩,
    ⟨⟨.t 17, .mov (.p 0), none⟩, false, false, []⟩,
    ⟨⟨.t 18, .mov (.p 3), none⟩, false, false, []⟩,
    ⟨⟨.t 19, .idxAddr 2 (.t 17) (.t 18), none⟩, false, false, []⟩,
    ⟨⟨.t 20, .loadN 2 (.t 19), none⟩, false, false, []⟩,
    ⟨⟨.t 21, .mov (.p 0), none⟩, false, false, []⟩,
    ⟨⟨.t 22, .mov (.p 1), none⟩, false, false, []⟩,
    ⟨⟨.t 23, .idxAddr 2 (.t 21) (.t 22), none⟩, false, false, []⟩,
    ⟨⟨.t 24, .loadN 2 (.t 23), none⟩, false, false, []⟩,
    ⟨⟨.t 25, .idxAddr 2 (.t 13) (.t 14), none⟩, false, false, []⟩,
    ⟨⟨.no, .store 2 (.t 25) (.t 20), none⟩, false, false, []⟩,
    ⟨⟨.t 26, .idxAddr 2 (.t 15) (.t 16), none⟩, false, false, []⟩,
    ⟨⟨.no, .store 2 (.t 26) (.t 24), none⟩, false, false, []⟩])
    (.seq (.reg [⟨.t 27, .mov (.p 1), none⟩,
    ⟨.t 28, .bin .add (.t 27) (.c (.int .i64 1)), none⟩,
    ⟨.t 29, .mov (.p 2), none⟩,
    ⟨.t 30, .bin .sub (.t 29) (.c (.int .i64 1)), none⟩,
    ⟨.p 11, .mov (.t 28), none⟩,
    ⟨.p 12, .mov (.t 30), none⟩])
    (.seq (.block 0 [11]
    (.loop [0, 1, 4, 11, 12] lb_slices_partitionEqualCmpFunc_runes_span_2))
    (.seq (.reg [⟨.t 89, .mov (.p 11), none⟩,
    ⟨.p 10, .mov (.t 89), none⟩])
    (.ret)))))
def cf_slices_partitionEqualCmpFunc_runes_span : CFunc :=
{ nargs := 5, ps := [0, 1, 2, 3, 4, 10, 11, 12, 47, 65, 70], results := [.slot 10], body := bd_slices_partitionEqualCmpFunc_runes_span }

/- slices.partitionCmpFunc[gobo/runes.span] -/
def lb_slices_partitionCmpFunc_runes_span_0 : CCode :=
 .seq (.seq (.dreg [⟨⟨.t 32, .mov (.p 12), none⟩, false, false, []⟩,
    ⟨⟨.t 33, .mov (.p 13), none⟩, false, false, []⟩,
    ⟨⟨.t 34, .bin .leq (.t 32) (.t 33), none⟩, false, false, []⟩,
    ⟨⟨.t 35, .mov (.t 34), none⟩, false, false, []⟩,
    ⟨⟨.t 36, .mov (.p 4), some (.t 35, true)⟩, false, false, []⟩,
    ⟨⟨.t 37, .mov (.p 0), some (.t 35, true)⟩, false, false, []⟩,
    ⟨⟨.t 38, .mov (.p 12), some (.t 35, true)⟩, false, false, []⟩,
    ⟨⟨.t 39, .idxAddr 2 (.t 37) (.t 38), some (.t 35, true)⟩, false, false, []⟩,
    ⟨⟨.t 40, .loadN 2 (.t 39), some (.t 35, true)⟩, false, false, []⟩,
    ⟨⟨.t 41, .mov (.p 0), some (.t 35, true)⟩, false, false, []⟩,
    ⟨⟨.t 42, .mov (.p 1), some (.t 35, true)⟩, false, false, []⟩,
    ⟨⟨.t 43, .idxAddr 2 (.t 41) (.t 42), some (.t 35, true)⟩, false, false, []⟩,
    ⟨⟨.t 44, .loadN 2 (.t 43), some (.t 35, true)⟩, false, false, []⟩,
    ⟨⟨.t 45, .callV (.t 36) [.t 40, .t 44], some (.t 35, true)⟩, false, false, []⟩,
    ⟨⟨.t 46, .bin .lss (.t 45) (.c (.int .i64 0)), some (.t 35, true)⟩, false, false, []⟩,
    ⟨⟨.p 47, .pick (.t 35) (.t 46) (.c (.bool false)), none⟩, false, false, []⟩])
    (.cond (.p 47)
    (.skip)
    (.exit 0)))
    (.block 1 [0, 1, 4, 12, 13]
    (.reg [⟨.t 48, .mov (.p 12), none⟩,
    ⟨.t 49, .bin .add (.t 48) (.c (.int .i64 1)), none⟩,
    ⟨.p 12, .mov (.t 49), none⟩]))
def lb_slices_partitionCmpFunc_runes_span_1 : CCode :=
 .seq (.seq (.dreg [⟨⟨.t 50, .mov (.p 12), none⟩, false, false, []⟩,
    ⟨⟨.t 51, .mov (.p 13), none⟩, false, false, []⟩,
    ⟨⟨.t 52, .bin .leq (.t 50) (.t 51), none⟩, false, false, []⟩,
    ⟨⟨.t 53, .mov (.t 52), none⟩, false, false, []⟩,
    ⟨⟨.t 54, .mov (.p 4), some (.t 53, true)⟩, false, false, []⟩,
    ⟨⟨.t 55, .mov (.p 0), some (.t 53, true)⟩, false, false, []⟩,
    ⟨⟨.t 56, .mov (.p 13), some (.t 53, true)⟩, false, false, []⟩,
    ⟨⟨.t 57, .idxAddr 2 (.t 55) (.t 56), some (.t 53, true)⟩, false, false, []⟩,
    ⟨⟨.t 58, .loadN 2 (.t 57), some (.t 53, true)⟩, false, false, []⟩,
    ⟨⟨.t 59, .mov (.p 0), some (.t 53, true)⟩, false, false, []⟩,
    ⟨⟨.t 60, .mov (.p 1), some (.t 53, true)⟩, false, false, []⟩,
    ⟨⟨.t 61, .idxAddr 2 (.t 59) (.t 60), some (.t 53, true)⟩, false, false, []⟩,
    ⟨⟨.t 62, .loadN 2 (.t 61), some (.t 53, true)⟩, false, false, []⟩,
    ⟨⟨.t 63, .callV (.t 54) [.t 58, .t 62], some (.t 53, true)⟩, false, false, []⟩,
    ⟨⟨.t 64, .bin .lss (.t 63) (.c (.int .i64 0)), some (.t 53, true)⟩, false, false, []⟩,
    ⟨⟨.t 65, .un .not (.t 64), some (.t 53, true)⟩, false, false, []⟩,
    ⟨⟨.p 66, .pick (.t 53) (.t 65) (.c (.bool false)), none⟩, false, false, []⟩])
    (.cond (.p 66)
    (.skip)
    (.exit 2)))
    (.block 3 [0, 1, 4, 12, 13]
    (.reg [⟨.t 67, .mov (.p 13), none⟩,
    ⟨.t 68, .bin .sub (.t 67) (.c (.int .i64 1)), none⟩,
    ⟨.p 13, .mov (.t 68), none⟩]))
def lb_slices_partitionCmpFunc_runes_span_2 : CCode :=
 .seq (.seq (.dreg [⟨⟨.t 105, .mov (.p 12), none⟩, false, false, []⟩,
    ⟨⟨.t 106, .mov (.p 13), none⟩, false, false, []⟩,
    ⟨⟨.t 107, .bin .leq (.t 105) (.t 106), none⟩, false, false, []⟩,
    ⟨⟨.t 108, .mov (.t 107), none⟩, false, false, []⟩,
    ⟨⟨.t 109, .mov (.p 4), some (.t 108, true)⟩, false, false, []⟩,
    ⟨⟨.t 110, .mov (.p 0), some (.t 108, true)⟩, false, false, []⟩,
    ⟨⟨.t 111, .mov (.p 12), some (.t 108, true)⟩, false, false, []⟩,
    ⟨⟨.t 112, .idxAddr 2 (.t 110) (.t 111), some (.t 108, true)⟩, false, false, []⟩,
    ⟨⟨.t 113, .loadN 2 (.t 112), some (.t 108, true)⟩, false, false, []⟩,
    ⟨⟨.t 114, .mov (.p 0), some (.t 108, true)⟩, false, false, []⟩,
    ⟨⟨.t 115, .mov (.p 1), some (.t 108, true)⟩, false, false, []⟩,
    ⟨⟨.t 116, .idxAddr 2 (.t 114) (.t 115), some (.t 108, true)⟩, false, false, []⟩,
    ⟨⟨.t 117, .loadN 2 (.t 116), some (.t 108, true)⟩, false, false, []⟩,
    ⟨⟨.t 118, .callV (.t 109) [.t 113, .t 117], some (.t 108, true)⟩, false, false, []⟩,
    ⟨⟨.t 119, .bin .lss (.t 118) (.c (.int .i64 0)), some (.t 108, true)⟩, false, false, []⟩,
    ⟨⟨.p 120, .pick (.t 108) (.t 119) (.c (.bool false)), none⟩, false, false, []⟩])
    (.cond (.p 120)
    (.skip)
    (.exit 6)))
    (.block 7 [0, 1, 4, 12, 13]
    (.reg [⟨.t 121, .mov (.p 12), none⟩,
    ⟨.t 122, .bin .add (.t 121) (.c (.int .i64 1)), none⟩,
    ⟨.p 12, .mov (.t 122), none⟩]))
def lb_slices_partitionCmpFunc_runes_span_3 : CCode :=
 .seq (.seq (.dreg [⟨⟨.t 123, .mov (.p 12), none⟩, false, false, []⟩,
    ⟨⟨.t 124, .mov (.p 13), none⟩, false, false, []⟩,
    ⟨⟨.t 125, .bin .leq (.t 123) (.t 124), none⟩, false, false, []⟩,
    ⟨⟨.t 126, .mov (.t 125), none⟩, false, false, []⟩,
    ⟨⟨.t 127, .mov (.p 4), some (.t 126, true)⟩, false, false, []⟩,
    ⟨⟨.t 128, .mov (.p 0), some (.t 126, true)⟩, false, false, []⟩,
    ⟨⟨.t 129, .mov (.p 13), some (.t 126, true)⟩, false, false, []⟩,
    ⟨⟨.t 130, .idxAddr 2 (.t 128) (.t 129), some (.t 126, true)⟩, false, false, []⟩,
    ⟨⟨.t 131, .loadN 2 (.t 130), some (.t 126, true)⟩, false, false, []⟩,
    ⟨⟨.t 132, .mov (.p 0), some (.t 126, true)⟩, false, false, []⟩,
    ⟨⟨.t 133, .mov (.p 1), some (.t 126, true)⟩, false, false, []⟩,
    ⟨⟨.t 134, .idxAddr 2 (.t 132) (.t 133), some (.t 126, true)⟩, false, false, []⟩,
    ⟨⟨.t 135, .loadN 2 (.t 134), some (.t 126, true)⟩, false, false, []⟩,
    ⟨⟨.t 136, .callV (.t 127) [.t 131, .t 135], some (.t 126, true)⟩, false, false, []⟩,
    ⟨⟨.t 137, .bin .lss (.t 136) (.c (.int .i64 0)), some (.t 126, true)⟩, false, false, []⟩,
    ⟨⟨.t 138, .un .not (.t 137), some (.t 126, true)⟩, false, false, []⟩,
    ⟨⟨.p 139, .pick (.t 126) (.t 138) (.c (.bool false)), none⟩, false, false, []⟩])
    (.cond (.p 139)
    (.skip)
    (.exit 8)))
    (.block 9 [0, 1, 4, 12, 13]
    (.reg [⟨.t 140, .mov (.p 13), none⟩,
    ⟨.t 141, .bin .sub (.t 140) (.c (.int .i64 1)), none⟩,
    ⟨.p 13, .mov (.t 141), none⟩]))
def lb_slices_partitionCmpFunc_runes_span_4 : CCode :=
 .block 5 [0, 1, 4, 12, 13]
    (.seq (.block 6 [0, 1, 4, 12, 13]
    (.loop [0, 1, 4, 12, 13] lb_slices_partitionCmpFunc_runes_span_2))
    (.seq (.block 8 [0, 1, 4, 12, 13]
    (.loop [0, 1, 4, 12, 13] lb_slices_partitionCmpFunc_runes_span_3))
    (.seq (.seq (.reg [⟨.t 142, .mov (.p 12), none⟩,
    ⟨.t 143, .mov (.p 13), none⟩,
    ⟨.p 144, .bin .gtr (.t 142) (.t 143), none⟩])
    (.cond (.p 144)
    (.exit 4)
    (.skip)))
    (.seq (.dreg [⟨⟨.t 145, .mov (.p 0), none⟩, false, false, []⟩,
    ⟨⟨.t 146, .mov (.p 12), none⟩, false, false, []⟩,
    ⟨⟨.t 147, .mov (.p 0), none⟩, false, false, []⟩,
    ⟨⟨.t 148, .mov (.p 13), none⟩, false, false, []⟩,
    ⟨⟨.t 149, .mov (.p 0), none⟩, false, false, []⟩,
    ⟨⟨.t 150, .mov (.p 13), none⟩, false, false, []⟩,
    ⟨⟨.t 151, .idxAddr 2 (.t 149) (.t 150), none⟩, false, false, []⟩,
    ⟨⟨.t 152, .loadN 2 (.t 151), none⟩, false, false, []⟩,
    ⟨⟨.t 153, .mov (.p 0), none⟩, false, false, []⟩,
    ⟨⟨.t 154, .mov (.p 12), none⟩, false, false, []⟩,
    ⟨⟨.t 155, .idxAddr 2 (.t 153) (.t 154), none⟩, false, false, []⟩,
    ⟨⟨.t 156, .loadN 2 (.t 155), none⟩, false, false, []⟩,
    ⟨⟨.t 157, .idxAddr 2 (.t 145) (.t 146), none⟩, false, false, []⟩,
    ⟨⟨.no, .store 2 (.t 157) (.t 152), none⟩, false, false, []⟩,
    ⟨⟨.t 158, .idxAddr 2 (.t 147) (.t 148), none⟩, false, false, []⟩,
    ⟨⟨.no, .store 2 (.t 158) (.t 156), none⟩, false, false, []⟩])
    (.seq (.reg [⟨.t 159, .mov (.p 12), none⟩,
    ⟨.t 160, .bin .add (.t 159) (.c (.int .i64 1)), none⟩,
    ⟨.p 12, .mov (.t 160), none⟩])
    (.reg [⟨.t 161, .mov (.p 13), none⟩,
    ⟨.t 162, .bin .sub (.t 161) (.c (.int .i64 1)), none⟩,
    ⟨.p 13, .mov (.t 162), none⟩]))))))
def bd_slices_partitionCmpFunc_runes_span : CCode :=
 .seq (.reg [⟨.p 10, .mov (.c (.int .i64 0)), none⟩,
    ⟨.p 11, .mov (.c (.bool false)), none⟩])
    (.seq (.dreg [⟨⟨.t 14, .mov (.p 0), none⟩, false, false, []⟩,
    ⟨⟨.t 15, .mov (.p 1), none⟩, false, false, []⟩,
    ⟨⟨.t 16, .mov (.p 0), none⟩, false, false, []⟩,
    ⟨⟨.t 17, .mov (.p 3), none⟩, false, false, []⟩,
    ⟨⟨.t 18, .mov (.p 0), none⟩, false, false, []⟩,
    ⟨⟨.t 19, .mov (.p 3), none⟩, false, false, []⟩,
    ⟨⟨.t 20, .idxAddr 2 (.t 18) (.t 19), none⟩, false, false, []⟩,
    ⟨⟨.t 21, .loadN 2 (.t 20), none⟩, false, false, []⟩,
    ⟨⟨.t 22, .mov (.p 0), none⟩, false, false, []⟩,
    ⟨⟨.t 23, .mov (.p 1), none⟩, false, false, []⟩,
    ⟨⟨.t 24, .idxAddr 2 (.t 22) (.t 23), none⟩, false, false, []⟩,
    ⟨⟨.t 25, .loadN 2 (.t 24), none⟩, false, false, []⟩,
    ⟨⟨.t 26, .idxAddr 2 (.t 14) (.t 15), none⟩, false, false, []⟩,
    ⟨⟨.no, .store 2 (.t 26) (.t 21), none⟩, false, false, []⟩,
    ⟨⟨.t 27, .idxAddr 2 (.t 16) (.t 17), none⟩, false, false, []⟩,
    ⟨⟨.no, .store 2 (.t 27) (.t 25), none⟩, false, false, []⟩])
    (.seq (.reg [⟨.t 28, .mov (.p 1), none⟩,
    ⟨.t 29, .bin .add (.t 28) (.c (.int .i64 1)), none⟩,
    ⟨.t 30, .mov (.p 2), none⟩,
    ⟨.t 31, .bin .sub (.t 30) (.c (.int .i64 1)), none⟩,
    ⟨.p 12, .mov (.t 29), none⟩,
    ⟨.p 13, .mov (.t 31), none⟩])
    (.seq (.block 0 [0, 1, 4, 12, 13]
    (.loop [0, 1, 4, 12, 13] lb_slices_partitionCmpFunc_runes_span_0))
    (.seq (.block 2 [0, 1, 4, 12, 13]
    (.loop [0, 1, 4, 12, 13] lb_slices_partitionCmpFunc_runes_span_1))
    (.seq (.seq (.reg [⟨.t 69, .mov (.p 12), none⟩,
    ⟨.t 70, .mov (.p 13), none⟩,
    ⟨.p 71, .bin .gtr (.t 69) (.t 70), none⟩])
    (.cond (.p 71)
    (.seq (.dreg [⟨⟨.t 72, .mov (.p 0), none⟩, false, false, []⟩,
    ⟨⟨.t 73, .mov (.p 13), none⟩, false, false, []⟩,
    ⟨⟨.t 74, .mov (.p 0), none⟩, false, false, []⟩,
    ⟨⟨.t 75, .mov (.p 1), none⟩, false, false, []⟩,
    ⟨⟨.t 76, .mov (.p 0), none⟩, false, false, []⟩,
    ⟨⟨.t 77, .mov (.p 1), none⟩, false, false, []⟩,
    ⟨⟨.t 78, .idxAddr 2 (.t 76) (.t 77), none⟩, false, false, []⟩,
    ⟨⟨.t 79, .loadN 2 (.t 78), none⟩, false, false, []⟩,
    ⟨⟨.t 80, .mov (.p 0), none⟩, false, false, []⟩,
    ⟨⟨.t 81, .mov (.p 13), none⟩, false, false, []⟩,
    ⟨⟨.t 82, .idxAddr 2 (.t 80) (.t 81), none⟩, false, false, []⟩,
    ⟨⟨.t 83, .loadN 2 (.t 82), none⟩, false, false, []⟩,
    ⟨⟨.t 84, .idxAddr 2 (.t 72) (.t 73), none⟩, false, false, []⟩,
    ⟨⟨.no, .store 2 (.t 84) (.t 79), none⟩, false, false, []⟩,
    ⟨⟨.t 85, .idxAddr 2 (.t 74) (.t 75), none⟩, false, false, []⟩,
    ⟨⟨.no, .store 2 (.t 85) (.t 83), none⟩, false, false, []⟩])
    (.seq (.reg [⟨.t 86, .mov (.p 13), none⟩,
    ⟨.p 10, .mov (.t 86), none⟩,
    ⟨.p 11, .mov (.c (.bool true)), none⟩])
    (.ret)))
    (.skip)))
    (.seq (.dreg [⟨⟨.t 87, .mov (.p 0), none⟩, false, false, []⟩,
    ⟨⟨.t 88, .mov (.p 12), none⟩, false, false, []⟩,
    ⟨⟨.t 89, .mov (.p 0), none⟩, false, false, []⟩,
    ⟨⟨.t 90, .mov (.p 13), none⟩, false, false, []⟩,
    ⟨⟨.t 91, .mov (.p 0), none⟩, false, false, []⟩,
    ⟨⟨.t 92, .mov (.p 13), none⟩, false, false, []⟩,
    ⟨⟨.t 93, .idxAddr 2 (.t 91) (.t 92), none⟩, false, false, []⟩,
    ⟨⟨.t 94, .loadN 2 (.t 93), none⟩, false, false, []⟩,
    ⟨⟨.t 95, .mov (.p 0), none⟩, false, false, []⟩,
    ⟨⟨.t 96, .mov (.p 12), none⟩, false, false, []⟩,
    ⟨⟨.t 97, .idxAddr 2 (.t 95) (.t 96), none⟩, false, false, []⟩,
    ⟨⟨.t 98, .loadN 2 (.t 97), none⟩, false, false, []⟩,
    ⟨⟨.t 99, .idxAddr 2 (.t 87) (.t 88), none⟩, false, false, []⟩,
    ⟨⟨.no, .store 2 (.t 99) (.t 94), none⟩, false, false, []⟩,
    ⟨⟨.t 100, .idxAddr 2 (.t 89) (.t 90), none⟩, false, false, []⟩,
    ⟨⟨.no, .store 2 (.t 100) (.t 98), none⟩, false, false, []⟩])
    (.seq (.reg [⟨.t 101, .mov (.p 12), none⟩,
    ⟨.t 102, .bin .add (.t 101) (.c (.int .i64 1)), none⟩,
    ⟨.p 12, .mov (.t 102), none⟩])
    (.seq (.reg [⟨.t 103, .mov (.p 13), none⟩,
    ⟨.t 104, .bin .sub (.t 103) (.c (.int .i64 1)), none⟩,
    ⟨.p 13, .mov (.t 104), none⟩])
    (.seq (.block 4 [0, 1, 13]
    (.loop [0, 1, 4, 12, 13] lb_slices_partitionCmpFunc_runes_span_4))
    (.seq (.dreg [⟨⟨.t 163, .mov (.p 0), none⟩, false, false, []⟩,
    ⟨⟨.t 164, .mov (.p 13), none⟩, false, false, []⟩,
    ⟨⟨.t 165, .mov (.p 0), none⟩, false, false, []⟩,
    ⟨⟨.t 166, .mov (.p 1), none⟩, false, false, []⟩,
    ⟨⟨.t 167, .mov (.p 0), none⟩, false, false, []⟩,
    ⟨⟨.t 168, .mov (.p 1), none⟩, false, false, []⟩,
    ⟨⟨.t 169, .idxAddr 2 (.t 167) (.t 168), none⟩, false, false, []⟩,
    ⟨⟨.t 170, .loadN 2 (.t 169), none⟩, false, false, []⟩,
    ⟨⟨.t 171, .mov (.p 0), none⟩, false, false, []⟩,
    ⟨⟨.t 172, .mov (.p 13), none⟩, false, false, []⟩,
    ⟨⟨.t 173, .idxAddr 2 (.t 171) (.t 172), none⟩, false, false, []⟩,
    ⟨⟨.t 174, .loadN 2 (.t 173), none⟩, false, false, []⟩,
    ⟨⟨.t 175, .idxAddr 2 (.t 163) (.t 164), none⟩, false, false, []⟩,
    ⟨⟨.no, .store 2 (.t 175) (.t 170), none⟩, false, false, []⟩,
    ⟨⟨.t 176, .idxAddr 2 (.t 165) (.t 166), none⟩, false, false, []⟩,
    ⟨⟨.no, .store 2 (.t 176) (.t 174), none⟩, false, false, []⟩])
    (.seq (.reg [⟨.t 177, .mov (.p 13), none⟩,
    ⟨.p 10, .mov (.t 177), none⟩,
    ⟨.p 11, .mov (.c (.bool false)), none⟩])
    (.ret))))))))))))
def cf_slices_partitionCmpFunc_runes_span : CFunc :=
{ nargs := 5, ps := [0, 1, 2, 3, 4, 10, 11, 12, 13, 47, 66, 71, 120, 139, 144], results := [.slot 10, .slot 11], body := bd_slices_partitionCmpFunc_runes_span }

end Go.Ev
