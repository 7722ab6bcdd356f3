/- Several texts of this claim, joined. -/
import Derived.Test.YtimbiogcllmalaaDoorA

/- Numbers of this seat's functions, types and globals: printed by gen.py. -/
namespace Go.Ev
open Go
abbrev F_main_main : Nat := 0
abbrev F_gosem_cut : Nat := 1
abbrev F_gosem_cut_init : Nat := 2
abbrev F_gobolaw12_WordPlaces : Nat := 3
abbrev F_gobolaw12_WordBlanks : Nat := 4
abbrev F_gobolaw12_WordKinds : Nat := 5
abbrev F_gobolaw12_WordClasses : Nat := 6
abbrev F_gobolaw12_told : Nat := 7
abbrev F_word_All : Nat := 8
abbrev F_word_Class : Nat := 9
abbrev F_runes_Or : Nat := 10
abbrev F_runes_Same : Nat := 11
abbrev F_runes_Not : Nat := 12
abbrev F_word_Caught : Nat := 13
abbrev F_word_All_1 : Nat := 14
abbrev F_word_words : Nat := 15
abbrev F_decode_All : Nat := 16
abbrev F_word_Class_1 : Nat := 17
abbrev F_word_Read : Nat := 18
abbrev F_word_Reader_Class : Nat := 19
abbrev F_runes_Norm : Nat := 20
abbrev F_slices_Concat_api_Range_api_Range : Nat := 21
abbrev F_slices_Equal_api_Range_api_Range : Nat := 22
abbrev F_runes_Not_1 : Nat := 23
abbrev F_runes_spans : Nat := 24
abbrev F_runes_ranges : Nat := 25
abbrev F_word_Caught_1 : Nat := 26
abbrev F_word_run : Nat := 27
abbrev F_word_words_1 : Nat := 28
abbrev F_word_letter : Nat := 29
abbrev F_word_words_2 : Nat := 30
abbrev F_word_digit : Nat := 31
abbrev F_strings_IndexByte : Nat := 32
abbrev F_word_closed : Nat := 33
abbrev F_word_Fail : Nat := 34
abbrev F_decode_New : Nat := 35
abbrev F_decode_Dec_Feed : Nat := 36
abbrev F_decode_Dec_Close : Nat := 37
abbrev F_word_Reader_Skip : Nat := 38
abbrev F_word_Reader_Peek : Nat := 39
abbrev F_word_Reader_Rune : Nat := 40
abbrev F_word_Reader_At : Nat := 41
abbrev F_slices_Grow_api_Range_api_Range : Nat := 42
abbrev F_runes_number : Nat := 43
abbrev F_runes_behind : Nat := 44
abbrev F_slices_SortFunc_runes_span_runes_span : Nat := 45
abbrev F_runes_spans_1 : Nat := 46
abbrev F_cmp_Compare_int : Nat := 47
abbrev F_runes_value : Nat := 48
abbrev F_stringslite_IndexByte : Nat := 49
abbrev F_decode_Dec_take : Nat := 50
abbrev F_decode_Dec_taken : Nat := 51
abbrev F_decode_Dec_tell : Nat := 52
abbrev F_word_hasRune : Nat := 53
abbrev F_word_Reader_number : Nat := 54
abbrev F_runes_is : Nat := 55
abbrev F_slices_pdqsortCmpFunc_runes_span : Nat := 56
abbrev F_bits_Len : Nat := 57
abbrev F_cmp_isNaN_int : Nat := 58
abbrev F_bytealg_IndexByteString : Nat := 59
abbrev F_decode_Dec_more : Nat := 60
abbrev F_utf8_DecodeRune : Nat := 61
abbrev F_word_Reader_Must : Nat := 62
abbrev F_word_hex : Nat := 63
abbrev F_slices_insertionSortCmpFunc_runes_span : Nat := 64
abbrev F_slices_heapSortCmpFunc_runes_span : Nat := 65
abbrev F_slices_breakPatternsCmpFunc_runes_span : Nat := 66
abbrev F_slices_choosePivotCmpFunc_runes_span : Nat := 67
abbrev F_slices_reverseRangeCmpFunc_runes_span : Nat := 68
abbrev F_slices_partialInsertionSortCmpFunc_runes_span : Nat := 69
abbrev F_slices_partitionEqualCmpFunc_runes_span : Nat := 70
abbrev F_slices_partitionCmpFunc_runes_span : Nat := 71
abbrev F_bits_Len32 : Nat := 72
abbrev F_bits_Len64 : Nat := 73
abbrev F_decode_Dec_more_1 : Nat := 74
abbrev F_decode_grow : Nat := 75
abbrev F_decode_long : Nat := 76
abbrev F_utf8_decodeRuneSlow : Nat := 77
abbrev F_slices_siftDownCmpFunc_runes_span : Nat := 78
abbrev F_slices_nextPowerOfTwo : Nat := 79
abbrev F_slices_xorshift_Next : Nat := 80
abbrev F_slices_medianAdjacentCmpFunc_runes_span : Nat := 81
abbrev F_slices_medianCmpFunc_runes_span : Nat := 82
abbrev F_decode_second : Nat := 83
abbrev F_slices_Clone_byte_byte : Nat := 84
abbrev F_slices_order2CmpFunc_runes_span : Nat := 85
abbrev F_runtime_boundsError_Error : Nat := 86
abbrev F_runtime_boundsError_RuntimeError : Nat := 87
abbrev F_runtime_errorString_Error : Nat := 88
abbrev F_runtime_errorString_RuntimeError : Nat := 89
abbrev F_runtime_plainError_Error : Nat := 90
abbrev F_runtime_plainError_RuntimeError : Nat := 91
abbrev F_runtime_errorAddressString_Error : Nat := 92
abbrev F_runtime_errorAddressString_RuntimeError : Nat := 93
abbrev F_runtime_TypeAssertionError_Error : Nat := 94
abbrev F_runtime_TypeAssertionError_RuntimeError : Nat := 95
abbrev F_runtime_PanicNilError_Error : Nat := 96
abbrev F_runtime_PanicNilError_RuntimeError : Nat := 97
abbrev F_abi_Type_Align : Nat := 98
abbrev F_runtime_maps_unhashableTypeError_Error : Nat := 99
abbrev F_runtime_maps_unhashableTypeError_RuntimeError : Nat := 100
abbrev F_decode_Dec_Held : Nat := 101
abbrev F_abi_Kind_String : Nat := 102
abbrev F_var_s_door_gosem_cut_vars_holds_initialisers_alone_see_the_manifest_s_row_cutvarsword_look_11_test_files_too : Nat := 103
abbrev F_var_s_door_the_look_of_gosem_cut_vars_went_over_the_folder_that_the_caller_named_as_the_repository_s_root_look_11 : Nat := 104
abbrev F_var_s_door_utf8_acceptRanges_is_laid_by_its_own_initialiser_plain_data_look_11 : Nat := 105
abbrev F_var_s_door_utf8_first_is_laid_by_its_text_alone_pinned_1 : Nat := 106
abbrev F_gosem_cut_vars : Nat := 107
abbrev T_string : Nat := 9
abbrev T_word_Fault : Nat := 43
abbrev T_decode_wrong : Nat := 106
abbrev G_bytealg_MaxLen : Nat := 0
abbrev G_utf8_first : Nat := 1
abbrev G_utf8_acceptRanges : Nat := 2
end Go.Ev

/- Functions of the program, printed by gen.py. -/
namespace Go.Ev
open Go
/- gobo/gobolaw12.WordPlaces -/
def lb_gobolaw12_WordPlaces_0 : CCode :=
 .seq (.seq (.reg [⟨.t 43, .mov (.p 7), none⟩,
    ⟨.t 44, .mov (.p 3), none⟩,
    ⟨.t 45, .lenSl (.t 44), none⟩,
    ⟨.p 46, .bin .lss (.t 43) (.t 45), none⟩])
    (.cond (.p 46)
    (.skip)
    (.exit 0)))
    (.seq (.block 1 [0, 3, 6, 7]
    (.seq (.reg [⟨.t 49, .mov (.p 3), none⟩,
    ⟨.t 50, .mov (.p 7), none⟩,
    ⟨.t 51, .idxAddr 3 (.t 49) (.t 50), none⟩,
    ⟨.t 52, .loadN 3 (.t 51), none⟩,
    ⟨.p 8, .alloc [.int .i64 0, .str [], .int .i64 0], none⟩,
    ⟨.no, .store 3 (.p 8) (.t 52), none⟩])
    (.seq (.reg [⟨.t 53, .fieldAddr 1 (.p 8), none⟩,
    ⟨.t 54, .load1 (.t 53), none⟩,
    ⟨.t 55, .lenStr (.t 54), none⟩,
    ⟨.p 9, .mov (.t 55), none⟩])
    (.seq (.reg [⟨.t 56, .fieldAddr 2 (.p 8), none⟩,
    ⟨.t 57, .load1 (.t 56), none⟩,
    ⟨.p 10, .mov (.t 57), none⟩])
    (.seq (.seq (.reg [⟨.t 58, .fieldAddr 0 (.p 8), none⟩,
    ⟨.t 59, .load1 (.t 58), none⟩,
    ⟨.p 60, .bin .eql (.t 59) (.c (.int .i64 4)), none⟩])
    (.cond (.p 60)
    (.reg [⟨.t 61, .fieldAddr 2 (.p 8), none⟩,
    ⟨.t 62, .load1 (.t 61), none⟩,
    ⟨.t 63, .bin .add (.t 62) (.c (.int .i64 1)), none⟩,
    ⟨.p 10, .mov (.t 63), none⟩])
    (.skip)))
    (.seq (.seq (.dreg [⟨⟨.t 64, .fieldAddr 2 (.p 8), none⟩, false, false, []⟩,
    ⟨⟨.t 65, .load1 (.t 64), none⟩, false, false, []⟩,
    ⟨⟨.t 66, .mov (.p 6), none⟩, false, false, []⟩,
    ⟨⟨.t 67, .bin .lss (.t 65) (.t 66), none⟩, false, false, []⟩,
    ⟨⟨.t 68, .mov (.t 67), none⟩, false, false, []⟩,
    ⟨⟨.t 69, .mov (.p 10), some (.t 68, false)⟩, false, false, []⟩,
    ⟨⟨.t 70, .bin .lss (.t 69) (.c (.int .i64 0)), some (.t 68, false)⟩, false, false, []⟩,
    ⟨⟨.t 71, .pick (.t 68) (.c (.bool true)) (.t 70), none⟩, false, false, []⟩,
    ⟨⟨.t 72, .mov (.t 71), none⟩, false, false, []⟩,
    ⟨⟨.t 73, .mov (.p 10), some (.t 72, false)⟩, false, false, []⟩,
    ⟨⟨.t 74, .mov (.p 9), some (.t 72, false)⟩, false, false, []⟩,
    ⟨⟨.t 75, .bin .add (.t 73) (.t 74), some (.t 72, false)⟩, false, false, []⟩,
    ⟨⟨.t 76, .mov (.p 0), some (.t 72, false)⟩, false, false, []⟩,
    ⟨⟨.t 77, .lenStr (.t 76), some (.t 72, false)⟩, false, false, []⟩,
    ⟨⟨.t 78, .bin .gtr (.t 75) (.t 77), some (.t 72, false)⟩, false, false, []⟩,
    ⟨⟨.t 79, .pick (.t 72) (.c (.bool true)) (.t 78), none⟩, false, false, []⟩,
    ⟨⟨.t 80, .mov (.t 79), none⟩, false, false, []⟩,
    ⟨⟨.t 81, .mov (.p 0), some (.t 80, false)⟩, false, false, []⟩,
    ⟨⟨.t 82, .mov (.p 10), some (.t 80, false)⟩, false, false, []⟩,
    ⟨⟨.t 83, .mov (.p 10), some (.t 80, false)⟩, false, false, []⟩,
    ⟨⟨.t 84, .mov (.p 9), some (.t 80, false)⟩, false, false, []⟩,
    ⟨⟨.t 85, .bin .add (.t 83) (.t 84), some (.t 80, false)⟩, false, false, []⟩,
    ⟨⟨.t 86, .sliceStr (.t 81) (some (.t 82)) (some (.t 85)), some (.t 80, false)⟩, false, false, []⟩,
    ⟨⟨.t 87, .fieldAddr 1 (.p 8), some (.t 80, false)⟩, false, false, []⟩,
    ⟨⟨.t 88, .load1 (.t 87), some (.t 80, false)⟩, false, false, []⟩,
    ⟨⟨.t 89, .bin .neq (.t 86) (.t 88), some (.t 80, false)⟩, false, false, []⟩,
    ⟨⟨.t 90, .pick (.t 80) (.c (.bool true)) (.t 89), none⟩, false, false, []⟩,
    ⟨⟨.t 91, .mov (.t 90), none⟩, false, false, []⟩,
    ⟨⟨.t 92, .fieldAddr 0 (.p 8), some (.t 91, false)⟩, false, false, []⟩,
    ⟨⟨.t 93, .load1 (.t 92), some (.t 91, false)⟩, false, false, []⟩,
    ⟨⟨.t 94, .bin .lss (.t 93) (.c (.int .i64 1)), some (.t 91, false)⟩, false, false, []⟩,
    ⟨⟨.t 95, .pick (.t 91) (.c (.bool true)) (.t 94), none⟩, false, false, []⟩,
    ⟨⟨.t 96, .mov (.t 95), none⟩, false, false, []⟩,
    ⟨⟨.t 97, .fieldAddr 0 (.p 8), some (.t 96, false)⟩, false, false, []⟩,
    ⟨⟨.t 98, .load1 (.t 97), some (.t 96, false)⟩, false, false, []⟩,
    ⟨⟨.t 99, .bin .gtr (.t 98) (.c (.int .i64 5)), some (.t 96, false)⟩, false, false, []⟩,
    ⟨⟨.t 100, .pick (.t 96) (.c (.bool true)) (.t 99), none⟩, false, false, []⟩,
    ⟨⟨.t 101, .mov (.t 100), none⟩, false, false, []⟩,
    ⟨⟨.t 102, .fieldAddr 0 (.p 8), some (.t 101, false)⟩, false, false, []⟩,
    ⟨⟨.t 103, .load1 (.t 102), some (.t 101, false)⟩, false, false, []⟩,
    ⟨⟨.t 104, .bin .eql (.t 103) (.c (.int .i64 5)), some (.t 101, false)⟩, false, false, []⟩,
    ⟨⟨.t 105, .mov (.t 104), some (.t 101, false)⟩, false, false, []⟩,
    ⟨⟨.t 106, .mov (.p 9), some (.t 105, true)⟩, false, false, []⟩,
    ⟨⟨.t 107, .bin .neq (.t 106) (.c (.int .i64 0)), some (.t 105, true)⟩, false, false, []⟩,
    ⟨⟨.t 108, .mov (.t 107), some (.t 105, true)⟩, false, false, []⟩,
    ⟨⟨.t 109, .mov (.p 0), some (.t 108, false)⟩, false, false, []⟩,
    ⟨⟨.t 110, .fieldAddr 2 (.p 8), some (.t 108, false)⟩, false, false, []⟩,
    ⟨⟨.t 111, .load1 (.t 110), some (.t 108, false)⟩, false, false, []⟩,
    ⟨⟨.t 112, .idxStr (.t 109) (.t 111), some (.t 108, false)⟩, false, false, []⟩,
    ⟨⟨.t 113, .bin .neq (.t 112) (.c (.int .u8 10)), some (.t 108, false)⟩, false, false, []⟩,
    ⟨⟨.t 114, .pick (.t 108) (.c (.bool true)) (.t 113), some (.t 105, true)⟩, false, false, []⟩,
    ⟨⟨.t 115, .pick (.t 105) (.t 114) (.c (.bool false)), some (.t 101, false)⟩, false, false, []⟩,
    ⟨⟨.t 116, .pick (.t 101) (.c (.bool true)) (.t 115), none⟩, false, false, []⟩,
    ⟨⟨.t 117, .mov (.t 116), none⟩, false, false, []⟩,
    ⟨⟨.t 118, .fieldAddr 0 (.p 8), some (.t 117, false)⟩, false, false, []⟩,
    ⟨⟨.t 119, .load1 (.t 118), some (.t 117, false)⟩, false, false, []⟩,
    ⟨⟨.t 120, .bin .eql (.t 119) (.c (.int .i64 4)), some (.t 117, false)⟩, false, false, []⟩,
    ⟨⟨.t 121, .mov (.t 120), some (.t 117, false)⟩, false, false, []⟩,
    ⟨⟨.t 122, .mov (.p 0), some (.t 121, true)⟩, false, false, []⟩,
    ⟨⟨.t 123, .fieldAddr 2 (.p 8), some (.t 121, true)⟩, false, false, []⟩,
    ⟨⟨.t 124, .load1 (.t 123), some (.t 121, true)⟩, false, false, []⟩,
    ⟨⟨.t 125, .idxStr (.t 122) (.t 124), some (.t 121, true)⟩, false, false, []⟩,
    ⟨⟨.t 126, .bin .neq (.t 125) (.c (.int .u8 47)), some (.t 121, true)⟩, false, false, []⟩,
    ⟨⟨.t 127, .mov (.t 126), some (.t 121, true)⟩, false, false, []⟩,
    ⟨⟨.t 128, .mov (.p 10), some (.t 127, false)⟩, false, false, []⟩,
    ⟨⟨.t 129, .mov (.p 9), some (.t 127, false)⟩, false, false, []⟩,
    ⟨⟨.t 130, .bin .add (.t 128) (.t 129), some (.t 127, false)⟩, false, false, []⟩,
    ⟨⟨.t 131, .mov (.p 0), some (.t 127, false)⟩, false, false, []⟩,
    ⟨⟨.t 132, .lenStr (.t 131), some (.t 127, false)⟩, false, false, []⟩,
    ⟨⟨.t 133, .bin .geq (.t 130) (.t 132), some (.t 127, false)⟩, false, false, []⟩,
    ⟨⟨.t 134, .pick (.t 127) (.c (.bool true)) (.t 133), some (.t 121, true)⟩, false, false, []⟩,
    ⟨⟨.t 135, .mov (.t 134), some (.t 121, true)⟩, false, false, []⟩,
    ⟨⟨.t 136, .mov (.p 0), some (.t 135, false)⟩, false, false, []⟩,
    ⟨⟨.t 137, .mov (.p 10), some (.t 135, false)⟩, false, false, []⟩,
    ⟨⟨.t 138, .mov (.p 9), some (.t 135, false)⟩, false, false, []⟩,
    ⟨⟨.t 139, .bin .add (.t 137) (.t 138), some (.t 135, false)⟩, false, false, []⟩,
    ⟨⟨.t 140, .idxStr (.t 136) (.t 139), some (.t 135, false)⟩, false, false, []⟩,
    ⟨⟨.t 141, .bin .neq (.t 140) (.c (.int .u8 47)), some (.t 135, false)⟩, false, false, []⟩,
    ⟨⟨.t 142, .pick (.t 135) (.c (.bool true)) (.t 141), some (.t 121, true)⟩, false, false, []⟩,
    ⟨⟨.t 143, .pick (.t 121) (.t 142) (.c (.bool false)), some (.t 117, false)⟩, false, false, []⟩,
    ⟨⟨.p 144, .pick (.t 117) (.c (.bool true)) (.t 143), none⟩, false, false, []⟩])
    (.cond (.p 144)
    (.seq (.reg [⟨.p 2, .mov (.c (.bool false)), none⟩])
    (.ret))
    (.skip)))
    (.seq (.reg [⟨.t 145, .mov (.p 10), none⟩,
    ⟨.t 146, .mov (.p 9), none⟩,
    ⟨.t 147, .bin .add (.t 145) (.t 146), none⟩,
    ⟨.p 6, .mov (.t 147), none⟩])
    (.seq (.seq (.reg [⟨.t 148, .fieldAddr 0 (.p 8), none⟩,
    ⟨.t 149, .load1 (.t 148), none⟩,
    ⟨.p 150, .bin .gtr (.t 149) (.c (.int .i64 3)), none⟩])
    (.cond (.p 150)
    (.reg [⟨.t 151, .mov (.p 6), none⟩,
    ⟨.t 152, .bin .add (.t 151) (.c (.int .i64 1)), none⟩,
    ⟨.p 6, .mov (.t 152), none⟩])
    (.skip)))
    (.seq (.reg [⟨.t 153, .fieldAddr 0 (.p 8), none⟩,
    ⟨.t 154, .load1 (.t 153), none⟩,
    ⟨.p 155, .bin .eql (.t 154) (.c (.int .i64 5)), none⟩])
    (.cond (.p 155)
    (.reg [⟨.t 156, .fieldAddr 2 (.p 8), none⟩,
    ⟨.t 157, .load1 (.t 156), none⟩,
    ⟨.t 158, .bin .add (.t 157) (.c (.int .i64 1)), none⟩,
    ⟨.p 6, .mov (.t 158), none⟩])
    (.skip)))))))))))
    (.reg [⟨.t 47, .mov (.p 7), none⟩,
    ⟨.t 48, .bin .add (.t 47) (.c (.int .i64 1)), none⟩,
    ⟨.p 7, .mov (.t 48), none⟩]))
def bd_gobolaw12_WordPlaces : CCode :=
 .seq (.reg [⟨.p 2, .mov (.c (.bool false)), none⟩])
    (.seq (.seq (.reg [⟨.t 11, .mov (.p 0), none⟩,
    ⟨.t 12, .lenStr (.t 11), none⟩,
    ⟨.p 13, .bin .gtr (.t 12) (.c (.int .i64 400)), none⟩])
    (.cond (.p 13)
    (.seq (.reg [⟨.t 14, .call F_gobolaw12_told [], none⟩,
    ⟨.p 2, .mov (.t 14), none⟩])
    (.ret))
    (.skip)))
    (.seq (.reg [⟨.t 16, .mov (.p 0), none⟩,
    ⟨.t 17, .call F_word_All [.t 16], none⟩,
    ⟨.t 15, .mov (.t 17), none⟩,
    ⟨.t 18, .extract (.t 15) 0, none⟩,
    ⟨.t 19, .extract (.t 15) 1, none⟩,
    ⟨.t 20, .extract (.t 15) 2, none⟩,
    ⟨.p 3, .mov (.t 18), none⟩,
    ⟨.p 4, .mov (.t 19), none⟩,
    ⟨.p 5, .mov (.t 20), none⟩])
    (.seq (.seq (.reg [⟨.t 21, .mov (.p 4), none⟩,
    ⟨.p 22, .bin .neq (.t 21) (.c (.int .i64 0)), none⟩])
    (.cond (.p 22)
    (.seq (.reg [⟨.t 23, .call F_gobolaw12_told [], none⟩,
    ⟨.t 24, .mov (.t 23), none⟩,
    ⟨.t 25, .mov (.p 4), some (.t 24, true)⟩,
    ⟨.t 26, .bin .eql (.t 25) (.c (.int .i64 2)), some (.t 24, true)⟩,
    ⟨.t 27, .pick (.t 24) (.t 26) (.c (.bool false)), none⟩,
    ⟨.t 28, .mov (.t 27), none⟩,
    ⟨.t 29, .mov (.p 3), some (.t 28, true)⟩,
    ⟨.t 30, .lenSl (.t 29), some (.t 28, true)⟩,
    ⟨.t 31, .bin .eql (.t 30) (.c (.int .i64 0)), some (.t 28, true)⟩,
    ⟨.t 32, .pick (.t 28) (.t 31) (.c (.bool false)), none⟩,
    ⟨.t 33, .mov (.t 32), none⟩,
    ⟨.t 34, .mov (.p 5), some (.t 33, true)⟩,
    ⟨.t 35, .bin .geq (.t 34) (.c (.int .i64 0)), some (.t 33, true)⟩,
    ⟨.t 36, .pick (.t 33) (.t 35) (.c (.bool false)), none⟩,
    ⟨.t 37, .mov (.t 36), none⟩,
    ⟨.t 38, .mov (.p 5), some (.t 37, true)⟩,
    ⟨.t 39, .mov (.p 0), some (.t 37, true)⟩,
    ⟨.t 40, .lenStr (.t 39), some (.t 37, true)⟩,
    ⟨.t 41, .bin .lss (.t 38) (.t 40), some (.t 37, true)⟩,
    ⟨.t 42, .pick (.t 37) (.t 41) (.c (.bool false)), none⟩,
    ⟨.p 2, .mov (.t 42), none⟩])
    (.ret))
    (.skip)))
    (.seq (.reg [⟨.p 6, .mov (.c (.int .i64 0)), none⟩])
    (.seq (.seq (.reg [⟨.p 7, .mov (.c (.int .i64 0)), none⟩])
    (.block 0 [0, 6]
    (.loop [0, 3, 6, 7] lb_gobolaw12_WordPlaces_0)))
    (.seq (.reg [⟨.t 159, .call F_gobolaw12_told [], none⟩,
    ⟨.t 160, .mov (.t 159), none⟩,
    ⟨.t 161, .mov (.p 6), some (.t 160, true)⟩,
    ⟨.t 162, .mov (.p 0), some (.t 160, true)⟩,
    ⟨.t 163, .lenStr (.t 162), some (.t 160, true)⟩,
    ⟨.t 164, .bin .leq (.t 161) (.t 163), some (.t 160, true)⟩,
    ⟨.t 165, .pick (.t 160) (.t 164) (.c (.bool false)), none⟩,
    ⟨.p 2, .mov (.t 165), none⟩])
    (.ret)))))))
def cf_gobolaw12_WordPlaces : CFunc :=
{ nargs := 1, ps := [0, 2, 3, 4, 5, 6, 7, 8, 9, 10, 13, 22, 46, 60, 144, 150, 155], results := [.slot 2], body := bd_gobolaw12_WordPlaces }

/- gobo/gobolaw12.WordBlanks -/
def lb_gobolaw12_WordBlanks_0 : CCode :=
 .seq (.seq (.reg [⟨.t 85, .mov (.p 15), none⟩,
    ⟨.t 86, .mov (.p 7), none⟩,
    ⟨.t 87, .lenSl (.t 86), none⟩,
    ⟨.p 88, .bin .lss (.t 85) (.t 87), none⟩])
    (.cond (.p 88)
    (.skip)
    (.exit 0)))
    (.seq (.block 1 [7, 10, 11, 12, 15]
    (.seq (.reg [⟨.t 91, .mov (.p 7), none⟩,
    ⟨.t 92, .mov (.p 15), none⟩,
    ⟨.t 93, .idxAddr 3 (.t 91) (.t 92), none⟩,
    ⟨.t 94, .fieldAddr 2 (.t 93), none⟩,
    ⟨.t 95, .load1 (.t 94), none⟩,
    ⟨.p 16, .mov (.t 95), none⟩])
    (.seq (.seq (.reg [⟨.t 96, .mov (.p 16), none⟩,
    ⟨.t 97, .mov (.p 10), none⟩,
    ⟨.p 98, .bin .geq (.t 96) (.t 97), none⟩])
    (.cond (.p 98)
    (.reg [⟨.t 99, .mov (.p 16), none⟩,
    ⟨.t 100, .mov (.p 11), none⟩,
    ⟨.t 101, .lenStr (.t 100), none⟩,
    ⟨.t 102, .bin .add (.t 99) (.t 101), none⟩,
    ⟨.p 16, .mov (.t 102), none⟩])
    (.skip)))
    (.seq (.dreg [⟨⟨.t 103, .mov (.p 12), none⟩, false, false, []⟩,
    ⟨⟨.t 104, .mov (.p 15), none⟩, false, false, []⟩,
    ⟨⟨.t 105, .idxAddr 3 (.t 103) (.t 104), none⟩, false, false, []⟩,
    ⟨⟨.t 106, .fieldAddr 0 (.t 105), none⟩, false, false, []⟩,
    ⟨⟨.t 107, .load1 (.t 106), none⟩, false, false, []⟩,
    ⟨⟨.t 108, .mov (.p 7), none⟩, false, false, []⟩,
    ⟨⟨.t 109, .mov (.p 15), none⟩, false, false, []⟩,
    ⟨⟨.t 110, .idxAddr 3 (.t 108) (.t 109), none⟩, false, false, []⟩,
    ⟨⟨.t 111, .fieldAddr 0 (.t 110), none⟩, false, false, []⟩,
    ⟨⟨.t 112, .load1 (.t 111), none⟩, false, false, []⟩,
    ⟨⟨.t 113, .bin .neq (.t 107) (.t 112), none⟩, false, false, []⟩,
    ⟨⟨.t 114, .mov (.t 113), none⟩, false, false, []⟩,
    ⟨⟨.t 115, .mov (.p 12), some (.t 114, false)⟩, false, false, []⟩,
    ⟨⟨.t 116, .mov (.p 15), some (.t 114, false)⟩, false, false, []⟩,
    ⟨⟨.t 117, .idxAddr 3 (.t 115) (.t 116), some (.t 114, false)⟩, false, false, []⟩,
    ⟨⟨.t 118, .fieldAddr 1 (.t 117), some (.t 114, false)⟩, false, false, []⟩,
    ⟨⟨.t 119, .load1 (.t 118), some (.t 114, false)⟩, false, false, []⟩,
    ⟨⟨.t 120, .mov (.p 7), some (.t 114, false)⟩, false, false, []⟩,
    ⟨⟨.t 121, .mov (.p 15), some (.t 114, false)⟩, false, false, []⟩,
    ⟨⟨.t 122, .idxAddr 3 (.t 120) (.t 121), some (.t 114, false)⟩, false, false, []⟩,
    ⟨⟨.t 123, .fieldAddr 1 (.t 122), some (.t 114, false)⟩, false, false, []⟩,
    ⟨⟨.t 124, .load1 (.t 123), some (.t 114, false)⟩, false, false, []⟩,
    ⟨⟨.t 125, .bin .neq (.t 119) (.t 124), some (.t 114, false)⟩, false, false, []⟩,
    ⟨⟨.t 126, .pick (.t 114) (.c (.bool true)) (.t 125), none⟩, false, false, []⟩,
    ⟨⟨.t 127, .mov (.t 126), none⟩, false, false, []⟩,
    ⟨⟨.t 128, .mov (.p 12), some (.t 127, false)⟩, false, false, []⟩,
    ⟨⟨.t 129, .mov (.p 15), some (.t 127, false)⟩, false, false, []⟩,
    ⟨⟨.t 130, .idxAddr 3 (.t 128) (.t 129), some (.t 127, false)⟩, false, false, []⟩,
    ⟨⟨.t 131, .fieldAddr 2 (.t 130), some (.t 127, false)⟩, false, false, []⟩,
    ⟨⟨.t 132, .load1 (.t 131), some (.t 127, false)⟩, false, false, []⟩,
    ⟨⟨.t 133, .mov (.p 16), some (.t 127, false)⟩, false, false, []⟩,
    ⟨⟨.t 134, .bin .neq (.t 132) (.t 133), some (.t 127, false)⟩, false, false, []⟩,
    ⟨⟨.p 135, .pick (.t 127) (.c (.bool true)) (.t 134), none⟩, false, false, []⟩])
    (.cond (.p 135)
    (.seq (.reg [⟨.p 6, .mov (.c (.bool false)), none⟩])
    (.ret))
    (.skip))))))
    (.reg [⟨.t 89, .mov (.p 15), none⟩,
    ⟨.t 90, .bin .add (.t 89) (.c (.int .i64 1)), none⟩,
    ⟨.p 15, .mov (.t 90), none⟩]))
def bd_gobolaw12_WordBlanks : CCode :=
 .seq (.reg [⟨.p 6, .mov (.c (.bool false)), none⟩])
    (.seq (.seq (.reg [⟨.t 17, .mov (.p 0), none⟩,
    ⟨.t 18, .lenStr (.t 17), none⟩,
    ⟨.p 19, .bin .gtr (.t 18) (.c (.int .i64 100)), none⟩])
    (.cond (.p 19)
    (.seq (.reg [⟨.t 20, .call F_gobolaw12_told [], none⟩,
    ⟨.p 6, .mov (.t 20), none⟩])
    (.ret))
    (.skip)))
    (.seq (.reg [⟨.t 22, .mov (.p 0), none⟩,
    ⟨.t 23, .call F_word_All [.t 22], none⟩,
    ⟨.t 21, .mov (.t 23), none⟩,
    ⟨.t 24, .extract (.t 21) 0, none⟩,
    ⟨.t 25, .extract (.t 21) 1, none⟩,
    ⟨.t 26, .extract (.t 21) 2, none⟩,
    ⟨.p 7, .mov (.t 24), none⟩,
    ⟨.p 8, .mov (.t 25), none⟩,
    ⟨.t 9, .mov (.t 26), none⟩])
    (.seq (.seq (.reg [⟨.t 27, .mov (.p 8), none⟩,
    ⟨.t 28, .bin .neq (.t 27) (.c (.int .i64 0)), none⟩,
    ⟨.t 29, .mov (.t 28), none⟩,
    ⟨.t 30, .mov (.p 7), some (.t 29, false)⟩,
    ⟨.t 31, .lenSl (.t 30), some (.t 29, false)⟩,
    ⟨.t 32, .bin .eql (.t 31) (.c (.int .i64 0)), some (.t 29, false)⟩,
    ⟨.p 33, .pick (.t 29) (.c (.bool true)) (.t 32), none⟩])
    (.cond (.p 33)
    (.seq (.reg [⟨.t 34, .call F_gobolaw12_told [], none⟩,
    ⟨.p 6, .mov (.t 34), none⟩])
    (.ret))
    (.skip)))
    (.seq (.reg [⟨.t 35, .mov (.p 7), none⟩,
    ⟨.t 36, .mov (.p 1), none⟩,
    ⟨.t 37, .convI .u64 (.t 36), none⟩,
    ⟨.t 38, .mov (.p 7), none⟩,
    ⟨.t 39, .lenSl (.t 38), none⟩,
    ⟨.t 40, .convI .u64 (.t 39), none⟩,
    ⟨.t 41, .bin .rem (.t 37) (.t 40), none⟩,
    ⟨.t 42, .convI .i64 (.t 41), none⟩,
    ⟨.t 43, .idxAddr 3 (.t 35) (.t 42), none⟩,
    ⟨.t 44, .fieldAddr 2 (.t 43), none⟩,
    ⟨.t 45, .load1 (.t 44), none⟩,
    ⟨.p 10, .mov (.t 45), none⟩])
    (.seq (.reg [⟨.t 46, .mov (.p 2), none⟩,
    ⟨.t 47, .convI .u64 (.t 46), none⟩,
    ⟨.t 48, .bin .rem (.t 47) (.c (.int .u64 6)), none⟩,
    ⟨.t 49, .convI .i64 (.t 48), none⟩,
    ⟨.t 50, .sliceStr (.c (.str [32, 32, 32, 32, 32])) none (some (.t 49)), none⟩,
    ⟨.p 11, .mov (.t 50), none⟩])
    (.seq (.dreg [⟨⟨.t 52, .mov (.p 0), none⟩, false, false, []⟩,
    ⟨⟨.t 53, .mov (.p 10), none⟩, false, false, []⟩,
    ⟨⟨.t 54, .sliceStr (.t 52) none (some (.t 53)), none⟩, false, false, []⟩,
    ⟨⟨.t 55, .mov (.p 11), none⟩, false, false, []⟩,
    ⟨⟨.t 56, .bin .add (.t 54) (.t 55), none⟩, false, false, []⟩,
    ⟨⟨.t 57, .mov (.p 0), none⟩, false, false, []⟩,
    ⟨⟨.t 58, .mov (.p 10), none⟩, false, false, []⟩,
    ⟨⟨.t 59, .sliceStr (.t 57) (some (.t 58)) none, none⟩, false, false, []⟩,
    ⟨⟨.t 60, .bin .add (.t 56) (.t 59), none⟩, false, false, []⟩,
    ⟨⟨.t 61, .bin .add (.t 60) (.c (.str [10, 35, 32, 116, 111, 107, 32, 63, 32, 110, 111, 116, 104, 105, 110, 103])), none⟩, false, false, []⟩,
    ⟨⟨.t 62, .call F_word_All [.t 61], none⟩, false, false, []⟩,
    ⟨⟨.t 51, .mov (.t 62), none⟩, false, false, []⟩,
    ⟨⟨.t 63, .extract (.t 51) 0, none⟩, false, false, []⟩,
    ⟨⟨.t 64, .extract (.t 51) 1, none⟩, false, false, []⟩,
    ⟨⟨.t 65, .extract (.t 51) 2, none⟩, false, false, []⟩,
    ⟨⟨.p 12, .mov (.t 63), none⟩, false, false, []⟩,
    ⟨⟨.p 13, .mov (.t 64), none⟩, false, false, []⟩,
    ⟨⟨.t 14, .mov (.t 65), none⟩, false, false, []⟩])
    (.seq (.seq (.reg [⟨.t 66, .mov (.p 13), none⟩,
    ⟨.t 67, .bin .neq (.t 66) (.c (.int .i64 0)), none⟩,
    ⟨.t 68, .mov (.t 67), none⟩,
    ⟨.t 69, .mov (.p 12), some (.t 68, false)⟩,
    ⟨.t 70, .lenSl (.t 69), some (.t 68, false)⟩,
    ⟨.t 71, .mov (.p 7), some (.t 68, false)⟩,
    ⟨.t 72, .lenSl (.t 71), some (.t 68, false)⟩,
    ⟨.t 73, .bin .add (.t 72) (.c (.int .i64 1)), some (.t 68, false)⟩,
    ⟨.t 74, .bin .neq (.t 70) (.t 73), some (.t 68, false)⟩,
    ⟨.t 75, .pick (.t 68) (.c (.bool true)) (.t 74), none⟩,
    ⟨.t 76, .mov (.t 75), none⟩,
    ⟨.t 77, .mov (.p 12), some (.t 76, false)⟩,
    ⟨.t 78, .mov (.p 7), some (.t 76, false)⟩,
    ⟨.t 79, .lenSl (.t 78), some (.t 76, false)⟩,
    ⟨.t 80, .idxAddr 3 (.t 77) (.t 79), some (.t 76, false)⟩,
    ⟨.t 81, .fieldAddr 0 (.t 80), some (.t 76, false)⟩,
    ⟨.t 82, .load1 (.t 81), some (.t 76, false)⟩,
    ⟨.t 83, .bin .neq (.t 82) (.c (.int .i64 5)), some (.t 76, false)⟩,
    ⟨.p 84, .pick (.t 76) (.c (.bool true)) (.t 83), none⟩])
    (.cond (.p 84)
    (.seq (.reg [⟨.p 6, .mov (.c (.bool false)), none⟩])
    (.ret))
    (.skip)))
    (.seq (.seq (.reg [⟨.p 15, .mov (.c (.int .i64 0)), none⟩])
    (.block 0 []
    (.loop [7, 10, 11, 12, 15] lb_gobolaw12_WordBlanks_0)))
    (.seq (.reg [⟨.t 136, .call F_gobolaw12_told [], none⟩,
    ⟨.p 6, .mov (.t 136), none⟩])
    (.ret))))))))))
def cf_gobolaw12_WordBlanks : CFunc :=
{ nargs := 3, ps := [0, 1, 2, 6, 7, 8, 10, 11, 12, 13, 15, 16, 19, 33, 84, 88, 98, 135], results := [.slot 6], body := bd_gobolaw12_WordBlanks }

/- gobo/gobolaw12.WordKinds -/
def lb_gobolaw12_WordKinds_0 : CCode :=
 .seq (.seq (.reg [⟨.t 24, .mov (.p 8), none⟩,
    ⟨.p 25, .bin .lss (.t 24) (.c (.int .i64 12)), none⟩])
    (.cond (.p 25)
    (.skip)
    (.exit 0)))
    (.seq (.block 1 [3, 4, 5, 6, 7, 8]
    (.reg [⟨.t 28, .mov (.p 7), none⟩,
    ⟨.t 29, .mov (.t 28), none⟩,
    ⟨.t 30, .mov (.p 8), some (.t 29, false)⟩,
    ⟨.t 31, .idxStr (.c (.str [123, 125, 40, 41, 124, 42, 94, 60, 62, 58, 95, 61])) (.t 30), some (.t 29, false)⟩,
    ⟨.t 32, .mov (.p 3), some (.t 29, false)⟩,
    ⟨.t 33, .bin .eql (.t 31) (.t 32), some (.t 29, false)⟩,
    ⟨.t 34, .pick (.t 29) (.c (.bool true)) (.t 33), none⟩,
    ⟨.p 7, .mov (.t 34), none⟩]))
    (.reg [⟨.t 26, .mov (.p 8), none⟩,
    ⟨.t 27, .bin .add (.t 26) (.c (.int .i64 1)), none⟩,
    ⟨.p 8, .mov (.t 27), none⟩]))
def bd_gobolaw12_WordKinds : CCode :=
 .seq (.reg [⟨.p 2, .mov (.c (.bool false)), none⟩])
    (.seq (.reg [⟨.t 11, .mov (.p 0), none⟩,
    ⟨.t 12, .bin .rem (.t 11) (.c (.int .u8 95)), none⟩,
    ⟨.t 13, .bin .add (.t 12) (.c (.int .u8 32)), none⟩,
    ⟨.p 3, .mov (.t 13), none⟩])
    (.seq (.reg [⟨.t 15, .mov (.p 3), none⟩,
    ⟨.t 16, .lit [.int .u8 0] 1 [(0, 1, .t 15)], none⟩,
    ⟨.t 17, .bytesStr (.t 16), none⟩,
    ⟨.t 18, .bin .add (.c (.str [97, 32])) (.t 17), none⟩,
    ⟨.t 19, .bin .add (.t 18) (.c (.str [32, 49])), none⟩,
    ⟨.t 20, .call F_word_All [.t 19], none⟩,
    ⟨.t 14, .mov (.t 20), none⟩,
    ⟨.t 21, .extract (.t 14) 0, none⟩,
    ⟨.t 22, .extract (.t 14) 1, none⟩,
    ⟨.t 23, .extract (.t 14) 2, none⟩,
    ⟨.p 4, .mov (.t 21), none⟩,
    ⟨.p 5, .mov (.t 22), none⟩,
    ⟨.p 6, .mov (.t 23), none⟩])
    (.seq (.reg [⟨.p 7, .mov (.c (.bool false)), none⟩])
    (.seq (.seq (.reg [⟨.p 8, .mov (.c (.int .i64 0)), none⟩])
    (.block 0 [3, 4, 5, 6, 7]
    (.loop [3, 4, 5, 6, 7, 8] lb_gobolaw12_WordKinds_0)))
    (.seq (.reg [⟨.t 35, .mov (.p 3), none⟩,
    ⟨.t 36, .bin .geq (.t 35) (.c (.int .u8 97)), none⟩,
    ⟨.t 37, .mov (.t 36), none⟩,
    ⟨.t 38, .mov (.p 3), some (.t 37, true)⟩,
    ⟨.t 39, .bin .leq (.t 38) (.c (.int .u8 122)), some (.t 37, true)⟩,
    ⟨.t 40, .pick (.t 37) (.t 39) (.c (.bool false)), none⟩,
    ⟨.t 41, .mov (.p 3), none⟩,
    ⟨.t 42, .bin .geq (.t 41) (.c (.int .u8 48)), none⟩,
    ⟨.t 43, .mov (.t 42), none⟩,
    ⟨.t 44, .mov (.p 3), some (.t 43, true)⟩,
    ⟨.t 45, .bin .leq (.t 44) (.c (.int .u8 57)), some (.t 43, true)⟩,
    ⟨.t 46, .pick (.t 43) (.t 45) (.c (.bool false)), none⟩,
    ⟨.p 9, .mov (.t 40), none⟩,
    ⟨.p 10, .mov (.t 46), none⟩])
    (.seq (.block 2 [5, 6]
    (.seq (.reg [⟨.t 48, .mov (.p 3), none⟩,
    ⟨.t 49, .bin .eql (.t 48) (.c (.int .u8 32)), none⟩,
    ⟨.p 47, .mov (.t 49), none⟩])
    (.cond (.p 47)
    (.seq (.reg [⟨.t 50, .call F_gobolaw12_told [], none⟩,
    ⟨.t 51, .mov (.t 50), none⟩,
    ⟨.t 52, .mov (.p 5), some (.t 51, true)⟩,
    ⟨.t 53, .bin .eql (.t 52) (.c (.int .i64 0)), some (.t 51, true)⟩,
    ⟨.t 54, .pick (.t 51) (.t 53) (.c (.bool false)), none⟩,
    ⟨.t 55, .mov (.t 54), none⟩,
    ⟨.t 56, .mov (.p 4), some (.t 55, true)⟩,
    ⟨.t 57, .lenSl (.t 56), some (.t 55, true)⟩,
    ⟨.t 58, .bin .eql (.t 57) (.c (.int .i64 2)), some (.t 55, true)⟩,
    ⟨.t 59, .pick (.t 55) (.t 58) (.c (.bool false)), none⟩,
    ⟨.p 2, .mov (.t 59), none⟩])
    (.ret))
    (.seq (.reg [⟨.t 61, .mov (.p 3), none⟩,
    ⟨.t 62, .bin .eql (.t 61) (.c (.int .u8 35)), none⟩,
    ⟨.p 60, .mov (.t 62), none⟩])
    (.cond (.p 60)
    (.seq (.reg [⟨.t 63, .call F_gobolaw12_told [], none⟩,
    ⟨.t 64, .mov (.t 63), none⟩,
    ⟨.t 65, .mov (.p 5), some (.t 64, true)⟩,
    ⟨.t 66, .bin .eql (.t 65) (.c (.int .i64 0)), some (.t 64, true)⟩,
    ⟨.t 67, .pick (.t 64) (.t 66) (.c (.bool false)), none⟩,
    ⟨.t 68, .mov (.t 67), none⟩,
    ⟨.t 69, .mov (.p 4), some (.t 68, true)⟩,
    ⟨.t 70, .lenSl (.t 69), some (.t 68, true)⟩,
    ⟨.t 71, .bin .eql (.t 70) (.c (.int .i64 1)), some (.t 68, true)⟩,
    ⟨.t 72, .pick (.t 68) (.t 71) (.c (.bool false)), none⟩,
    ⟨.p 2, .mov (.t 72), none⟩])
    (.ret))
    (.seq (.reg [⟨.t 74, .mov (.p 7), none⟩,
    ⟨.t 75, .mov (.t 74), none⟩,
    ⟨.t 76, .mov (.p 9), some (.t 75, false)⟩,
    ⟨.t 77, .pick (.t 75) (.c (.bool true)) (.t 76), none⟩,
    ⟨.t 78, .mov (.t 77), none⟩,
    ⟨.t 79, .mov (.p 10), some (.t 78, false)⟩,
    ⟨.t 80, .pick (.t 78) (.c (.bool true)) (.t 79), none⟩,
    ⟨.p 73, .mov (.t 80), none⟩])
    (.cond (.p 73)
    (.seq (.dreg [⟨⟨.t 81, .call F_gobolaw12_told [], none⟩, false, false, []⟩,
    ⟨⟨.t 82, .mov (.t 81), none⟩, false, false, []⟩,
    ⟨⟨.t 83, .mov (.p 5), some (.t 82, true)⟩, false, false, []⟩,
    ⟨⟨.t 84, .bin .eql (.t 83) (.c (.int .i64 0)), some (.t 82, true)⟩, false, false, []⟩,
    ⟨⟨.t 85, .pick (.t 82) (.t 84) (.c (.bool false)), none⟩, false, false, []⟩,
    ⟨⟨.t 86, .mov (.t 85), none⟩, false, false, []⟩,
    ⟨⟨.t 87, .mov (.p 4), some (.t 86, true)⟩, false, false, []⟩,
    ⟨⟨.t 88, .lenSl (.t 87), some (.t 86, true)⟩, false, false, []⟩,
    ⟨⟨.t 89, .bin .eql (.t 88) (.c (.int .i64 3)), some (.t 86, true)⟩, false, false, []⟩,
    ⟨⟨.t 90, .pick (.t 86) (.t 89) (.c (.bool false)), none⟩, false, false, []⟩,
    ⟨⟨.t 91, .mov (.t 90), none⟩, false, false, []⟩,
    ⟨⟨.t 92, .mov (.p 4), some (.t 91, true)⟩, false, false, []⟩,
    ⟨⟨.t 93, .idxAddr 3 (.t 92) (.c (.int .i64 1)), some (.t 91, true)⟩, false, false, []⟩,
    ⟨⟨.t 94, .fieldAddr 2 (.t 93), some (.t 91, true)⟩, false, false, []⟩,
    ⟨⟨.t 95, .load1 (.t 94), some (.t 91, true)⟩, false, false, []⟩,
    ⟨⟨.t 96, .bin .eql (.t 95) (.c (.int .i64 2)), some (.t 91, true)⟩, false, false, []⟩,
    ⟨⟨.t 97, .pick (.t 91) (.t 96) (.c (.bool false)), none⟩, false, false, []⟩,
    ⟨⟨.t 98, .mov (.t 97), none⟩, false, false, []⟩,
    ⟨⟨.t 99, .mov (.p 4), some (.t 98, true)⟩, false, false, []⟩,
    ⟨⟨.t 100, .idxAddr 3 (.t 99) (.c (.int .i64 1)), some (.t 98, true)⟩, false, false, []⟩,
    ⟨⟨.t 101, .fieldAddr 1 (.t 100), some (.t 98, true)⟩, false, false, []⟩,
    ⟨⟨.t 102, .load1 (.t 101), some (.t 98, true)⟩, true, false, []⟩,
    ⟨⟨.t 103, .mov (.p 3), some (.t 98, true)⟩, false, false, []⟩,
    ⟨⟨.t 104, .lit [.int .u8 0] 1 [(0, 1, .t 103)], some (.t 98, true)⟩, false, false, [21]⟩,
    ⟨⟨.t 105, .bytesStr (.t 104), some (.t 98, true)⟩, false, false, []⟩,
    ⟨⟨.t 106, .bin .eql (.t 102) (.t 105), some (.t 98, true)⟩, false, false, []⟩,
    ⟨⟨.t 107, .pick (.t 98) (.t 106) (.c (.bool false)), none⟩, false, false, []⟩,
    ⟨⟨.t 108, .mov (.t 107), none⟩, false, false, []⟩,
    ⟨⟨.t 109, .mov (.p 4), some (.t 108, true)⟩, false, false, []⟩,
    ⟨⟨.t 110, .idxAddr 3 (.t 109) (.c (.int .i64 1)), some (.t 108, true)⟩, false, false, []⟩,
    ⟨⟨.t 111, .fieldAddr 0 (.t 110), some (.t 108, true)⟩, false, false, []⟩,
    ⟨⟨.t 112, .load1 (.t 111), some (.t 108, true)⟩, false, false, []⟩,
    ⟨⟨.t 113, .bin .eql (.t 112) (.c (.int .i64 3)), some (.t 108, true)⟩, false, false, []⟩,
    ⟨⟨.t 114, .mov (.p 7), some (.t 108, true)⟩, false, false, []⟩,
    ⟨⟨.t 115, .eqv false .bool (.t 113) (.t 114), some (.t 108, true)⟩, false, false, []⟩,
    ⟨⟨.t 116, .pick (.t 108) (.t 115) (.c (.bool false)), none⟩, false, false, []⟩,
    ⟨⟨.t 117, .mov (.t 116), none⟩, false, false, []⟩,
    ⟨⟨.t 118, .mov (.p 4), some (.t 117, true)⟩, false, false, []⟩,
    ⟨⟨.t 119, .idxAddr 3 (.t 118) (.c (.int .i64 1)), some (.t 117, true)⟩, false, false, []⟩,
    ⟨⟨.t 120, .fieldAddr 0 (.t 119), some (.t 117, true)⟩, false, false, []⟩,
    ⟨⟨.t 121, .load1 (.t 120), some (.t 117, true)⟩, false, false, []⟩,
    ⟨⟨.t 122, .bin .eql (.t 121) (.c (.int .i64 1)), some (.t 117, true)⟩, false, false, []⟩,
    ⟨⟨.t 123, .mov (.p 9), some (.t 117, true)⟩, false, false, []⟩,
    ⟨⟨.t 124, .eqv false .bool (.t 122) (.t 123), some (.t 117, true)⟩, false, false, []⟩,
    ⟨⟨.t 125, .pick (.t 117) (.t 124) (.c (.bool false)), none⟩, false, false, []⟩,
    ⟨⟨.t 126, .mov (.t 125), none⟩, false, false, []⟩,
    ⟨⟨.t 127, .mov (.p 4), some (.t 126, true)⟩, false, false, []⟩,
    ⟨⟨.t 128, .idxAddr 3 (.t 127) (.c (.int .i64 2)), some (.t 126, true)⟩, false, false, []⟩,
    ⟨⟨.t 129, .fieldAddr 0 (.t 128), some (.t 126, true)⟩, false, false, []⟩,
    ⟨⟨.t 130, .load1 (.t 129), some (.t 126, true)⟩, false, false, []⟩,
    ⟨⟨.t 131, .bin .eql (.t 130) (.c (.int .i64 2)), some (.t 126, true)⟩, false, false, []⟩,
    ⟨⟨.t 132, .pick (.t 126) (.t 131) (.c (.bool false)), none⟩, false, false, []⟩,
    ⟨⟨.p 2, .mov (.t 132), none⟩, false, false, []⟩])
    (.ret))
    (.skip))))))))
    (.seq (.reg [⟨.t 133, .call F_gobolaw12_told [], none⟩,
    ⟨.t 134, .mov (.t 133), none⟩,
    ⟨.t 135, .mov (.p 5), some (.t 134, true)⟩,
    ⟨.t 136, .bin .neq (.t 135) (.c (.int .i64 0)), some (.t 134, true)⟩,
    ⟨.t 137, .pick (.t 134) (.t 136) (.c (.bool false)), none⟩,
    ⟨.t 138, .mov (.t 137), none⟩,
    ⟨.t 139, .mov (.p 6), some (.t 138, true)⟩,
    ⟨.t 140, .bin .eql (.t 139) (.c (.int .i64 2)), some (.t 138, true)⟩,
    ⟨.t 141, .pick (.t 138) (.t 140) (.c (.bool false)), none⟩,
    ⟨.p 2, .mov (.t 141), none⟩])
    (.ret))))))))
def cf_gobolaw12_WordKinds : CFunc :=
{ nargs := 1, ps := [0, 2, 3, 4, 5, 6, 7, 8, 9, 10, 25, 47, 60, 73], results := [.slot 2], body := bd_gobolaw12_WordKinds }

/- gobo/gobolaw12.WordClasses -/
def bd_gobolaw12_WordClasses : CCode :=
 .seq (.reg [⟨.p 6, .mov (.c (.bool false)), none⟩])
    (.seq (.reg [⟨.t 19, .mov (.p 0), none⟩,
    ⟨.t 20, .convI .u64 (.t 19), none⟩,
    ⟨.t 21, .bin .rem (.t 20) (.c (.int .u64 26)), none⟩,
    ⟨.t 22, .convI .i64 (.t 21), none⟩,
    ⟨.t 23, .mov (.p 1), none⟩,
    ⟨.t 24, .convI .u64 (.t 23), none⟩,
    ⟨.t 25, .bin .rem (.t 24) (.c (.int .u64 26)), none⟩,
    ⟨.t 26, .convI .i64 (.t 25), none⟩,
    ⟨.t 27, .mov (.p 2), none⟩,
    ⟨.t 28, .convI .u64 (.t 27), none⟩,
    ⟨.t 29, .bin .rem (.t 28) (.c (.int .u64 26)), none⟩,
    ⟨.t 30, .convI .i64 (.t 29), none⟩,
    ⟨.p 7, .mov (.t 22), none⟩,
    ⟨.p 8, .mov (.t 26), none⟩,
    ⟨.p 9, .mov (.t 30), none⟩])
    (.seq (.reg [⟨.p 10, .mov (.c (.str [97, 98, 99, 100, 101, 102, 103, 104, 105, 106, 107, 108, 109, 110, 111, 112, 113, 114, 115, 116, 117, 118, 119, 120, 121, 122])), none⟩])
    (.seq (.dreg [⟨⟨.t 31, .mov (.p 10), none⟩, false, false, []⟩,
    ⟨⟨.t 32, .mov (.p 7), none⟩, false, false, []⟩,
    ⟨⟨.t 33, .mov (.p 7), none⟩, false, false, []⟩,
    ⟨⟨.t 34, .bin .add (.t 33) (.c (.int .i64 1)), none⟩, false, false, []⟩,
    ⟨⟨.t 35, .sliceStr (.t 31) (some (.t 32)) (some (.t 34)), none⟩, false, false, []⟩,
    ⟨⟨.t 36, .bin .add (.t 35) (.c (.str [45])), none⟩, false, false, []⟩,
    ⟨⟨.t 37, .mov (.p 10), none⟩, false, false, []⟩,
    ⟨⟨.t 38, .mov (.p 8), none⟩, false, false, []⟩,
    ⟨⟨.t 39, .mov (.p 8), none⟩, false, false, []⟩,
    ⟨⟨.t 40, .bin .add (.t 39) (.c (.int .i64 1)), none⟩, false, false, []⟩,
    ⟨⟨.t 41, .sliceStr (.t 37) (some (.t 38)) (some (.t 40)), none⟩, false, false, []⟩,
    ⟨⟨.t 42, .bin .add (.t 36) (.t 41), none⟩, false, false, []⟩,
    ⟨⟨.t 43, .mov (.p 10), none⟩, false, false, []⟩,
    ⟨⟨.t 44, .mov (.p 9), none⟩, false, false, []⟩,
    ⟨⟨.t 45, .mov (.p 9), none⟩, false, false, []⟩,
    ⟨⟨.t 46, .bin .add (.t 45) (.c (.int .i64 1)), none⟩, false, false, []⟩,
    ⟨⟨.t 47, .sliceStr (.t 43) (some (.t 44)) (some (.t 46)), none⟩, false, false, []⟩,
    ⟨⟨.t 48, .bin .add (.t 42) (.t 47), none⟩, false, false, []⟩,
    ⟨⟨.p 11, .mov (.t 48), none⟩, false, false, []⟩])
    (.seq (.reg [⟨.t 50, .mov (.p 11), none⟩,
    ⟨.t 51, .call F_word_Class [.t 50], none⟩,
    ⟨.t 49, .mov (.t 51), none⟩,
    ⟨.t 52, .extract (.t 49) 0, none⟩,
    ⟨.t 53, .extract (.t 49) 1, none⟩,
    ⟨.t 54, .extract (.t 49) 2, none⟩,
    ⟨.p 12, .mov (.t 52), none⟩,
    ⟨.p 13, .mov (.t 53), none⟩,
    ⟨.p 14, .mov (.t 54), none⟩])
    (.seq (.reg [⟨.t 56, .mov (.p 11), none⟩,
    ⟨.t 57, .bin .add (.c (.str [94])) (.t 56), none⟩,
    ⟨.t 58, .call F_word_Class [.t 57], none⟩,
    ⟨.t 55, .mov (.t 58), none⟩,
    ⟨.t 59, .extract (.t 55) 0, none⟩,
    ⟨.t 60, .extract (.t 55) 1, none⟩,
    ⟨.t 61, .extract (.t 55) 2, none⟩,
    ⟨.p 15, .mov (.t 59), none⟩,
    ⟨.p 16, .mov (.t 60), none⟩,
    ⟨.t 17, .mov (.t 61), none⟩])
    (.seq (.seq (.reg [⟨.t 62, .mov (.p 7), none⟩,
    ⟨.t 63, .mov (.p 8), none⟩,
    ⟨.p 64, .bin .gtr (.t 62) (.t 63), none⟩])
    (.cond (.p 64)
    (.seq (.reg [⟨.t 65, .call F_gobolaw12_told [], none⟩,
    ⟨.t 66, .mov (.t 65), none⟩,
    ⟨.t 67, .mov (.p 13), some (.t 66, true)⟩,
    ⟨.t 68, .bin .eql (.t 67) (.c (.int .i64 3)), some (.t 66, true)⟩,
    ⟨.t 69, .pick (.t 66) (.t 68) (.c (.bool false)), none⟩,
    ⟨.t 70, .mov (.t 69), none⟩,
    ⟨.t 71, .mov (.p 14), some (.t 70, true)⟩,
    ⟨.t 72, .bin .eql (.t 71) (.c (.int .i64 2)), some (.t 70, true)⟩,
    ⟨.t 73, .pick (.t 70) (.t 72) (.c (.bool false)), none⟩,
    ⟨.t 74, .mov (.t 73), none⟩,
    ⟨.t 75, .mov (.p 16), some (.t 74, true)⟩,
    ⟨.t 76, .bin .eql (.t 75) (.c (.int .i64 3)), some (.t 74, true)⟩,
    ⟨.t 77, .pick (.t 74) (.t 76) (.c (.bool false)), none⟩,
    ⟨.t 78, .mov (.t 77), none⟩,
    ⟨.t 79, .mov (.p 12), some (.t 78, true)⟩,
    ⟨.t 80, .lenSl (.t 79), some (.t 78, true)⟩,
    ⟨.t 81, .bin .eql (.t 80) (.c (.int .i64 0)), some (.t 78, true)⟩,
    ⟨.t 82, .pick (.t 78) (.t 81) (.c (.bool false)), none⟩,
    ⟨.p 6, .mov (.t 82), none⟩])
    (.ret))
    (.skip)))
    (.seq (.reg [⟨.t 83, .mov (.p 7), none⟩,
    ⟨.t 84, .bin .add (.c (.int .i64 97)) (.t 83), none⟩,
    ⟨.t 85, .convI .i32 (.t 84), none⟩,
    ⟨.t 86, .mov (.p 8), none⟩,
    ⟨.t 87, .bin .add (.c (.int .i64 97)) (.t 86), none⟩,
    ⟨.t 88, .convI .i32 (.t 87), none⟩,
    ⟨.t 89, .build [.int .i32 0, .int .i32 0] [(0, 1, .t 85), (1, 1, .t 88)], none⟩,
    ⟨.t 90, .lit [.int .i32 0, .int .i32 0] 1 [(0, 2, .t 89)], none⟩,
    ⟨.t 91, .mov (.p 9), none⟩,
    ⟨.t 92, .bin .add (.c (.int .i64 97)) (.t 91), none⟩,
    ⟨.t 93, .convI .i32 (.t 92), none⟩,
    ⟨.t 94, .mov (.p 9), none⟩,
    ⟨.t 95, .bin .add (.c (.int .i64 97)) (.t 94), none⟩,
    ⟨.t 96, .convI .i32 (.t 95), none⟩,
    ⟨.t 97, .build [.int .i32 0, .int .i32 0] [(0, 1, .t 93), (1, 1, .t 96)], none⟩,
    ⟨.t 98, .lit [.int .i32 0, .int .i32 0] 1 [(0, 2, .t 97)], none⟩,
    ⟨.t 99, .call F_runes_Or [.t 90, .t 98], none⟩,
    ⟨.p 18, .mov (.t 99), none⟩])
    (.seq (.reg [⟨.t 100, .call F_gobolaw12_told [], none⟩,
    ⟨.t 101, .mov (.t 100), none⟩,
    ⟨.t 102, .mov (.p 13), some (.t 101, true)⟩,
    ⟨.t 103, .bin .eql (.t 102) (.c (.int .i64 0)), some (.t 101, true)⟩,
    ⟨.t 104, .pick (.t 101) (.t 103) (.c (.bool false)), none⟩,
    ⟨.t 105, .mov (.t 104), none⟩,
    ⟨.t 106, .mov (.p 16), some (.t 105, true)⟩,
    ⟨.t 107, .bin .eql (.t 106) (.c (.int .i64 0)), some (.t 105, true)⟩,
    ⟨.t 108, .pick (.t 105) (.t 107) (.c (.bool false)), none⟩,
    ⟨.t 109, .mov (.t 108), none⟩,
    ⟨.t 110, .mov (.p 12), some (.t 109, true)⟩,
    ⟨.t 111, .mov (.p 18), some (.t 109, true)⟩,
    ⟨.t 112, .call F_runes_Same [.t 110, .t 111], some (.t 109, true)⟩,
    ⟨.t 113, .pick (.t 109) (.t 112) (.c (.bool false)), none⟩,
    ⟨.t 114, .mov (.t 113), none⟩,
    ⟨.t 115, .mov (.p 15), some (.t 114, true)⟩,
    ⟨.t 116, .mov (.p 18), some (.t 114, true)⟩,
    ⟨.t 117, .call F_runes_Not [.t 116], some (.t 114, true)⟩,
    ⟨.t 118, .call F_runes_Same [.t 115, .t 117], some (.t 114, true)⟩,
    ⟨.t 119, .pick (.t 114) (.t 118) (.c (.bool false)), none⟩,
    ⟨.p 6, .mov (.t 119), none⟩])
    (.ret)))))))))
def cf_gobolaw12_WordClasses : CFunc :=
{ nargs := 3, ps := [0, 1, 2, 6, 7, 8, 9, 10, 11, 12, 13, 14, 15, 16, 18, 64], results := [.slot 6], body := bd_gobolaw12_WordClasses }

/- gobo/gobolaw12.told -/
def bd_gobolaw12_told : CCode :=
 .seq (.reg [⟨.p 0, .mov (.c (.bool false)), none⟩])
    (.seq (.reg [⟨.t 17, .call F_word_All [.c (.str [116, 111, 107, 32, 97, 32, 47, 120, 92, 47, 121, 47, 32, 35, 32, 110, 111, 10])], none⟩,
    ⟨.t 16, .mov (.t 17), none⟩,
    ⟨.t 18, .extract (.t 16) 0, none⟩,
    ⟨.t 19, .extract (.t 16) 1, none⟩,
    ⟨.t 20, .extract (.t 16) 2, none⟩,
    ⟨.p 1, .mov (.t 18), none⟩,
    ⟨.p 2, .mov (.t 19), none⟩,
    ⟨.t 3, .mov (.t 20), none⟩])
    (.seq (.reg [⟨.t 22, .call F_word_All [.c (.str [97, 32, 63])], none⟩,
    ⟨.t 21, .mov (.t 22), none⟩,
    ⟨.t 23, .extract (.t 21) 0, none⟩,
    ⟨.t 24, .extract (.t 21) 1, none⟩,
    ⟨.t 25, .extract (.t 21) 2, none⟩,
    ⟨.t 4, .mov (.t 23), none⟩,
    ⟨.p 5, .mov (.t 24), none⟩,
    ⟨.p 6, .mov (.t 25), none⟩])
    (.seq (.reg [⟨.t 27, .call F_word_All [.c (.str [97, 32, 47, 120])], none⟩,
    ⟨.t 26, .mov (.t 27), none⟩,
    ⟨.t 28, .extract (.t 26) 0, none⟩,
    ⟨.t 29, .extract (.t 26) 1, none⟩,
    ⟨.t 30, .extract (.t 26) 2, none⟩,
    ⟨.t 7, .mov (.t 28), none⟩,
    ⟨.p 8, .mov (.t 29), none⟩,
    ⟨.p 9, .mov (.t 30), none⟩])
    (.seq (.reg [⟨.t 32, .call F_word_Class [.c (.str [97, 45, 99])], none⟩,
    ⟨.t 31, .mov (.t 32), none⟩,
    ⟨.t 33, .extract (.t 31) 0, none⟩,
    ⟨.t 34, .extract (.t 31) 1, none⟩,
    ⟨.t 35, .extract (.t 31) 2, none⟩,
    ⟨.p 10, .mov (.t 33), none⟩,
    ⟨.p 11, .mov (.t 34), none⟩,
    ⟨.t 12, .mov (.t 35), none⟩])
    (.seq (.reg [⟨.t 37, .call F_word_Class [.c (.str [99, 45, 97])], none⟩,
    ⟨.t 36, .mov (.t 37), none⟩,
    ⟨.t 38, .extract (.t 36) 0, none⟩,
    ⟨.t 39, .extract (.t 36) 1, none⟩,
    ⟨.t 40, .extract (.t 36) 2, none⟩,
    ⟨.t 13, .mov (.t 38), none⟩,
    ⟨.p 14, .mov (.t 39), none⟩,
    ⟨.p 15, .mov (.t 40), none⟩])
    (.seq (.reg [⟨.t 41, .mov (.p 2), none⟩,
    ⟨.t 42, .bin .eql (.t 41) (.c (.int .i64 0)), none⟩,
    ⟨.t 43, .mov (.t 42), none⟩,
    ⟨.t 44, .mov (.p 1), some (.t 43, true)⟩,
    ⟨.t 45, .lenSl (.t 44), some (.t 43, true)⟩,
    ⟨.t 46, .bin .eql (.t 45) (.c (.int .i64 4)), some (.t 43, true)⟩,
    ⟨.t 47, .pick (.t 43) (.t 46) (.c (.bool false)), none⟩,
    ⟨.t 48, .mov (.t 47), none⟩,
    ⟨.t 49, .mov (.p 1), some (.t 48, true)⟩,
    ⟨.t 50, .idxAddr 3 (.t 49) (.c (.int .i64 0)), some (.t 48, true)⟩,
    ⟨.t 51, .loadN 3 (.t 50), some (.t 48, true)⟩,
    ⟨.t 52, .build [.int .i64 0, .str [], .int .i64 0] [(0, 1, .c (.int .i64 1)), (1, 1, .c (.str [116, 111, 107]))], some (.t 48, true)⟩,
    ⟨.t 53, .eqv false (.agg [(0, .i), (1, .s), (2, .i)]) (.t 51) (.t 52), some (.t 48, true)⟩,
    ⟨.t 54, .pick (.t 48) (.t 53) (.c (.bool false)), none⟩,
    ⟨.t 55, .mov (.t 54), none⟩,
    ⟨.t 56, .mov (.p 1), some (.t 55, true)⟩,
    ⟨.t 57, .idxAddr 3 (.t 56) (.c (.int .i64 2)), some (.t 55, true)⟩,
    ⟨.t 58, .loadN 3 (.t 57), some (.t 55, true)⟩,
    ⟨.t 59, .build [.int .i64 0, .str [], .int .i64 0] [(0, 1, .c (.int .i64 4)), (1, 1, .c (.str [120, 92, 47, 121])), (2, 1, .c (.int .i64 6))], some (.t 55, true)⟩,
    ⟨.t 60, .eqv false (.agg [(0, .i), (1, .s), (2, .i)]) (.t 58) (.t 59), some (.t 55, true)⟩,
    ⟨.t 61, .pick (.t 55) (.t 60) (.c (.bool false)), none⟩,
    ⟨.t 62, .mov (.t 61), none⟩,
    ⟨.t 63, .mov (.p 1), some (.t 62, true)⟩,
    ⟨.t 64, .idxAddr 3 (.t 63) (.c (.int .i64 3)), some (.t 62, true)⟩,
    ⟨.t 65, .fieldAddr 0 (.t 64), some (.t 62, true)⟩,
    ⟨.t 66, .load1 (.t 65), some (.t 62, true)⟩,
    ⟨.t 67, .bin .eql (.t 66) (.c (.int .i64 5)), some (.t 62, true)⟩,
    ⟨.t 68, .pick (.t 62) (.t 67) (.c (.bool false)), none⟩,
    ⟨.t 69, .mov (.t 68), none⟩,
    ⟨.t 70, .mov (.p 5), some (.t 69, true)⟩,
    ⟨.t 71, .bin .eql (.t 70) (.c (.int .i64 2)), some (.t 69, true)⟩,
    ⟨.t 72, .pick (.t 69) (.t 71) (.c (.bool false)), none⟩,
    ⟨.t 73, .mov (.t 72), none⟩,
    ⟨.t 74, .mov (.p 6), some (.t 73, true)⟩,
    ⟨.t 75, .bin .eql (.t 74) (.c (.int .i64 2)), some (.t 73, true)⟩,
    ⟨.t 76, .pick (.t 73) (.t 75) (.c (.bool false)), none⟩,
    ⟨.t 77, .mov (.t 76), none⟩,
    ⟨.t 78, .mov (.p 8), some (.t 77, true)⟩,
    ⟨.t 79, .bin .eql (.t 78) (.c (.int .i64 2)), some (.t 77, true)⟩,
    ⟨.t 80, .pick (.t 77) (.t 79) (.c (.bool false)), none⟩,
    ⟨.t 81, .mov (.t 80), none⟩,
    ⟨.t 82, .mov (.p 9), some (.t 81, true)⟩,
    ⟨.t 83, .bin .eql (.t 82) (.c (.int .i64 2)), some (.t 81, true)⟩,
    ⟨.t 84, .pick (.t 81) (.t 83) (.c (.bool false)), none⟩,
    ⟨.t 85, .mov (.t 84), none⟩,
    ⟨.t 86, .mov (.p 11), some (.t 85, true)⟩,
    ⟨.t 87, .bin .eql (.t 86) (.c (.int .i64 0)), some (.t 85, true)⟩,
    ⟨.t 88, .pick (.t 85) (.t 87) (.c (.bool false)), none⟩,
    ⟨.t 89, .mov (.t 88), none⟩,
    ⟨.t 90, .mov (.p 10), some (.t 89, true)⟩,
    ⟨.t 91, .lenSl (.t 90), some (.t 89, true)⟩,
    ⟨.t 92, .bin .eql (.t 91) (.c (.int .i64 1)), some (.t 89, true)⟩,
    ⟨.t 93, .pick (.t 89) (.t 92) (.c (.bool false)), none⟩,
    ⟨.t 94, .mov (.t 93), none⟩,
    ⟨.t 95, .mov (.p 10), some (.t 94, true)⟩,
    ⟨.t 96, .idxAddr 2 (.t 95) (.c (.int .i64 0)), some (.t 94, true)⟩,
    ⟨.t 97, .loadN 2 (.t 96), some (.t 94, true)⟩,
    ⟨.t 98, .build [.int .i32 0, .int .i32 0] [(0, 1, .c (.int .i32 97)), (1, 1, .c (.int .i32 99))], some (.t 94, true)⟩,
    ⟨.t 99, .eqv false (.agg [(0, .i), (1, .i)]) (.t 97) (.t 98), some (.t 94, true)⟩,
    ⟨.t 100, .pick (.t 94) (.t 99) (.c (.bool false)), none⟩,
    ⟨.t 101, .mov (.t 100), none⟩,
    ⟨.t 102, .mov (.p 14), some (.t 101, true)⟩,
    ⟨.t 103, .bin .eql (.t 102) (.c (.int .i64 3)), some (.t 101, true)⟩,
    ⟨.t 104, .pick (.t 101) (.t 103) (.c (.bool false)), none⟩,
    ⟨.t 105, .mov (.t 104), none⟩,
    ⟨.t 106, .mov (.p 15), some (.t 105, true)⟩,
    ⟨.t 107, .bin .eql (.t 106) (.c (.int .i64 2)), some (.t 105, true)⟩,
    ⟨.t 108, .pick (.t 105) (.t 107) (.c (.bool false)), none⟩,
    ⟨.p 0, .mov (.t 108), none⟩])
    (.ret)))))))
def cf_gobolaw12_told : CFunc :=
{ nargs := 0, ps := [0, 1, 2, 5, 6, 8, 9, 10, 11, 14, 15], results := [.slot 0], body := bd_gobolaw12_told }

/- gobo/word.All -/
def lb_word_All_0 : CCode :=
 .seq (.reg [⟨.p 19, .bin .lss (.p 18) (.p 17), none⟩])
    (.seq (.cond (.p 19)
    (.skip)
    (.exit 0))
    (.seq (.block 1 [5, 6, 16, 17, 18]
    (.seq (.reg [⟨.t 20, .idxAddr 5 (.p 16) (.p 18), none⟩,
    ⟨.t 21, .loadN 5 (.t 20), none⟩,
    ⟨.p 8, .alloc [.int .i32 0, .int .i64 0, .int .i64 0, .bool false, .bool false], none⟩,
    ⟨.no, .store 5 (.p 8) (.t 21), none⟩])
    (.seq (.reg [⟨.t 22, .fieldAddr 3 (.p 8), none⟩,
    ⟨.t 23, .load1 (.t 22), none⟩,
    ⟨.t 24, .mov (.t 23), none⟩,
    ⟨.t 25, .fieldAddr 0 (.p 6), some (.t 24, true)⟩,
    ⟨.t 26, .load1 (.t 25), some (.t 24, true)⟩,
    ⟨.t 27, .bin .eql (.t 26) (.c (.int .i64 0)), some (.t 24, true)⟩,
    ⟨.t 28, .mov (.t 27), some (.t 24, true)⟩,
    ⟨.t 29, .fieldAddr 1 (.p 8), some (.t 28, false)⟩,
    ⟨.t 30, .load1 (.t 29), some (.t 28, false)⟩,
    ⟨.t 31, .fieldAddr 1 (.p 6), some (.t 28, false)⟩,
    ⟨.t 32, .load1 (.t 31), some (.t 28, false)⟩,
    ⟨.t 33, .bin .lss (.t 30) (.t 32), some (.t 28, false)⟩,
    ⟨.t 34, .pick (.t 28) (.c (.bool true)) (.t 33), some (.t 24, true)⟩,
    ⟨.p 35, .pick (.t 24) (.t 34) (.c (.bool false)), none⟩])
    (.cond (.p 35)
    (.seq (.reg [⟨.t 36, .fieldAddr 1 (.p 8), none⟩,
    ⟨.t 37, .load1 (.t 36), none⟩,
    ⟨.t 38, .build [.int .i64 0, .int .i64 0] [(0, 1, .c (.int .i64 2)), (1, 1, .t 37)], none⟩,
    ⟨.no, .store 2 (.p 6) (.t 38), none⟩])
    (.exit 0))
    (.skip)))))
    (.reg [⟨.t 39, .bin .add (.p 18) (.c (.int .i64 1)), none⟩,
    ⟨.p 18, .mov (.t 39), none⟩])))
def bd_word_All : CCode :=
 .seq (.reg [⟨.p 1, .box (.p 0), none⟩,
    ⟨.p 2, .mov (.c (.nils)), none⟩,
    ⟨.p 3, .mov (.c (.int .i64 0)), none⟩,
    ⟨.p 4, .mov (.c (.int .i64 0)), none⟩])
    (.seq (.seq (.reg [⟨.t 9, .load1 (.p 1), none⟩,
    ⟨.t 10, .lenStr (.t 9), none⟩,
    ⟨.p 11, .bin .gtr (.t 10) (.c (.int .i64 4000)), none⟩])
    (.cond (.p 11)
    (.seq (.reg [⟨.p 2, .mov (.c (.nils)), none⟩,
    ⟨.p 3, .mov (.c (.int .i64 6)), none⟩,
    ⟨.p 4, .mov (.c (.int .i64 0)), none⟩])
    (.ret))
    (.skip)))
    (.seq (.reg [⟨.p 5, .alloc [.nils], none⟩])
    (.seq (.reg [⟨.t 12, .mkFn F_word_All_1 [.p 1, .p 5], none⟩,
    ⟨.t 13, .call F_word_Caught [.t 12], none⟩,
    ⟨.p 6, .alloc [.int .i64 0, .int .i64 0], none⟩,
    ⟨.no, .store 2 (.p 6) (.t 13), none⟩])
    (.seq (.seq (.reg [⟨.t 14, .load1 (.p 1), none⟩,
    ⟨.t 15, .strBytes (.t 14), none⟩,
    ⟨.p 16, .call F_decode_All [.t 15], none⟩,
    ⟨.p 17, .lenSl (.p 16), none⟩,
    ⟨.p 18, .mov (.c (.int .i64 0)), none⟩])
    (.block 0 [5, 6]
    (.loop [5, 6, 16, 17, 18] lb_word_All_0)))
    (.seq (.seq (.reg [⟨.t 40, .fieldAddr 0 (.p 6), none⟩,
    ⟨.t 41, .load1 (.t 40), none⟩,
    ⟨.p 42, .bin .neq (.t 41) (.c (.int .i64 0)), none⟩])
    (.cond (.p 42)
    (.seq (.dreg [⟨⟨.t 43, .fieldAddr 0 (.p 6), none⟩, false, false, []⟩,
    ⟨⟨.t 44, .load1 (.t 43), none⟩, false, false, []⟩,
    ⟨⟨.t 45, .fieldAddr 1 (.p 6), none⟩, false, false, []⟩,
    ⟨⟨.t 46, .load1 (.t 45), none⟩, false, false, []⟩,
    ⟨⟨.p 2, .mov (.c (.nils)), none⟩, false, false, []⟩,
    ⟨⟨.p 3, .mov (.t 44), none⟩, false, false, []⟩,
    ⟨⟨.p 4, .mov (.t 46), none⟩, false, false, []⟩])
    (.ret))
    (.skip)))
    (.seq (.reg [⟨.t 47, .load1 (.p 5), none⟩,
    ⟨.p 2, .mov (.t 47), none⟩,
    ⟨.p 3, .mov (.c (.int .i64 0)), none⟩,
    ⟨.p 4, .mov (.c (.int .i64 0)), none⟩])
    (.ret)))))))
def cf_word_All : CFunc :=
{ nargs := 1, ps := [0, 1, 2, 3, 4, 5, 6, 8, 11, 16, 17, 18, 19, 35, 42], results := [.slot 2, .slot 3, .slot 4], body := bd_word_All }

/- gobo/word.Class -/
def bd_word_Class : CCode :=
 .seq (.reg [⟨.p 1, .box (.p 0), none⟩,
    ⟨.p 2, .mov (.c (.nils)), none⟩,
    ⟨.p 3, .mov (.c (.int .i64 0)), none⟩,
    ⟨.p 4, .mov (.c (.int .i64 0)), none⟩])
    (.seq (.reg [⟨.p 5, .alloc [.nils], none⟩])
    (.seq (.seq (.reg [⟨.t 7, .mkFn F_word_Class_1 [.p 1, .p 5], none⟩,
    ⟨.t 8, .call F_word_Caught [.t 7], none⟩,
    ⟨.p 6, .alloc [.int .i64 0, .int .i64 0], none⟩,
    ⟨.no, .store 2 (.p 6) (.t 8), none⟩])
    (.seq (.reg [⟨.t 9, .fieldAddr 0 (.p 6), none⟩,
    ⟨.t 10, .load1 (.t 9), none⟩,
    ⟨.p 11, .bin .neq (.t 10) (.c (.int .i64 0)), none⟩])
    (.cond (.p 11)
    (.seq (.dreg [⟨⟨.t 12, .fieldAddr 0 (.p 6), none⟩, false, false, []⟩,
    ⟨⟨.t 13, .load1 (.t 12), none⟩, false, false, []⟩,
    ⟨⟨.t 14, .fieldAddr 1 (.p 6), none⟩, false, false, []⟩,
    ⟨⟨.t 15, .load1 (.t 14), none⟩, false, false, []⟩,
    ⟨⟨.p 2, .mov (.c (.nils)), none⟩, false, false, []⟩,
    ⟨⟨.p 3, .mov (.t 13), none⟩, false, false, []⟩,
    ⟨⟨.p 4, .mov (.t 15), none⟩, false, false, []⟩])
    (.ret))
    (.skip))))
    (.seq (.reg [⟨.t 16, .load1 (.p 5), none⟩,
    ⟨.p 2, .mov (.t 16), none⟩,
    ⟨.p 3, .mov (.c (.int .i64 0)), none⟩,
    ⟨.p 4, .mov (.c (.int .i64 0)), none⟩])
    (.ret))))
def cf_word_Class : CFunc :=
{ nargs := 1, ps := [0, 1, 2, 3, 4, 5, 6, 11], results := [.slot 2, .slot 3, .slot 4], body := bd_word_Class }

/- gobo/runes.Or -/
def bd_runes_Or : CCode :=
 .seq (.reg [⟨.p 4, .mov (.c (.nils)), none⟩])
    (.seq (.reg [⟨.t 5, .mov (.p 0), none⟩,
    ⟨.t 6, .mov (.p 1), none⟩,
    ⟨.t 7, .lit [.nils, .nils] 2 [(0, 1, .t 5), (1, 1, .t 6)], none⟩,
    ⟨.t 8, .call F_slices_Concat_api_Range_api_Range [.t 7], none⟩,
    ⟨.t 9, .call F_runes_Norm [.t 8], none⟩,
    ⟨.p 4, .mov (.t 9), none⟩])
    (.ret))
def cf_runes_Or : CFunc :=
{ nargs := 2, ps := [0, 1, 4], results := [.slot 4], body := bd_runes_Or }

/- gobo/runes.Same -/
def bd_runes_Same : CCode :=
 .seq (.reg [⟨.p 4, .mov (.c (.bool false)), none⟩])
    (.seq (.reg [⟨.t 5, .mov (.p 0), none⟩,
    ⟨.t 6, .mov (.p 1), none⟩,
    ⟨.t 7, .call F_slices_Equal_api_Range_api_Range [.t 5, .t 6], none⟩,
    ⟨.p 4, .mov (.t 7), none⟩])
    (.ret))
def cf_runes_Same : CFunc :=
{ nargs := 2, ps := [0, 1, 4], results := [.slot 4], body := bd_runes_Same }

/- gobo/runes.Not -/
def lb_runes_Not_0 : CCode :=
 .seq (.reg [⟨.p 13, .bin .lss (.p 12) (.p 11), none⟩])
    (.seq (.cond (.p 13)
    (.skip)
    (.exit 0))
    (.seq (.block 1 [3, 4, 5, 10, 11, 12]
    (.seq (.reg [⟨.t 14, .idxAddr 2 (.p 10) (.p 12), none⟩,
    ⟨.t 15, .loadN 2 (.t 14), none⟩,
    ⟨.p 7, .alloc [.int .i64 0, .int .i64 0], none⟩,
    ⟨.no, .store 2 (.p 7) (.t 15), none⟩])
    (.seq (.reg [⟨.t 16, .mov (.p 5), none⟩,
    ⟨.t 17, .fieldAddr 0 (.p 7), none⟩,
    ⟨.t 18, .load1 (.t 17), none⟩,
    ⟨.t 19, .callV (.t 16) [.t 18], none⟩])
    (.reg [⟨.t 20, .fieldAddr 1 (.p 7), none⟩,
    ⟨.t 21, .load1 (.t 20), none⟩,
    ⟨.no, .store 1 (.p 4) (.t 21), none⟩]))))
    (.reg [⟨.t 22, .bin .add (.p 12) (.c (.int .i64 1)), none⟩,
    ⟨.p 12, .mov (.t 22), none⟩])))
def bd_runes_Not : CCode :=
 .seq (.reg [⟨.p 2, .mov (.c (.nils)), none⟩])
    (.seq (.reg [⟨.p 3, .alloc [.nils], none⟩])
    (.seq (.reg [⟨.p 4, .alloc [.int .i64 0], none⟩,
    ⟨.no, .store 1 (.p 4) (.c (.int .i64 0)), none⟩])
    (.seq (.reg [⟨.t 8, .mkFn F_runes_Not_1 [.p 4, .p 3], none⟩,
    ⟨.p 5, .mov (.t 8), none⟩])
    (.seq (.seq (.reg [⟨.t 9, .mov (.p 0), none⟩,
    ⟨.p 10, .call F_runes_spans [.t 9], none⟩,
    ⟨.p 11, .lenSl (.p 10), none⟩,
    ⟨.p 12, .mov (.c (.int .i64 0)), none⟩])
    (.block 0 [3, 5]
    (.loop [3, 4, 5, 10, 11, 12] lb_runes_Not_0)))
    (.seq (.reg [⟨.t 23, .mov (.p 5), none⟩,
    ⟨.t 24, .callV (.t 23) [.c (.int .i64 1112064)], none⟩])
    (.seq (.reg [⟨.t 25, .load1 (.p 3), none⟩,
    ⟨.t 26, .call F_runes_ranges [.t 25], none⟩,
    ⟨.p 2, .mov (.t 26), none⟩])
    (.ret)))))))
def cf_runes_Not : CFunc :=
{ nargs := 1, ps := [0, 2, 3, 4, 5, 7, 10, 11, 12, 13], results := [.slot 2], body := bd_runes_Not }

/- gobo/word.Caught -/
def bd_word_Caught : CCode :=
 .seq (.reg [⟨.p 2, .alloc [.int .i64 0, .int .i64 0], none⟩])
    (.seq (.reg [⟨.t 3, .mkFn F_word_Caught_1 [.p 2], none⟩,
    ⟨.no, .dfr (.t 3) [], none⟩])
    (.seq (.reg [⟨.t 4, .mov (.p 0), none⟩,
    ⟨.t 5, .callV (.t 4) [], none⟩])
    (.seq (.reg [⟨.t 6, .build [.int .i64 0, .int .i64 0] [], none⟩,
    ⟨.no, .store 2 (.p 2) (.t 6), none⟩])
    (.ret))))
def cf_word_Caught : CFunc :=
{ nargs := 1, ps := [0, 2], results := [.cellN 2 2], body := bd_word_Caught }

/- gobo/word.All$1 -/
def bd_word_All_1 : CCode :=
 .reg [⟨.t 2, .load1 (.p 0), none⟩,
    ⟨.t 3, .call F_word_words [.t 2], none⟩,
    ⟨.no, .store 1 (.p 1) (.t 3), none⟩]
def cf_word_All_1 : CFunc :=
{ nargs := 2, ps := [0, 1], results := [], body := bd_word_All_1 }

/- gobo/word.words -/
def lb_word_words_0 : CCode :=
 .seq (.seq (.reg [⟨.t 7, .mov (.p 4), none⟩,
    ⟨.t 8, .mov (.p 0), none⟩,
    ⟨.t 9, .lenStr (.t 8), none⟩,
    ⟨.p 10, .bin .lss (.t 7) (.t 9), none⟩])
    (.cond (.p 10)
    (.skip)
    (.exit 0)))
    (.block 1 [0, 3, 4]
    (.seq (.reg [⟨.t 11, .mov (.p 0), none⟩,
    ⟨.t 12, .mov (.p 4), none⟩,
    ⟨.t 13, .idxStr (.t 11) (.t 12), none⟩,
    ⟨.t 14, .mov (.p 4), none⟩,
    ⟨.p 5, .mov (.t 13), none⟩,
    ⟨.p 6, .mov (.t 14), none⟩])
    (.block 2 [0, 3, 4]
    (.seq (.reg [⟨.t 18, .mov (.p 5), none⟩,
    ⟨.t 19, .bin .eql (.t 18) (.c (.int .u8 32)), none⟩,
    ⟨.t 20, .mov (.t 19), none⟩,
    ⟨.t 21, .mov (.p 5), some (.t 20, false)⟩,
    ⟨.t 22, .bin .eql (.t 21) (.c (.int .u8 9)), some (.t 20, false)⟩,
    ⟨.t 23, .pick (.t 20) (.c (.bool true)) (.t 22), none⟩,
    ⟨.t 24, .mov (.t 23), none⟩,
    ⟨.t 25, .mov (.p 5), some (.t 24, false)⟩,
    ⟨.t 26, .bin .eql (.t 25) (.c (.int .u8 13)), some (.t 24, false)⟩,
    ⟨.t 27, .pick (.t 24) (.c (.bool true)) (.t 26), none⟩,
    ⟨.p 17, .mov (.t 27), none⟩])
    (.cond (.p 17)
    (.reg [⟨.t 28, .mov (.p 4), none⟩,
    ⟨.t 29, .bin .add (.t 28) (.c (.int .i64 1)), none⟩,
    ⟨.p 4, .mov (.t 29), none⟩])
    (.seq (.reg [⟨.t 31, .mov (.p 5), none⟩,
    ⟨.t 32, .bin .eql (.t 31) (.c (.int .u8 35)), none⟩,
    ⟨.p 30, .mov (.t 32), none⟩])
    (.cond (.p 30)
    (.reg [⟨.t 33, .mov (.p 0), none⟩,
    ⟨.t 34, .mov (.p 4), none⟩,
    ⟨.t 35, .call F_word_run [.t 33, .t 34, .f F_word_words_1], none⟩,
    ⟨.p 4, .mov (.t 35), none⟩])
    (.seq (.reg [⟨.t 37, .mov (.p 5), none⟩,
    ⟨.t 38, .bin .eql (.t 37) (.c (.int .u8 10)), none⟩,
    ⟨.p 36, .mov (.t 38), none⟩])
    (.cond (.p 36)
    (.seq (.reg [⟨.t 39, .mov (.p 4), none⟩,
    ⟨.t 40, .bin .add (.t 39) (.c (.int .i64 1)), none⟩,
    ⟨.p 4, .mov (.t 40), none⟩])
    (.reg [⟨.t 41, .mov (.p 3), none⟩,
    ⟨.t 42, .mov (.p 6), none⟩,
    ⟨.t 43, .build [.int .i64 0, .str [], .int .i64 0] [(0, 1, .c (.int .i64 5)), (1, 1, .c (.str [])), (2, 1, .t 42)], none⟩,
    ⟨.t 44, .lit [.int .i64 0, .str [], .int .i64 0] 1 [(0, 3, .t 43)], none⟩,
    ⟨.t 45, .append 3 32 (.t 41) (.t 44), none⟩,
    ⟨.p 3, .mov (.t 45), none⟩]))
    (.seq (.reg [⟨.t 47, .mov (.p 5), none⟩,
    ⟨.t 48, .call F_word_letter [.t 47], none⟩,
    ⟨.p 46, .mov (.t 48), none⟩])
    (.cond (.p 46)
    (.seq (.reg [⟨.t 49, .mov (.p 0), none⟩,
    ⟨.t 50, .mov (.p 4), none⟩,
    ⟨.t 51, .call F_word_run [.t 49, .t 50, .f F_word_words_2], none⟩,
    ⟨.p 4, .mov (.t 51), none⟩])
    (.reg [⟨.t 52, .mov (.p 3), none⟩,
    ⟨.t 53, .mov (.p 0), none⟩,
    ⟨.t 54, .mov (.p 6), none⟩,
    ⟨.t 55, .mov (.p 4), none⟩,
    ⟨.t 56, .sliceStr (.t 53) (some (.t 54)) (some (.t 55)), none⟩,
    ⟨.t 57, .mov (.p 6), none⟩,
    ⟨.t 58, .build [.int .i64 0, .str [], .int .i64 0] [(0, 1, .c (.int .i64 1)), (1, 1, .t 56), (2, 1, .t 57)], none⟩,
    ⟨.t 59, .lit [.int .i64 0, .str [], .int .i64 0] 1 [(0, 3, .t 58)], none⟩,
    ⟨.t 60, .append 3 32 (.t 52) (.t 59), none⟩,
    ⟨.p 3, .mov (.t 60), none⟩]))
    (.seq (.reg [⟨.t 62, .mov (.p 5), none⟩,
    ⟨.t 63, .call F_word_digit [.t 62], none⟩,
    ⟨.p 61, .mov (.t 63), none⟩])
    (.cond (.p 61)
    (.seq (.reg [⟨.t 64, .mov (.p 0), none⟩,
    ⟨.t 65, .mov (.p 4), none⟩,
    ⟨.t 66, .call F_word_run [.t 64, .t 65, .f F_word_digit], none⟩,
    ⟨.p 4, .mov (.t 66), none⟩])
    (.reg [⟨.t 67, .mov (.p 3), none⟩,
    ⟨.t 68, .mov (.p 0), none⟩,
    ⟨.t 69, .mov (.p 6), none⟩,
    ⟨.t 70, .mov (.p 4), none⟩,
    ⟨.t 71, .sliceStr (.t 68) (some (.t 69)) (some (.t 70)), none⟩,
    ⟨.t 72, .mov (.p 6), none⟩,
    ⟨.t 73, .build [.int .i64 0, .str [], .int .i64 0] [(0, 1, .c (.int .i64 2)), (1, 1, .t 71), (2, 1, .t 72)], none⟩,
    ⟨.t 74, .lit [.int .i64 0, .str [], .int .i64 0] 1 [(0, 3, .t 73)], none⟩,
    ⟨.t 75, .append 3 32 (.t 67) (.t 74), none⟩,
    ⟨.p 3, .mov (.t 75), none⟩]))
    (.seq (.reg [⟨.t 77, .mov (.p 5), none⟩,
    ⟨.t 78, .call F_strings_IndexByte [.c (.str [123, 125, 40, 41, 124, 42, 94, 60, 62, 58, 95, 61]), .t 77], none⟩,
    ⟨.t 79, .bin .geq (.t 78) (.c (.int .i64 0)), none⟩,
    ⟨.p 76, .mov (.t 79), none⟩])
    (.cond (.p 76)
    (.seq (.reg [⟨.t 80, .mov (.p 4), none⟩,
    ⟨.t 81, .bin .add (.t 80) (.c (.int .i64 1)), none⟩,
    ⟨.p 4, .mov (.t 81), none⟩])
    (.reg [⟨.t 82, .mov (.p 3), none⟩,
    ⟨.t 83, .mov (.p 0), none⟩,
    ⟨.t 84, .mov (.p 6), none⟩,
    ⟨.t 85, .mov (.p 4), none⟩,
    ⟨.t 86, .sliceStr (.t 83) (some (.t 84)) (some (.t 85)), none⟩,
    ⟨.t 87, .mov (.p 6), none⟩,
    ⟨.t 88, .build [.int .i64 0, .str [], .int .i64 0] [(0, 1, .c (.int .i64 3)), (1, 1, .t 86), (2, 1, .t 87)], none⟩,
    ⟨.t 89, .lit [.int .i64 0, .str [], .int .i64 0] 1 [(0, 3, .t 88)], none⟩,
    ⟨.t 90, .append 3 32 (.t 82) (.t 89), none⟩,
    ⟨.p 3, .mov (.t 90), none⟩]))
    (.seq (.reg [⟨.t 92, .mov (.p 5), none⟩,
    ⟨.t 93, .bin .eql (.t 92) (.c (.int .u8 47)), none⟩,
    ⟨.p 91, .mov (.t 93), none⟩])
    (.cond (.p 91)
    (.seq (.reg [⟨.t 94, .mov (.p 0), none⟩,
    ⟨.t 95, .mov (.p 6), none⟩,
    ⟨.t 96, .call F_word_closed [.t 94, .t 95], none⟩,
    ⟨.p 4, .mov (.t 96), none⟩])
    (.seq (.reg [⟨.t 97, .mov (.p 3), none⟩,
    ⟨.t 98, .mov (.p 0), none⟩,
    ⟨.t 99, .mov (.p 6), none⟩,
    ⟨.t 100, .bin .add (.t 99) (.c (.int .i64 1)), none⟩,
    ⟨.t 101, .mov (.p 4), none⟩,
    ⟨.t 102, .sliceStr (.t 98) (some (.t 100)) (some (.t 101)), none⟩,
    ⟨.t 103, .mov (.p 6), none⟩,
    ⟨.t 104, .build [.int .i64 0, .str [], .int .i64 0] [(0, 1, .c (.int .i64 4)), (1, 1, .t 102), (2, 1, .t 103)], none⟩,
    ⟨.t 105, .lit [.int .i64 0, .str [], .int .i64 0] 1 [(0, 3, .t 104)], none⟩,
    ⟨.t 106, .append 3 32 (.t 97) (.t 105), none⟩,
    ⟨.p 3, .mov (.t 106), none⟩])
    (.reg [⟨.t 107, .mov (.p 4), none⟩,
    ⟨.t 108, .bin .add (.t 107) (.c (.int .i64 1)), none⟩,
    ⟨.p 4, .mov (.t 108), none⟩])))
    (.reg [⟨.t 15, .mov (.p 4), none⟩,
    ⟨.t 16, .call F_word_Fail [.c (.int .i64 2), .t 15], none⟩]))))))))))))))))))
def bd_word_words : CCode :=
 .seq (.reg [⟨.p 2, .mov (.c (.nils)), none⟩])
    (.seq (.reg [⟨.p 3, .mov (.c (.nils)), none⟩])
    (.seq (.seq (.reg [⟨.p 4, .mov (.c (.int .i64 0)), none⟩])
    (.block 0 [3]
    (.loop [0, 3, 4] lb_word_words_0)))
    (.seq (.reg [⟨.t 109, .mov (.p 3), none⟩,
    ⟨.p 2, .mov (.t 109), none⟩])
    (.ret))))
def cf_word_words : CFunc :=
{ nargs := 1, ps := [0, 2, 3, 4, 5, 6, 10, 17, 30, 36, 46, 61, 76, 91], results := [.slot 2], body := bd_word_words }

/- gobo/decode.All -/
def bd_decode_All : CCode :=
 .seq (.reg [⟨.p 2, .mov (.c (.nils)), none⟩])
    (.seq (.reg [⟨.t 4, .call F_decode_New [], none⟩,
    ⟨.p 3, .mov (.t 4), none⟩])
    (.seq (.reg [⟨.t 5, .mov (.p 3), none⟩,
    ⟨.t 6, .mov (.p 0), none⟩,
    ⟨.t 7, .call F_decode_Dec_Feed [.t 5, .t 6], none⟩,
    ⟨.t 8, .mov (.p 3), none⟩,
    ⟨.t 9, .call F_decode_Dec_Close [.t 8], none⟩,
    ⟨.t 10, .append 5 32 (.t 7) (.t 9), none⟩,
    ⟨.p 2, .mov (.t 10), none⟩])
    (.ret)))
def cf_decode_All : CFunc :=
{ nargs := 1, ps := [0, 2, 3], results := [.slot 2], body := bd_decode_All }

/- gobo/word.Class$1 -/
def bd_word_Class_1 : CCode :=
 .reg [⟨.t 2, .load1 (.p 0), none⟩,
    ⟨.t 3, .call F_word_Read [.t 2], none⟩,
    ⟨.t 4, .call F_word_Reader_Class [.t 3, .c (.int .i32 (-1))], none⟩,
    ⟨.no, .store 1 (.p 1) (.t 4), none⟩]
def cf_word_Class_1 : CFunc :=
{ nargs := 2, ps := [0, 1], results := [], body := bd_word_Class_1 }

/- gobo/word.Read -/
def bd_word_Read : CCode :=
 .seq (.reg [⟨.p 2, .mov (.c (.nilp)), none⟩])
    (.seq (.reg [⟨.t 3, .mov (.p 0), none⟩,
    ⟨.t 4, .strBytes (.t 3), none⟩,
    ⟨.t 5, .call F_decode_All [.t 4], none⟩,
    ⟨.t 6, .mov (.p 0), none⟩,
    ⟨.t 7, .lenStr (.t 6), none⟩,
    ⟨.t 8, .build [.nils, .int .i64 0, .int .i64 0] [(0, 1, .t 5), (2, 1, .t 7)], none⟩,
    ⟨.t 9, .box (.t 8), none⟩,
    ⟨.p 2, .mov (.t 9), none⟩])
    (.ret))
def cf_word_Read : CFunc :=
{ nargs := 1, ps := [0, 2], results := [.slot 2], body := bd_word_Read }

/- (*gobo/word.Reader).Class -/
def lb_word_Reader_Class_0 : CCode :=
 .seq (.seq (.reg [⟨.t 11, .mov (.p 5), none⟩,
    ⟨.t 12, .lenSl (.t 11), none⟩,
    ⟨.t 13, .bin .eql (.t 12) (.c (.int .i64 0)), none⟩,
    ⟨.t 14, .mov (.t 13), none⟩,
    ⟨.t 15, .mov (.p 0), some (.t 14, false)⟩,
    ⟨.t 16, .call F_word_Reader_Peek [.t 15], some (.t 14, false)⟩,
    ⟨.t 17, .mov (.p 1), some (.t 14, false)⟩,
    ⟨.t 18, .bin .neq (.t 16) (.t 17), some (.t 14, false)⟩,
    ⟨.p 19, .pick (.t 14) (.c (.bool true)) (.t 18), none⟩])
    (.cond (.p 19)
    (.skip)
    (.exit 0)))
    (.block 1 [0, 1, 5, 6]
    (.seq (.reg [⟨.t 20, .mov (.p 0), none⟩,
    ⟨.t 21, .call F_word_Reader_Rune [.t 20, .c (.bool true)], none⟩,
    ⟨.t 22, .build [.int .i32 0, .int .i32 0] [(0, 1, .t 21)], none⟩,
    ⟨.p 7, .alloc [.int .i32 0, .int .i32 0], none⟩,
    ⟨.no, .store 2 (.p 7) (.t 22), none⟩])
    (.seq (.reg [⟨.t 23, .fieldAddr 0 (.p 7), none⟩,
    ⟨.t 24, .load1 (.t 23), none⟩,
    ⟨.t 25, .fieldAddr 1 (.p 7), none⟩,
    ⟨.no, .store 1 (.t 25) (.t 24), none⟩])
    (.seq (.seq (.reg [⟨.t 26, .mov (.p 0), none⟩,
    ⟨.p 27, .call F_word_Reader_Skip [.t 26, .c (.int .i32 45)], none⟩])
    (.cond (.p 27)
    (.seq (.reg [⟨.t 28, .mov (.p 0), none⟩,
    ⟨.t 29, .call F_word_Reader_At [.t 28], none⟩,
    ⟨.p 8, .mov (.t 29), none⟩])
    (.seq (.reg [⟨.t 30, .mov (.p 0), none⟩,
    ⟨.t 31, .call F_word_Reader_Rune [.t 30, .c (.bool true)], none⟩,
    ⟨.t 32, .fieldAddr 1 (.p 7), none⟩,
    ⟨.no, .store 1 (.t 32) (.t 31), none⟩])
    (.seq (.reg [⟨.t 33, .fieldAddr 1 (.p 7), none⟩,
    ⟨.t 34, .load1 (.t 33), none⟩,
    ⟨.t 35, .fieldAddr 0 (.p 7), none⟩,
    ⟨.t 36, .load1 (.t 35), none⟩,
    ⟨.p 37, .bin .lss (.t 34) (.t 36), none⟩])
    (.cond (.p 37)
    (.reg [⟨.t 38, .mov (.p 8), none⟩,
    ⟨.t 39, .call F_word_Fail [.c (.int .i64 3), .t 38], none⟩])
    (.skip)))))
    (.skip)))
    (.reg [⟨.t 40, .mov (.p 5), none⟩,
    ⟨.t 41, .loadN 2 (.p 7), none⟩,
    ⟨.t 42, .lit [.int .i32 0, .int .i32 0] 1 [(0, 2, .t 41)], none⟩,
    ⟨.t 43, .append 2 8 (.t 40) (.t 42), none⟩,
    ⟨.p 5, .mov (.t 43), none⟩])))))
def bd_word_Reader_Class : CCode :=
 .seq (.reg [⟨.p 4, .mov (.c (.nils)), none⟩])
    (.seq (.reg [⟨.p 5, .mov (.c (.nils)), none⟩])
    (.seq (.reg [⟨.t 9, .mov (.p 0), none⟩,
    ⟨.t 10, .call F_word_Reader_Skip [.t 9, .c (.int .i32 94)], none⟩,
    ⟨.p 6, .mov (.t 10), none⟩])
    (.seq (.block 0 [0, 5, 6]
    (.loop [0, 1, 5, 6] lb_word_Reader_Class_0))
    (.seq (.seq (.reg [⟨.t 44, .mov (.p 5), none⟩,
    ⟨.t 45, .call F_runes_Norm [.t 44], none⟩,
    ⟨.p 5, .mov (.t 45), none⟩])
    (.seq (.reg [⟨.p 46, .mov (.p 6), none⟩])
    (.cond (.p 46)
    (.reg [⟨.t 47, .mov (.p 5), none⟩,
    ⟨.t 48, .call F_runes_Not [.t 47], none⟩,
    ⟨.p 5, .mov (.t 48), none⟩])
    (.skip))))
    (.seq (.seq (.reg [⟨.t 49, .mov (.p 5), none⟩,
    ⟨.t 50, .lenSl (.t 49), none⟩,
    ⟨.p 51, .bin .eql (.t 50) (.c (.int .i64 0)), none⟩])
    (.cond (.p 51)
    (.reg [⟨.t 52, .mov (.p 0), none⟩,
    ⟨.t 53, .call F_word_Reader_At [.t 52], none⟩,
    ⟨.t 54, .call F_word_Fail [.c (.int .i64 3), .t 53], none⟩])
    (.skip)))
    (.seq (.reg [⟨.t 55, .mov (.p 5), none⟩,
    ⟨.p 4, .mov (.t 55), none⟩])
    (.ret)))))))
def cf_word_Reader_Class : CFunc :=
{ nargs := 2, ps := [0, 1, 4, 5, 6, 7, 8, 19, 27, 37, 46, 51], results := [.slot 4], body := bd_word_Reader_Class }

/- gobo/runes.Norm -/
def bd_runes_Norm : CCode :=
 .seq (.reg [⟨.p 2, .mov (.c (.nils)), none⟩])
    (.seq (.reg [⟨.t 3, .mov (.p 0), none⟩,
    ⟨.t 4, .call F_runes_spans [.t 3], none⟩,
    ⟨.t 5, .call F_runes_ranges [.t 4], none⟩,
    ⟨.p 2, .mov (.t 5), none⟩])
    (.ret))
def cf_runes_Norm : CFunc :=
{ nargs := 1, ps := [0, 2], results := [.slot 2], body := bd_runes_Norm }

/- slices.Concat[[]gobo/api.Range,gobo/api.Range] -/
def lb_slices_Concat_api_Range_api_Range_0 : CCode :=
 .seq (.reg [⟨.p 12, .bin .lss (.p 11) (.p 10), none⟩])
    (.seq (.cond (.p 12)
    (.skip)
    (.exit 0))
    (.seq (.block 1 [0, 3, 9, 10, 11]
    (.seq (.reg [⟨.t 13, .idxAddr 1 (.p 9) (.p 11), none⟩,
    ⟨.t 14, .load1 (.t 13), none⟩,
    ⟨.p 5, .mov (.t 14), none⟩])
    (.seq (.reg [⟨.t 15, .mov (.p 3), none⟩,
    ⟨.t 16, .mov (.p 5), none⟩,
    ⟨.t 17, .lenSl (.t 16), none⟩,
    ⟨.t 18, .bin .add (.t 15) (.t 17), none⟩,
    ⟨.p 3, .mov (.t 18), none⟩])
    (.seq (.reg [⟨.t 19, .mov (.p 3), none⟩,
    ⟨.p 20, .bin .lss (.t 19) (.c (.int .i64 0)), none⟩])
    (.cond (.p 20)
    (.reg [⟨.t 21, .mkIface T_string (.c (.str [108, 101, 110, 32, 111, 117, 116, 32, 111, 102, 32, 114, 97, 110, 103, 101])), none⟩,
    ⟨.no, .panic (.t 21), none⟩])
    (.skip))))))
    (.reg [⟨.t 22, .bin .add (.p 11) (.c (.int .i64 1)), none⟩,
    ⟨.p 11, .mov (.t 22), none⟩])))
def lb_slices_Concat_api_Range_api_Range_1 : CCode :=
 .seq (.reg [⟨.p 28, .bin .lss (.p 27) (.p 26), none⟩])
    (.seq (.cond (.p 28)
    (.skip)
    (.exit 2))
    (.seq (.block 3 [6, 25, 26, 27]
    (.seq (.reg [⟨.t 29, .idxAddr 1 (.p 25) (.p 27), none⟩,
    ⟨.t 30, .load1 (.t 29), none⟩,
    ⟨.p 8, .mov (.t 30), none⟩])
    (.reg [⟨.t 31, .mov (.p 6), none⟩,
    ⟨.t 32, .mov (.p 8), none⟩,
    ⟨.t 33, .append 2 8 (.t 31) (.t 32), none⟩,
    ⟨.p 6, .mov (.t 33), none⟩])))
    (.reg [⟨.t 34, .bin .add (.p 27) (.c (.int .i64 1)), none⟩,
    ⟨.p 27, .mov (.t 34), none⟩])))
def bd_slices_Concat_api_Range_api_Range : CCode :=
 .seq (.reg [⟨.p 2, .mov (.c (.nils)), none⟩])
    (.seq (.reg [⟨.p 3, .mov (.c (.int .i64 0)), none⟩])
    (.seq (.seq (.reg [⟨.p 9, .mov (.p 0), none⟩,
    ⟨.p 10, .lenSl (.p 9), none⟩,
    ⟨.p 11, .mov (.c (.int .i64 0)), none⟩])
    (.block 0 [0, 3]
    (.loop [0, 3, 9, 10, 11] lb_slices_Concat_api_Range_api_Range_0)))
    (.seq (.reg [⟨.t 23, .mov (.p 3), none⟩,
    ⟨.t 24, .call F_slices_Grow_api_Range_api_Range [.c (.nils), .t 23], none⟩,
    ⟨.p 6, .mov (.t 24), none⟩])
    (.seq (.seq (.reg [⟨.p 25, .mov (.p 0), none⟩,
    ⟨.p 26, .lenSl (.p 25), none⟩,
    ⟨.p 27, .mov (.c (.int .i64 0)), none⟩])
    (.block 2 [6]
    (.loop [6, 25, 26, 27] lb_slices_Concat_api_Range_api_Range_1)))
    (.seq (.reg [⟨.t 35, .mov (.p 6), none⟩,
    ⟨.p 2, .mov (.t 35), none⟩])
    (.ret))))))
def cf_slices_Concat_api_Range_api_Range : CFunc :=
{ nargs := 1, ps := [0, 2, 3, 5, 6, 8, 9, 10, 11, 12, 20, 25, 26, 27, 28], results := [.slot 2], body := bd_slices_Concat_api_Range_api_Range }

/- slices.Equal[[]gobo/api.Range,gobo/api.Range] -/
def lb_slices_Equal_api_Range_api_Range_0 : CCode :=
 .seq (.reg [⟨.p 14, .bin .lss (.p 13) (.p 12), none⟩])
    (.seq (.cond (.p 14)
    (.skip)
    (.exit 0))
    (.seq (.block 1 [0, 1, 12, 13]
    (.seq (.reg [⟨.t 15, .mov (.p 13), none⟩,
    ⟨.p 5, .mov (.t 15), none⟩])
    (.seq (.dreg [⟨⟨.t 16, .mov (.p 0), none⟩, false, false, []⟩,
    ⟨⟨.t 17, .mov (.p 5), none⟩, false, false, []⟩,
    ⟨⟨.t 18, .idxAddr 2 (.t 16) (.t 17), none⟩, false, false, []⟩,
    ⟨⟨.t 19, .loadN 2 (.t 18), none⟩, false, false, []⟩,
    ⟨⟨.t 20, .mov (.p 1), none⟩, false, false, []⟩,
    ⟨⟨.t 21, .mov (.p 5), none⟩, false, false, []⟩,
    ⟨⟨.t 22, .idxAddr 2 (.t 20) (.t 21), none⟩, false, false, []⟩,
    ⟨⟨.t 23, .loadN 2 (.t 22), none⟩, false, false, []⟩,
    ⟨⟨.p 24, .eqv true (.agg [(0, .i), (1, .i)]) (.t 19) (.t 23), none⟩, false, false, []⟩])
    (.cond (.p 24)
    (.seq (.reg [⟨.p 4, .mov (.c (.bool false)), none⟩])
    (.ret))
    (.skip)))))
    (.reg [⟨.t 25, .bin .add (.p 13) (.c (.int .i64 1)), none⟩,
    ⟨.p 13, .mov (.t 25), none⟩])))
def bd_slices_Equal_api_Range_api_Range : CCode :=
 .seq (.reg [⟨.p 4, .mov (.c (.bool false)), none⟩])
    (.seq (.seq (.reg [⟨.t 6, .mov (.p 0), none⟩,
    ⟨.t 7, .lenSl (.t 6), none⟩,
    ⟨.t 8, .mov (.p 1), none⟩,
    ⟨.t 9, .lenSl (.t 8), none⟩,
    ⟨.p 10, .bin .neq (.t 7) (.t 9), none⟩])
    (.cond (.p 10)
    (.seq (.reg [⟨.p 4, .mov (.c (.bool false)), none⟩])
    (.ret))
    (.skip)))
    (.seq (.seq (.reg [⟨.t 11, .mov (.p 0), none⟩,
    ⟨.p 12, .lenSl (.t 11), none⟩,
    ⟨.p 13, .mov (.c (.int .i64 0)), none⟩])
    (.block 0 []
    (.loop [0, 1, 12, 13] lb_slices_Equal_api_Range_api_Range_0)))
    (.seq (.reg [⟨.p 4, .mov (.c (.bool true)), none⟩])
    (.ret))))
def cf_slices_Equal_api_Range_api_Range : CFunc :=
{ nargs := 2, ps := [0, 1, 4, 5, 10, 12, 13, 14, 24], results := [.slot 4], body := bd_slices_Equal_api_Range_api_Range }

/- gobo/runes.Not$1 -/
def bd_runes_Not_1 : CCode :=
 .seq (.reg [⟨.t 4, .load1 (.p 1), none⟩,
    ⟨.t 5, .mov (.p 0), none⟩,
    ⟨.p 6, .bin .lss (.t 4) (.t 5), none⟩])
    (.cond (.p 6)
    (.reg [⟨.t 7, .load1 (.p 2), none⟩,
    ⟨.t 8, .load1 (.p 1), none⟩,
    ⟨.t 9, .mov (.p 0), none⟩,
    ⟨.t 10, .build [.int .i64 0, .int .i64 0] [(0, 1, .t 8), (1, 1, .t 9)], none⟩,
    ⟨.t 11, .lit [.int .i64 0, .int .i64 0] 1 [(0, 2, .t 10)], none⟩,
    ⟨.t 12, .append 2 16 (.t 7) (.t 11), none⟩,
    ⟨.no, .store 1 (.p 2) (.t 12), none⟩])
    (.skip))
def cf_runes_Not_1 : CFunc :=
{ nargs := 3, ps := [0, 1, 2, 6], results := [], body := bd_runes_Not_1 }

/- gobo/runes.spans -/
def lb_runes_spans_0 : CCode :=
 .seq (.reg [⟨.p 14, .bin .lss (.p 13) (.p 12), none⟩])
    (.seq (.cond (.p 14)
    (.skip)
    (.exit 0))
    (.seq (.block 1 [3, 11, 12, 13]
    (.seq (.reg [⟨.t 15, .idxAddr 2 (.p 11) (.p 13), none⟩,
    ⟨.t 16, .loadN 2 (.t 15), none⟩,
    ⟨.p 5, .alloc [.int .i32 0, .int .i32 0], none⟩,
    ⟨.no, .store 2 (.p 5) (.t 16), none⟩])
    (.seq (.dreg [⟨⟨.t 17, .fieldAddr 0 (.p 5), none⟩, false, false, []⟩,
    ⟨⟨.t 18, .load1 (.t 17), none⟩, true, false, []⟩,
    ⟨⟨.t 19, .callP 3 F_runes_number [.t 18], none⟩, false, false, []⟩,
    ⟨⟨.t 20, .fieldAddr 1 (.p 5), none⟩, false, false, []⟩,
    ⟨⟨.t 21, .load1 (.t 20), none⟩, true, false, []⟩,
    ⟨⟨.t 22, .callP 3 F_runes_behind [.t 21], none⟩, false, false, []⟩,
    ⟨⟨.t 23, .build [.int .i64 0, .int .i64 0] [(0, 1, .t 19), (1, 1, .t 22)], none⟩, false, false, []⟩,
    ⟨⟨.p 6, .alloc [.int .i64 0, .int .i64 0], none⟩, false, false, [1, 4]⟩,
    ⟨⟨.no, .store 2 (.p 6) (.t 23), none⟩, false, false, []⟩])
    (.seq (.reg [⟨.t 24, .fieldAddr 0 (.p 5), none⟩,
    ⟨.t 25, .load1 (.t 24), none⟩,
    ⟨.t 26, .fieldAddr 1 (.p 5), none⟩,
    ⟨.t 27, .load1 (.t 26), none⟩,
    ⟨.t 28, .bin .leq (.t 25) (.t 27), none⟩,
    ⟨.t 29, .mov (.t 28), none⟩,
    ⟨.t 30, .fieldAddr 0 (.p 6), some (.t 29, true)⟩,
    ⟨.t 31, .load1 (.t 30), some (.t 29, true)⟩,
    ⟨.t 32, .fieldAddr 1 (.p 6), some (.t 29, true)⟩,
    ⟨.t 33, .load1 (.t 32), some (.t 29, true)⟩,
    ⟨.t 34, .bin .lss (.t 31) (.t 33), some (.t 29, true)⟩,
    ⟨.p 35, .pick (.t 29) (.t 34) (.c (.bool false)), none⟩])
    (.cond (.p 35)
    (.reg [⟨.t 36, .mov (.p 3), none⟩,
    ⟨.t 37, .loadN 2 (.p 6), none⟩,
    ⟨.t 38, .lit [.int .i64 0, .int .i64 0] 1 [(0, 2, .t 37)], none⟩,
    ⟨.t 39, .append 2 16 (.t 36) (.t 38), none⟩,
    ⟨.p 3, .mov (.t 39), none⟩])
    (.skip))))))
    (.reg [⟨.t 40, .bin .add (.p 13) (.c (.int .i64 1)), none⟩,
    ⟨.p 13, .mov (.t 40), none⟩])))
def lb_runes_spans_1 : CCode :=
 .seq (.reg [⟨.p 46, .bin .lss (.p 45) (.p 44), none⟩])
    (.seq (.cond (.p 46)
    (.skip)
    (.exit 2))
    (.seq (.block 3 [7, 43, 44, 45]
    (.seq (.reg [⟨.t 47, .idxAddr 2 (.p 43) (.p 45), none⟩,
    ⟨.t 48, .loadN 2 (.t 47), none⟩,
    ⟨.p 9, .alloc [.int .i64 0, .int .i64 0], none⟩,
    ⟨.no, .store 2 (.p 9) (.t 48), none⟩])
    (.seq (.reg [⟨.t 49, .mov (.p 7), none⟩,
    ⟨.t 50, .lenSl (.t 49), none⟩,
    ⟨.p 10, .mov (.t 50), none⟩])
    (.seq (.dreg [⟨⟨.t 51, .mov (.p 10), none⟩, false, false, []⟩,
    ⟨⟨.t 52, .bin .gtr (.t 51) (.c (.int .i64 0)), none⟩, false, false, []⟩,
    ⟨⟨.t 53, .mov (.t 52), none⟩, false, false, []⟩,
    ⟨⟨.t 54, .fieldAddr 0 (.p 9), some (.t 53, true)⟩, false, false, []⟩,
    ⟨⟨.t 55, .load1 (.t 54), some (.t 53, true)⟩, false, false, []⟩,
    ⟨⟨.t 56, .mov (.p 7), some (.t 53, true)⟩, false, false, []⟩,
    ⟨⟨.t 57, .mov (.p 10), some (.t 53, true)⟩, false, false, []⟩,
    ⟨⟨.t 58, .bin .sub (.t 57) (.c (.int .i64 1)), some (.t 53, true)⟩, false, false, []⟩,
    ⟨⟨.t 59, .idxAddr 2 (.t 56) (.t 58), some (.t 53, true)⟩, false, false, []⟩,
    ⟨⟨.t 60, .fieldAddr 1 (.t 59), some (.t 53, true)⟩, false, false, []⟩,
    ⟨⟨.t 61, .load1 (.t 60), some (.t 53, true)⟩, false, false, []⟩,
    ⟨⟨.t 62, .bin .leq (.t 55) (.t 61), some (.t 53, true)⟩, false, false, []⟩,
    ⟨⟨.p 63, .pick (.t 53) (.t 62) (.c (.bool false)), none⟩, false, false, []⟩])
    (.cond (.p 63)
    (.dreg [⟨⟨.t 64, .mov (.p 7), none⟩, false, false, []⟩,
    ⟨⟨.t 65, .mov (.p 10), none⟩, false, false, []⟩,
    ⟨⟨.t 66, .bin .sub (.t 65) (.c (.int .i64 1)), none⟩, false, false, []⟩,
    ⟨⟨.t 67, .mov (.p 7), none⟩, false, false, []⟩,
    ⟨⟨.t 68, .mov (.p 10), none⟩, false, false, []⟩,
    ⟨⟨.t 69, .bin .sub (.t 68) (.c (.int .i64 1)), none⟩, false, false, []⟩,
    ⟨⟨.t 70, .idxAddr 2 (.t 67) (.t 69), none⟩, false, false, []⟩,
    ⟨⟨.t 71, .fieldAddr 1 (.t 70), none⟩, false, false, []⟩,
    ⟨⟨.t 72, .load1 (.t 71), none⟩, false, false, []⟩,
    ⟨⟨.t 73, .fieldAddr 1 (.p 9), none⟩, false, false, []⟩,
    ⟨⟨.t 74, .load1 (.t 73), none⟩, false, false, []⟩,
    ⟨⟨.t 75, .minmax true [.t 72, .t 74], none⟩, false, false, []⟩,
    ⟨⟨.t 76, .idxAddr 2 (.t 64) (.t 66), none⟩, false, false, []⟩,
    ⟨⟨.t 77, .fieldAddr 1 (.t 76), none⟩, false, false, []⟩,
    ⟨⟨.no, .store 1 (.t 77) (.t 75), none⟩, false, false, []⟩])
    (.reg [⟨.t 78, .mov (.p 7), none⟩,
    ⟨.t 79, .loadN 2 (.p 9), none⟩,
    ⟨.t 80, .lit [.int .i64 0, .int .i64 0] 1 [(0, 2, .t 79)], none⟩,
    ⟨.t 81, .append 2 16 (.t 78) (.t 80), none⟩,
    ⟨.p 7, .mov (.t 81), none⟩]))))))
    (.reg [⟨.t 82, .bin .add (.p 45) (.c (.int .i64 1)), none⟩,
    ⟨.p 45, .mov (.t 82), none⟩])))
def bd_runes_spans : CCode :=
 .seq (.reg [⟨.p 2, .mov (.c (.nils)), none⟩])
    (.seq (.reg [⟨.p 3, .mov (.c (.nils)), none⟩])
    (.seq (.seq (.reg [⟨.p 11, .mov (.p 0), none⟩,
    ⟨.p 12, .lenSl (.p 11), none⟩,
    ⟨.p 13, .mov (.c (.int .i64 0)), none⟩])
    (.block 0 [3]
    (.loop [3, 11, 12, 13] lb_runes_spans_0)))
    (.seq (.reg [⟨.t 41, .mov (.p 3), none⟩,
    ⟨.t 42, .call F_slices_SortFunc_runes_span_runes_span [.t 41, .f F_runes_spans_1], none⟩])
    (.seq (.reg [⟨.p 7, .mov (.c (.nils)), none⟩])
    (.seq (.seq (.reg [⟨.p 43, .mov (.p 3), none⟩,
    ⟨.p 44, .lenSl (.p 43), none⟩,
    ⟨.p 45, .mov (.c (.int .i64 0)), none⟩])
    (.block 2 [7]
    (.loop [7, 43, 44, 45] lb_runes_spans_1)))
    (.seq (.reg [⟨.t 83, .mov (.p 7), none⟩,
    ⟨.p 2, .mov (.t 83), none⟩])
    (.ret)))))))
def cf_runes_spans : CFunc :=
{ nargs := 1, ps := [0, 2, 3, 5, 6, 7, 9, 10, 11, 12, 13, 14, 35, 43, 44, 45, 46, 63], results := [.slot 2], body := bd_runes_spans }

/- gobo/runes.ranges -/
def lb_runes_ranges_0 : CCode :=
 .seq (.reg [⟨.p 9, .bin .lss (.p 8) (.p 7), none⟩])
    (.seq (.cond (.p 9)
    (.skip)
    (.exit 0))
    (.seq (.block 1 [3, 6, 7, 8]
    (.seq (.reg [⟨.t 10, .idxAddr 2 (.p 6) (.p 8), none⟩,
    ⟨.t 11, .loadN 2 (.t 10), none⟩,
    ⟨.p 5, .alloc [.int .i64 0, .int .i64 0], none⟩,
    ⟨.no, .store 2 (.p 5) (.t 11), none⟩])
    (.dreg [⟨⟨.t 12, .mov (.p 3), none⟩, false, false, []⟩,
    ⟨⟨.t 13, .fieldAddr 0 (.p 5), none⟩, false, false, []⟩,
    ⟨⟨.t 14, .load1 (.t 13), none⟩, false, false, []⟩,
    ⟨⟨.t 15, .call F_runes_value [.t 14], none⟩, true, false, []⟩,
    ⟨⟨.t 16, .fieldAddr 1 (.p 5), none⟩, false, false, []⟩,
    ⟨⟨.t 17, .load1 (.t 16), none⟩, false, false, [3]⟩,
    ⟨⟨.t 18, .bin .sub (.t 17) (.c (.int .i64 1)), none⟩, false, false, []⟩,
    ⟨⟨.t 19, .call F_runes_value [.t 18], none⟩, false, false, []⟩,
    ⟨⟨.t 20, .build [.int .i32 0, .int .i32 0] [(0, 1, .t 15), (1, 1, .t 19)], none⟩, false, false, []⟩,
    ⟨⟨.t 21, .lit [.int .i32 0, .int .i32 0] 1 [(0, 2, .t 20)], none⟩, false, false, []⟩,
    ⟨⟨.t 22, .append 2 8 (.t 12) (.t 21), none⟩, false, false, []⟩,
    ⟨⟨.p 3, .mov (.t 22), none⟩, false, false, []⟩])))
    (.reg [⟨.t 23, .bin .add (.p 8) (.c (.int .i64 1)), none⟩,
    ⟨.p 8, .mov (.t 23), none⟩])))
def bd_runes_ranges : CCode :=
 .seq (.reg [⟨.p 2, .mov (.c (.nils)), none⟩])
    (.seq (.reg [⟨.p 3, .mov (.c (.nils)), none⟩])
    (.seq (.seq (.reg [⟨.p 6, .mov (.p 0), none⟩,
    ⟨.p 7, .lenSl (.p 6), none⟩,
    ⟨.p 8, .mov (.c (.int .i64 0)), none⟩])
    (.block 0 [3]
    (.loop [3, 6, 7, 8] lb_runes_ranges_0)))
    (.seq (.reg [⟨.t 24, .mov (.p 3), none⟩,
    ⟨.p 2, .mov (.t 24), none⟩])
    (.ret))))
def cf_runes_ranges : CFunc :=
{ nargs := 1, ps := [0, 2, 3, 5, 6, 7, 8, 9], results := [.slot 2], body := bd_runes_ranges }

/- gobo/word.Caught$1 -/
def bd_word_Caught_1 : CCode :=
 .seq (.reg [⟨.t 4, .recover, none⟩,
    ⟨.p 1, .mov (.t 4), none⟩])
    (.seq (.reg [⟨.t 5, .mov (.p 1), none⟩,
    ⟨.p 6, .eqv true .iface (.t 5) (.c (.nili)), none⟩])
    (.cond (.p 6)
    (.seq (.reg [⟨.t 8, .mov (.p 1), none⟩,
    ⟨.t 9, .assert T_word_Fault (some (.agg [.int .i64 0, .int .i64 0])) (.t 8), none⟩,
    ⟨.t 7, .mov (.t 9), none⟩,
    ⟨.t 10, .extract (.t 7) 0, none⟩,
    ⟨.t 11, .extract (.t 7) 1, none⟩,
    ⟨.p 2, .alloc [.int .i64 0, .int .i64 0], none⟩,
    ⟨.no, .store 2 (.p 2) (.t 10), none⟩,
    ⟨.p 3, .mov (.t 11), none⟩])
    (.seq (.seq (.reg [⟨.t 12, .mov (.p 3), none⟩,
    ⟨.p 13, .un .not (.t 12), none⟩])
    (.cond (.p 13)
    (.reg [⟨.t 14, .mov (.p 1), none⟩,
    ⟨.no, .panic (.t 14), none⟩])
    (.skip)))
    (.reg [⟨.t 15, .loadN 2 (.p 2), none⟩,
    ⟨.no, .store 2 (.p 0) (.t 15), none⟩])))
    (.skip)))
def cf_word_Caught_1 : CFunc :=
{ nargs := 1, ps := [0, 1, 2, 3, 6, 13], results := [], body := bd_word_Caught_1 }

/- gobo/word.run -/
def lb_word_run_0 : CCode :=
 .seq (.seq (.reg [⟨.t 7, .mov (.p 1), none⟩,
    ⟨.t 8, .mov (.p 0), none⟩,
    ⟨.t 9, .lenStr (.t 8), none⟩,
    ⟨.t 10, .bin .lss (.t 7) (.t 9), none⟩,
    ⟨.t 11, .mov (.t 10), none⟩,
    ⟨.t 12, .mov (.p 2), some (.t 11, true)⟩,
    ⟨.t 13, .mov (.p 0), some (.t 11, true)⟩,
    ⟨.t 14, .mov (.p 1), some (.t 11, true)⟩,
    ⟨.t 15, .idxStr (.t 13) (.t 14), some (.t 11, true)⟩,
    ⟨.t 16, .callV (.t 12) [.t 15], some (.t 11, true)⟩,
    ⟨.p 17, .pick (.t 11) (.t 16) (.c (.bool false)), none⟩])
    (.cond (.p 17)
    (.skip)
    (.exit 0)))
    (.block 1 [0, 1, 2]
    (.reg [⟨.t 18, .mov (.p 1), none⟩,
    ⟨.t 19, .bin .add (.t 18) (.c (.int .i64 1)), none⟩,
    ⟨.p 1, .mov (.t 19), none⟩]))
def bd_word_run : CCode :=
 .seq (.reg [⟨.p 6, .mov (.c (.int .i64 0)), none⟩])
    (.seq (.block 0 [1]
    (.loop [0, 1, 2] lb_word_run_0))
    (.seq (.reg [⟨.t 20, .mov (.p 1), none⟩,
    ⟨.p 6, .mov (.t 20), none⟩])
    (.ret)))
def cf_word_run : CFunc :=
{ nargs := 3, ps := [0, 1, 2, 6, 17], results := [.slot 6], body := bd_word_run }

/- gobo/word.words$1 -/
def bd_word_words_1 : CCode :=
 .seq (.reg [⟨.p 2, .mov (.c (.bool false)), none⟩])
    (.seq (.reg [⟨.t 3, .mov (.p 0), none⟩,
    ⟨.t 4, .bin .neq (.t 3) (.c (.int .u8 10)), none⟩,
    ⟨.p 2, .mov (.t 4), none⟩])
    (.ret))
def cf_word_words_1 : CFunc :=
{ nargs := 1, ps := [0, 2], results := [.slot 2], body := bd_word_words_1 }

/- gobo/word.letter -/
def bd_word_letter : CCode :=
 .seq (.reg [⟨.p 2, .mov (.c (.bool false)), none⟩])
    (.seq (.reg [⟨.t 3, .mov (.p 0), none⟩,
    ⟨.t 4, .bin .geq (.t 3) (.c (.int .u8 97)), none⟩,
    ⟨.t 5, .mov (.t 4), none⟩,
    ⟨.t 6, .mov (.p 0), some (.t 5, true)⟩,
    ⟨.t 7, .bin .leq (.t 6) (.c (.int .u8 122)), some (.t 5, true)⟩,
    ⟨.t 8, .pick (.t 5) (.t 7) (.c (.bool false)), none⟩,
    ⟨.p 2, .mov (.t 8), none⟩])
    (.ret))
def cf_word_letter : CFunc :=
{ nargs := 1, ps := [0, 2], results := [.slot 2], body := bd_word_letter }

/- gobo/word.words$2 -/
def bd_word_words_2 : CCode :=
 .seq (.reg [⟨.p 2, .mov (.c (.bool false)), none⟩])
    (.seq (.reg [⟨.t 3, .mov (.p 0), none⟩,
    ⟨.t 4, .call F_word_letter [.t 3], none⟩,
    ⟨.t 5, .mov (.t 4), none⟩,
    ⟨.t 6, .mov (.p 0), some (.t 5, false)⟩,
    ⟨.t 7, .call F_word_digit [.t 6], some (.t 5, false)⟩,
    ⟨.t 8, .pick (.t 5) (.c (.bool true)) (.t 7), none⟩,
    ⟨.p 2, .mov (.t 8), none⟩])
    (.ret))
def cf_word_words_2 : CFunc :=
{ nargs := 1, ps := [0, 2], results := [.slot 2], body := bd_word_words_2 }

/- gobo/word.digit -/
def bd_word_digit : CCode :=
 .seq (.reg [⟨.p 2, .mov (.c (.bool false)), none⟩])
    (.seq (.reg [⟨.t 3, .mov (.p 0), none⟩,
    ⟨.t 4, .bin .geq (.t 3) (.c (.int .u8 48)), none⟩,
    ⟨.t 5, .mov (.t 4), none⟩,
    ⟨.t 6, .mov (.p 0), some (.t 5, true)⟩,
    ⟨.t 7, .bin .leq (.t 6) (.c (.int .u8 57)), some (.t 5, true)⟩,
    ⟨.t 8, .pick (.t 5) (.t 7) (.c (.bool false)), none⟩,
    ⟨.p 2, .mov (.t 8), none⟩])
    (.ret))
def cf_word_digit : CFunc :=
{ nargs := 1, ps := [0, 2], results := [.slot 2], body := bd_word_digit }

/- strings.IndexByte -/
def bd_strings_IndexByte : CCode :=
 .seq (.reg [⟨.p 4, .mov (.c (.int .i64 0)), none⟩])
    (.seq (.reg [⟨.t 5, .mov (.p 0), none⟩,
    ⟨.t 6, .mov (.p 1), none⟩,
    ⟨.t 7, .call F_stringslite_IndexByte [.t 5, .t 6], none⟩,
    ⟨.p 4, .mov (.t 7), none⟩])
    (.ret))
def cf_strings_IndexByte : CFunc :=
{ nargs := 2, ps := [0, 1, 4], results := [.slot 4], body := bd_strings_IndexByte }

/- gobo/word.closed -/
def lb_word_closed_0 : CCode :=
 .seq (.seq (.reg [⟨.t 8, .mov (.p 5), none⟩,
    ⟨.t 9, .mov (.p 0), none⟩,
    ⟨.t 10, .lenStr (.t 9), none⟩,
    ⟨.t 11, .bin .lss (.t 8) (.t 10), none⟩,
    ⟨.t 12, .mov (.t 11), none⟩,
    ⟨.t 13, .mov (.p 0), some (.t 12, true)⟩,
    ⟨.t 14, .mov (.p 5), some (.t 12, true)⟩,
    ⟨.t 15, .idxStr (.t 13) (.t 14), some (.t 12, true)⟩,
    ⟨.t 16, .bin .neq (.t 15) (.c (.int .u8 10)), some (.t 12, true)⟩,
    ⟨.p 17, .pick (.t 12) (.t 16) (.c (.bool false)), none⟩])
    (.cond (.p 17)
    (.skip)
    (.exit 0)))
    (.seq (.block 1 [0, 1, 5]
    (.seq (.reg [⟨.t 20, .mov (.p 0), none⟩,
    ⟨.t 21, .mov (.p 5), none⟩,
    ⟨.p 22, .idxStr (.t 20) (.t 21), none⟩])
    (.block 2 [0, 1, 5]
    (.seq (.reg [⟨.t 24, .bin .eql (.p 22) (.c (.int .u8 47)), none⟩,
    ⟨.p 23, .mov (.t 24), none⟩])
    (.cond (.p 23)
    (.seq (.reg [⟨.t 25, .mov (.p 5), none⟩,
    ⟨.p 4, .mov (.t 25), none⟩])
    (.ret))
    (.seq (.reg [⟨.t 27, .bin .eql (.p 22) (.c (.int .u8 92)), none⟩,
    ⟨.p 26, .mov (.t 27), none⟩])
    (.cond (.p 26)
    (.seq (.reg [⟨.t 28, .mov (.p 5), none⟩,
    ⟨.t 29, .bin .add (.t 28) (.c (.int .i64 1)), none⟩,
    ⟨.p 5, .mov (.t 29), none⟩])
    (.seq (.reg [⟨.t 30, .mov (.p 5), none⟩,
    ⟨.t 31, .mov (.p 0), none⟩,
    ⟨.t 32, .lenStr (.t 31), none⟩,
    ⟨.t 33, .bin .eql (.t 30) (.t 32), none⟩,
    ⟨.t 34, .mov (.t 33), none⟩,
    ⟨.t 35, .mov (.p 0), some (.t 34, false)⟩,
    ⟨.t 36, .mov (.p 5), some (.t 34, false)⟩,
    ⟨.t 37, .idxStr (.t 35) (.t 36), some (.t 34, false)⟩,
    ⟨.t 38, .bin .eql (.t 37) (.c (.int .u8 10)), some (.t 34, false)⟩,
    ⟨.p 39, .pick (.t 34) (.c (.bool true)) (.t 38), none⟩])
    (.cond (.p 39)
    (.reg [⟨.t 40, .mov (.p 1), none⟩,
    ⟨.t 41, .call F_word_Fail [.c (.int .i64 2), .t 40], none⟩])
    (.skip))))
    (.skip))))))))
    (.reg [⟨.t 18, .mov (.p 5), none⟩,
    ⟨.t 19, .bin .add (.t 18) (.c (.int .i64 1)), none⟩,
    ⟨.p 5, .mov (.t 19), none⟩]))
def bd_word_closed : CCode :=
 .seq (.reg [⟨.p 4, .mov (.c (.int .i64 0)), none⟩])
    (.seq (.seq (.reg [⟨.t 6, .mov (.p 1), none⟩,
    ⟨.t 7, .bin .add (.t 6) (.c (.int .i64 1)), none⟩,
    ⟨.p 5, .mov (.t 7), none⟩])
    (.block 0 [1]
    (.loop [0, 1, 5] lb_word_closed_0)))
    (.seq (.reg [⟨.t 42, .mov (.p 1), none⟩,
    ⟨.t 43, .call F_word_Fail [.c (.int .i64 2), .t 42], none⟩])
    (.seq (.reg [⟨.p 4, .mov (.c (.int .i64 0)), none⟩])
    (.ret))))
def cf_word_closed : CFunc :=
{ nargs := 2, ps := [0, 1, 4, 5, 17, 22, 23, 26, 39], results := [.slot 4], body := bd_word_closed }

/- gobo/word.Fail -/
def bd_word_Fail : CCode :=
 .reg [⟨.t 4, .mov (.p 0), none⟩,
    ⟨.t 5, .mov (.p 1), none⟩,
    ⟨.t 6, .build [.int .i64 0, .int .i64 0] [(0, 1, .t 4), (1, 1, .t 5)], none⟩,
    ⟨.t 7, .mkIface T_word_Fault (.t 6), none⟩,
    ⟨.no, .panic (.t 7), none⟩]
def cf_word_Fail : CFunc :=
{ nargs := 2, ps := [0, 1], results := [], body := bd_word_Fail }

/- gobo/decode.New -/
def bd_decode_New : CCode :=
 .seq (.reg [⟨.p 0, .mov (.c (.nilp)), none⟩])
    (.seq (.reg [⟨.t 1, .build [.nils, .int .i64 0, .bool false, .nils] [], none⟩,
    ⟨.t 2, .box (.t 1), none⟩,
    ⟨.p 0, .mov (.t 2), none⟩])
    (.ret))
def cf_decode_New : CFunc :=
{ nargs := 0, ps := [0], results := [.slot 0], body := bd_decode_New }

/- (*gobo/decode.Dec).Feed -/
def lb_decode_Dec_Feed_0 : CCode :=
 .seq (.reg [⟨.p 18, .bin .lss (.p 17) (.p 16), none⟩])
    (.seq (.cond (.p 18)
    (.skip)
    (.exit 0))
    (.seq (.block 1 [0, 15, 16, 17]
    (.seq (.reg [⟨.t 19, .idxAddr 1 (.p 15) (.p 17), none⟩,
    ⟨.t 20, .load1 (.t 19), none⟩,
    ⟨.p 6, .mov (.t 20), none⟩])
    (.reg [⟨.t 21, .mov (.p 0), none⟩,
    ⟨.t 22, .mov (.p 6), none⟩,
    ⟨.t 23, .call F_decode_Dec_take [.t 21, .t 22], none⟩])))
    (.reg [⟨.t 24, .bin .add (.p 17) (.c (.int .i64 1)), none⟩,
    ⟨.p 17, .mov (.t 24), none⟩])))
def bd_decode_Dec_Feed : CCode :=
 .seq (.reg [⟨.p 4, .mov (.c (.nils)), none⟩])
    (.seq (.seq (.reg [⟨.t 7, .mov (.p 0), none⟩,
    ⟨.t 8, .eqv false .ptr (.t 7) (.c (.nilp)), none⟩,
    ⟨.t 9, .mov (.t 8), none⟩,
    ⟨.t 10, .mov (.p 0), some (.t 9, false)⟩,
    ⟨.t 11, .nilCheck (.t 10), some (.t 9, false)⟩,
    ⟨.t 12, .fieldAddr 2 (.t 11), some (.t 9, false)⟩,
    ⟨.t 13, .load1 (.t 12), some (.t 9, false)⟩,
    ⟨.p 14, .pick (.t 9) (.c (.bool true)) (.t 13), none⟩])
    (.cond (.p 14)
    (.seq (.reg [⟨.p 4, .mov (.c (.nils)), none⟩])
    (.ret))
    (.skip)))
    (.seq (.seq (.reg [⟨.p 15, .mov (.p 1), none⟩,
    ⟨.p 16, .lenSl (.p 15), none⟩,
    ⟨.p 17, .mov (.c (.int .i64 0)), none⟩])
    (.block 0 [0]
    (.loop [0, 15, 16, 17] lb_decode_Dec_Feed_0)))
    (.seq (.reg [⟨.t 25, .mov (.p 0), none⟩,
    ⟨.t 26, .call F_decode_Dec_taken [.t 25], none⟩,
    ⟨.p 4, .mov (.t 26), none⟩])
    (.ret))))
def cf_decode_Dec_Feed : CFunc :=
{ nargs := 2, ps := [0, 1, 4, 6, 14, 15, 16, 17, 18], results := [.slot 4], body := bd_decode_Dec_Feed }

/- (*gobo/decode.Dec).Close -/
def bd_decode_Dec_Close : CCode :=
 .seq (.reg [⟨.p 2, .mov (.c (.nils)), none⟩])
    (.seq (.seq (.reg [⟨.t 3, .mov (.p 0), none⟩,
    ⟨.t 4, .eqv false .ptr (.t 3) (.c (.nilp)), none⟩,
    ⟨.t 5, .mov (.t 4), none⟩,
    ⟨.t 6, .mov (.p 0), some (.t 5, false)⟩,
    ⟨.t 7, .nilCheck (.t 6), some (.t 5, false)⟩,
    ⟨.t 8, .fieldAddr 2 (.t 7), some (.t 5, false)⟩,
    ⟨.t 9, .load1 (.t 8), some (.t 5, false)⟩,
    ⟨.p 10, .pick (.t 5) (.c (.bool true)) (.t 9), none⟩])
    (.cond (.p 10)
    (.seq (.reg [⟨.p 2, .mov (.c (.nils)), none⟩])
    (.ret))
    (.skip)))
    (.seq (.seq (.reg [⟨.t 11, .mov (.p 0), none⟩,
    ⟨.t 12, .nilCheck (.t 11), none⟩,
    ⟨.t 13, .fieldAddr 2 (.t 12), none⟩,
    ⟨.no, .store 1 (.t 13) (.c (.bool true)), none⟩])
    (.seq (.reg [⟨.t 14, .mov (.p 0), none⟩,
    ⟨.t 15, .nilCheck (.t 14), none⟩,
    ⟨.t 16, .fieldAddr 0 (.t 15), none⟩,
    ⟨.t 17, .load1 (.t 16), none⟩,
    ⟨.t 18, .lenSl (.t 17), none⟩,
    ⟨.p 19, .bin .gtr (.t 18) (.c (.int .i64 0)), none⟩])
    (.cond (.p 19)
    (.reg [⟨.t 20, .mov (.p 0), none⟩,
    ⟨.t 21, .call F_decode_Dec_tell [.t 20, .c (.bool true), .c (.bool true)], none⟩])
    (.skip))))
    (.seq (.reg [⟨.t 22, .mov (.p 0), none⟩,
    ⟨.t 23, .call F_decode_Dec_taken [.t 22], none⟩,
    ⟨.p 2, .mov (.t 23), none⟩])
    (.ret))))
def cf_decode_Dec_Close : CFunc :=
{ nargs := 1, ps := [0, 2, 10, 19], results := [.slot 2], body := bd_decode_Dec_Close }

/- (*gobo/word.Reader).Skip -/
def bd_word_Reader_Skip : CCode :=
 .seq (.reg [⟨.p 4, .mov (.c (.bool false)), none⟩])
    (.seq (.seq (.reg [⟨.t 5, .mov (.p 0), none⟩,
    ⟨.t 6, .call F_word_Reader_Peek [.t 5], none⟩,
    ⟨.t 7, .mov (.p 1), none⟩,
    ⟨.p 8, .bin .neq (.t 6) (.t 7), none⟩])
    (.cond (.p 8)
    (.seq (.reg [⟨.p 4, .mov (.c (.bool false)), none⟩])
    (.ret))
    (.skip)))
    (.seq (.reg [⟨.t 9, .mov (.p 0), none⟩,
    ⟨.t 10, .nilCheck (.t 9), none⟩,
    ⟨.t 11, .fieldAddr 1 (.t 10), none⟩,
    ⟨.t 12, .load1 (.t 11), none⟩,
    ⟨.t 13, .bin .add (.t 12) (.c (.int .i64 1)), none⟩,
    ⟨.t 14, .nilCheck (.t 9), none⟩,
    ⟨.t 15, .fieldAddr 1 (.t 14), none⟩,
    ⟨.no, .store 1 (.t 15) (.t 13), none⟩])
    (.seq (.reg [⟨.p 4, .mov (.c (.bool true)), none⟩])
    (.ret))))
def cf_word_Reader_Skip : CFunc :=
{ nargs := 2, ps := [0, 1, 4, 8], results := [.slot 4], body := bd_word_Reader_Skip }

/- (*gobo/word.Reader).Peek -/
def bd_word_Reader_Peek : CCode :=
 .seq (.reg [⟨.p 2, .mov (.c (.int .i32 0)), none⟩])
    (.seq (.block 0 [0]
    (.seq (.dreg [⟨⟨.t 4, .mov (.p 0), none⟩, false, false, []⟩,
    ⟨⟨.t 5, .nilCheck (.t 4), none⟩, false, false, []⟩,
    ⟨⟨.t 6, .fieldAddr 1 (.t 5), none⟩, false, false, []⟩,
    ⟨⟨.t 7, .load1 (.t 6), none⟩, false, false, []⟩,
    ⟨⟨.t 8, .mov (.p 0), none⟩, false, false, []⟩,
    ⟨⟨.t 9, .nilCheck (.t 8), none⟩, false, false, []⟩,
    ⟨⟨.t 10, .fieldAddr 0 (.t 9), none⟩, false, false, []⟩,
    ⟨⟨.t 11, .load1 (.t 10), none⟩, false, false, []⟩,
    ⟨⟨.t 12, .lenSl (.t 11), none⟩, false, false, []⟩,
    ⟨⟨.t 13, .bin .eql (.t 7) (.t 12), none⟩, false, false, []⟩,
    ⟨⟨.p 3, .mov (.t 13), none⟩, false, false, []⟩])
    (.cond (.p 3)
    (.seq (.reg [⟨.p 2, .mov (.c (.int .i32 (-1))), none⟩])
    (.ret))
    (.seq (.dreg [⟨⟨.t 15, .mov (.p 0), none⟩, false, false, []⟩,
    ⟨⟨.t 16, .nilCheck (.t 15), none⟩, false, false, []⟩,
    ⟨⟨.t 17, .fieldAddr 0 (.t 16), none⟩, false, false, []⟩,
    ⟨⟨.t 18, .load1 (.t 17), none⟩, false, false, []⟩,
    ⟨⟨.t 19, .mov (.p 0), none⟩, false, false, []⟩,
    ⟨⟨.t 20, .nilCheck (.t 19), none⟩, false, false, []⟩,
    ⟨⟨.t 21, .fieldAddr 1 (.t 20), none⟩, false, false, []⟩,
    ⟨⟨.t 22, .load1 (.t 21), none⟩, false, false, []⟩,
    ⟨⟨.t 23, .idxAddr 5 (.t 18) (.t 22), none⟩, false, false, []⟩,
    ⟨⟨.t 24, .fieldAddr 3 (.t 23), none⟩, false, false, []⟩,
    ⟨⟨.t 25, .load1 (.t 24), none⟩, false, false, []⟩,
    ⟨⟨.p 14, .mov (.t 25), none⟩, false, false, []⟩])
    (.cond (.p 14)
    (.seq (.reg [⟨.p 2, .mov (.c (.int .i32 (-2))), none⟩])
    (.ret))
    (.skip))))))
    (.seq (.dreg [⟨⟨.t 26, .mov (.p 0), none⟩, false, false, []⟩,
    ⟨⟨.t 27, .nilCheck (.t 26), none⟩, false, false, []⟩,
    ⟨⟨.t 28, .fieldAddr 0 (.t 27), none⟩, false, false, []⟩,
    ⟨⟨.t 29, .load1 (.t 28), none⟩, false, false, []⟩,
    ⟨⟨.t 30, .mov (.p 0), none⟩, false, false, []⟩,
    ⟨⟨.t 31, .nilCheck (.t 30), none⟩, false, false, []⟩,
    ⟨⟨.t 32, .fieldAddr 1 (.t 31), none⟩, false, false, []⟩,
    ⟨⟨.t 33, .load1 (.t 32), none⟩, false, false, []⟩,
    ⟨⟨.t 34, .idxAddr 5 (.t 29) (.t 33), none⟩, false, false, []⟩,
    ⟨⟨.t 35, .fieldAddr 0 (.t 34), none⟩, false, false, []⟩,
    ⟨⟨.t 36, .load1 (.t 35), none⟩, false, false, []⟩,
    ⟨⟨.p 2, .mov (.t 36), none⟩, false, false, []⟩])
    (.ret)))
def cf_word_Reader_Peek : CFunc :=
{ nargs := 1, ps := [0, 2, 3, 14], results := [.slot 2], body := bd_word_Reader_Peek }

/- (*gobo/word.Reader).Rune -/
def bd_word_Reader_Rune : CCode :=
 .seq (.reg [⟨.p 4, .mov (.c (.int .i32 0)), none⟩])
    (.seq (.reg [⟨.t 7, .mov (.p 0), none⟩,
    ⟨.t 8, .call F_word_Reader_Peek [.t 7], none⟩,
    ⟨.p 5, .mov (.t 8), none⟩])
    (.seq (.reg [⟨.p 6, .mov (.c (.str [47, 124, 42, 40, 41, 91, 93, 46])), none⟩])
    (.seq (.seq (.reg [⟨.p 9, .mov (.p 1), none⟩])
    (.cond (.p 9)
    (.reg [⟨.p 6, .mov (.c (.str [47, 124, 42, 40, 41, 91, 93, 45])), none⟩])
    (.skip)))
    (.seq (.seq (.reg [⟨.t 10, .mov (.p 5), none⟩,
    ⟨.t 11, .bin .lss (.t 10) (.c (.int .i32 32)), none⟩,
    ⟨.t 12, .mov (.t 11), none⟩,
    ⟨.t 13, .mov (.p 6), some (.t 12, false)⟩,
    ⟨.t 14, .mov (.p 5), some (.t 12, false)⟩,
    ⟨.t 15, .call F_word_hasRune [.t 13, .t 14], some (.t 12, false)⟩,
    ⟨.p 16, .pick (.t 12) (.c (.bool true)) (.t 15), none⟩])
    (.cond (.p 16)
    (.reg [⟨.t 17, .mov (.p 0), none⟩,
    ⟨.t 18, .call F_word_Reader_At [.t 17], none⟩,
    ⟨.t 19, .call F_word_Fail [.c (.int .i64 3), .t 18], none⟩])
    (.skip)))
    (.seq (.seq (.reg [⟨.t 20, .mov (.p 0), none⟩,
    ⟨.t 21, .nilCheck (.t 20), none⟩,
    ⟨.t 22, .fieldAddr 1 (.t 21), none⟩,
    ⟨.t 23, .load1 (.t 22), none⟩,
    ⟨.t 24, .bin .add (.t 23) (.c (.int .i64 1)), none⟩,
    ⟨.t 25, .nilCheck (.t 20), none⟩,
    ⟨.t 26, .fieldAddr 1 (.t 25), none⟩,
    ⟨.no, .store 1 (.t 26) (.t 24), none⟩])
    (.seq (.reg [⟨.t 27, .mov (.p 5), none⟩,
    ⟨.p 28, .bin .neq (.t 27) (.c (.int .i32 92)), none⟩])
    (.cond (.p 28)
    (.seq (.reg [⟨.t 29, .mov (.p 5), none⟩,
    ⟨.p 4, .mov (.t 29), none⟩])
    (.ret))
    (.skip))))
    (.seq (.reg [⟨.t 30, .mov (.p 0), none⟩,
    ⟨.t 31, .call F_word_Reader_Peek [.t 30], none⟩,
    ⟨.p 5, .mov (.t 31), none⟩])
    (.seq (.block 0 [0, 5]
    (.seq (.reg [⟨.t 33, .mov (.p 0), none⟩,
    ⟨.t 34, .call F_word_Reader_Skip [.t 33, .c (.int .i32 110)], none⟩,
    ⟨.p 32, .mov (.t 34), none⟩])
    (.cond (.p 32)
    (.seq (.reg [⟨.p 4, .mov (.c (.int .i32 10)), none⟩])
    (.ret))
    (.seq (.reg [⟨.t 36, .mov (.p 0), none⟩,
    ⟨.t 37, .call F_word_Reader_Skip [.t 36, .c (.int .i32 114)], none⟩,
    ⟨.p 35, .mov (.t 37), none⟩])
    (.cond (.p 35)
    (.seq (.reg [⟨.p 4, .mov (.c (.int .i32 13)), none⟩])
    (.ret))
    (.seq (.reg [⟨.t 39, .mov (.p 0), none⟩,
    ⟨.t 40, .call F_word_Reader_Skip [.t 39, .c (.int .i32 116)], none⟩,
    ⟨.p 38, .mov (.t 40), none⟩])
    (.cond (.p 38)
    (.seq (.reg [⟨.p 4, .mov (.c (.int .i32 9)), none⟩])
    (.ret))
    (.seq (.reg [⟨.t 42, .mov (.p 0), none⟩,
    ⟨.t 43, .call F_word_Reader_Skip [.t 42, .c (.int .i32 117)], none⟩,
    ⟨.p 41, .mov (.t 43), none⟩])
    (.cond (.p 41)
    (.seq (.reg [⟨.t 44, .mov (.p 0), none⟩,
    ⟨.t 45, .call F_word_Reader_number [.t 44], none⟩,
    ⟨.p 4, .mov (.t 45), none⟩])
    (.ret))
    (.seq (.reg [⟨.t 47, .mov (.p 5), none⟩,
    ⟨.t 48, .bin .lss (.t 47) (.c (.int .i32 0)), none⟩,
    ⟨.t 49, .mov (.t 48), none⟩,
    ⟨.t 50, .mov (.p 5), some (.t 49, false)⟩,
    ⟨.t 51, .call F_word_hasRune [.c (.str [47, 124, 42, 40, 41, 91, 93, 92, 46, 45, 94, 123, 125]), .t 50], some (.t 49, false)⟩,
    ⟨.t 52, .un .not (.t 51), some (.t 49, false)⟩,
    ⟨.t 53, .pick (.t 49) (.c (.bool true)) (.t 52), none⟩,
    ⟨.p 46, .mov (.t 53), none⟩])
    (.cond (.p 46)
    (.reg [⟨.t 54, .mov (.p 0), none⟩,
    ⟨.t 55, .call F_word_Reader_At [.t 54], none⟩,
    ⟨.t 56, .call F_word_Fail [.c (.int .i64 3), .t 55], none⟩])
    (.skip))))))))))))
    (.seq (.reg [⟨.t 57, .mov (.p 0), none⟩,
    ⟨.t 58, .nilCheck (.t 57), none⟩,
    ⟨.t 59, .fieldAddr 1 (.t 58), none⟩,
    ⟨.t 60, .load1 (.t 59), none⟩,
    ⟨.t 61, .bin .add (.t 60) (.c (.int .i64 1)), none⟩,
    ⟨.t 62, .nilCheck (.t 57), none⟩,
    ⟨.t 63, .fieldAddr 1 (.t 62), none⟩,
    ⟨.no, .store 1 (.t 63) (.t 61), none⟩])
    (.seq (.reg [⟨.t 64, .mov (.p 5), none⟩,
    ⟨.p 4, .mov (.t 64), none⟩])
    (.ret))))))))))
def cf_word_Reader_Rune : CFunc :=
{ nargs := 2, ps := [0, 1, 4, 5, 6, 9, 16, 28, 32, 35, 38, 41, 46], results := [.slot 4], body := bd_word_Reader_Rune }

/- (*gobo/word.Reader).At -/
def bd_word_Reader_At : CCode :=
 .seq (.reg [⟨.p 2, .mov (.c (.int .i64 0)), none⟩])
    (.seq (.seq (.dreg [⟨⟨.t 3, .mov (.p 0), none⟩, false, false, []⟩,
    ⟨⟨.t 4, .nilCheck (.t 3), none⟩, false, false, []⟩,
    ⟨⟨.t 5, .fieldAddr 1 (.t 4), none⟩, false, false, []⟩,
    ⟨⟨.t 6, .load1 (.t 5), none⟩, false, false, []⟩,
    ⟨⟨.t 7, .mov (.p 0), none⟩, false, false, []⟩,
    ⟨⟨.t 8, .nilCheck (.t 7), none⟩, false, false, []⟩,
    ⟨⟨.t 9, .fieldAddr 0 (.t 8), none⟩, false, false, []⟩,
    ⟨⟨.t 10, .load1 (.t 9), none⟩, false, false, []⟩,
    ⟨⟨.t 11, .lenSl (.t 10), none⟩, false, false, []⟩,
    ⟨⟨.p 12, .bin .eql (.t 6) (.t 11), none⟩, false, false, []⟩])
    (.cond (.p 12)
    (.seq (.reg [⟨.t 13, .mov (.p 0), none⟩,
    ⟨.t 14, .nilCheck (.t 13), none⟩,
    ⟨.t 15, .fieldAddr 2 (.t 14), none⟩,
    ⟨.t 16, .load1 (.t 15), none⟩,
    ⟨.p 2, .mov (.t 16), none⟩])
    (.ret))
    (.skip)))
    (.seq (.dreg [⟨⟨.t 17, .mov (.p 0), none⟩, false, false, []⟩,
    ⟨⟨.t 18, .nilCheck (.t 17), none⟩, false, false, []⟩,
    ⟨⟨.t 19, .fieldAddr 0 (.t 18), none⟩, false, false, []⟩,
    ⟨⟨.t 20, .load1 (.t 19), none⟩, false, false, []⟩,
    ⟨⟨.t 21, .mov (.p 0), none⟩, false, false, []⟩,
    ⟨⟨.t 22, .nilCheck (.t 21), none⟩, false, false, []⟩,
    ⟨⟨.t 23, .fieldAddr 1 (.t 22), none⟩, false, false, []⟩,
    ⟨⟨.t 24, .load1 (.t 23), none⟩, false, false, []⟩,
    ⟨⟨.t 25, .idxAddr 5 (.t 20) (.t 24), none⟩, false, false, []⟩,
    ⟨⟨.t 26, .fieldAddr 1 (.t 25), none⟩, false, false, []⟩,
    ⟨⟨.t 27, .load1 (.t 26), none⟩, false, false, []⟩,
    ⟨⟨.p 2, .mov (.t 27), none⟩, false, false, []⟩])
    (.ret)))
def cf_word_Reader_At : CFunc :=
{ nargs := 1, ps := [0, 2, 12], results := [.slot 2], body := bd_word_Reader_At }

/- slices.Grow[[]gobo/api.Range,gobo/api.Range] -/
def bd_slices_Grow_api_Range_api_Range : CCode :=
 .seq (.reg [⟨.p 4, .mov (.c (.nils)), none⟩])
    (.seq (.seq (.reg [⟨.t 5, .mov (.p 1), none⟩,
    ⟨.p 6, .bin .lss (.t 5) (.c (.int .i64 0)), none⟩])
    (.cond (.p 6)
    (.reg [⟨.t 7, .mkIface T_string (.c (.str [99, 97, 110, 110, 111, 116, 32, 98, 101, 32, 110, 101, 103, 97, 116, 105, 118, 101])), none⟩,
    ⟨.no, .panic (.t 7), none⟩])
    (.skip)))
    (.seq (.seq (.reg [⟨.t 8, .mov (.p 1), none⟩,
    ⟨.t 9, .mov (.p 0), none⟩,
    ⟨.t 10, .capSl (.t 9), none⟩,
    ⟨.t 11, .mov (.p 0), none⟩,
    ⟨.t 12, .lenSl (.t 11), none⟩,
    ⟨.t 13, .bin .sub (.t 10) (.t 12), none⟩,
    ⟨.t 14, .bin .sub (.t 8) (.t 13), none⟩,
    ⟨.p 1, .mov (.t 14), none⟩])
    (.seq (.reg [⟨.t 15, .mov (.p 1), none⟩,
    ⟨.p 16, .bin .gtr (.t 15) (.c (.int .i64 0)), none⟩])
    (.cond (.p 16)
    (.reg [⟨.t 17, .mov (.p 0), none⟩,
    ⟨.t 18, .mov (.p 0), none⟩,
    ⟨.t 19, .capSl (.t 18), none⟩,
    ⟨.t 20, .sliceSl 2 (.t 17) none (some (.t 19)) none, none⟩,
    ⟨.t 21, .mov (.p 1), none⟩,
    ⟨.t 22, .appendZ [.int .i32 0, .int .i32 0] 8 (.t 20) (.t 21), none⟩,
    ⟨.t 23, .mov (.p 0), none⟩,
    ⟨.t 24, .lenSl (.t 23), none⟩,
    ⟨.t 25, .sliceSl 2 (.t 22) none (some (.t 24)) none, none⟩,
    ⟨.p 0, .mov (.t 25), none⟩])
    (.skip))))
    (.seq (.reg [⟨.t 26, .mov (.p 0), none⟩,
    ⟨.p 4, .mov (.t 26), none⟩])
    (.ret))))
def cf_slices_Grow_api_Range_api_Range : CFunc :=
{ nargs := 2, ps := [0, 1, 4, 6, 16], results := [.slot 4], body := bd_slices_Grow_api_Range_api_Range }

/- gobo/runes.number -/
def bd_runes_number : CCode :=
 .seq (.reg [⟨.p 2, .mov (.c (.int .i64 0)), none⟩])
    (.seq (.block 0 [0]
    (.seq (.reg [⟨.t 4, .mov (.p 0), none⟩,
    ⟨.t 5, .bin .lss (.t 4) (.c (.int .i32 0)), none⟩,
    ⟨.p 3, .mov (.t 5), none⟩])
    (.cond (.p 3)
    (.seq (.reg [⟨.p 2, .mov (.c (.int .i64 0)), none⟩])
    (.ret))
    (.seq (.reg [⟨.t 7, .mov (.p 0), none⟩,
    ⟨.t 8, .bin .lss (.t 7) (.c (.int .i32 55296)), none⟩,
    ⟨.p 6, .mov (.t 8), none⟩])
    (.cond (.p 6)
    (.seq (.reg [⟨.t 9, .mov (.p 0), none⟩,
    ⟨.t 10, .convI .i64 (.t 9), none⟩,
    ⟨.p 2, .mov (.t 10), none⟩])
    (.ret))
    (.seq (.reg [⟨.t 12, .mov (.p 0), none⟩,
    ⟨.t 13, .bin .leq (.t 12) (.c (.int .i32 57343)), none⟩,
    ⟨.p 11, .mov (.t 13), none⟩])
    (.cond (.p 11)
    (.seq (.reg [⟨.p 2, .mov (.c (.int .i64 55296)), none⟩])
    (.ret))
    (.skip))))))))
    (.seq (.reg [⟨.t 14, .mov (.p 0), none⟩,
    ⟨.t 15, .convI .i64 (.t 14), none⟩,
    ⟨.t 16, .minmax false [.t 15, .c (.int .i64 1114112)], none⟩,
    ⟨.t 17, .bin .sub (.t 16) (.c (.int .i64 2048)), none⟩,
    ⟨.p 2, .mov (.t 17), none⟩])
    (.ret)))
def cf_runes_number : CFunc :=
{ nargs := 1, ps := [0, 2, 3, 6, 11], results := [.slot 2], body := bd_runes_number }

/- gobo/runes.behind -/
def bd_runes_behind : CCode :=
 .seq (.reg [⟨.p 2, .mov (.c (.int .i64 0)), none⟩])
    (.seq (.reg [⟨.t 4, .mov (.p 0), none⟩,
    ⟨.t 5, .call F_runes_number [.t 4], none⟩,
    ⟨.p 3, .mov (.t 5), none⟩])
    (.seq (.seq (.reg [⟨.t 6, .mov (.p 0), none⟩,
    ⟨.p 7, .call F_runes_is [.t 6], none⟩])
    (.cond (.p 7)
    (.reg [⟨.t 8, .mov (.p 3), none⟩,
    ⟨.t 9, .bin .add (.t 8) (.c (.int .i64 1)), none⟩,
    ⟨.p 3, .mov (.t 9), none⟩])
    (.skip)))
    (.seq (.reg [⟨.t 10, .mov (.p 3), none⟩,
    ⟨.p 2, .mov (.t 10), none⟩])
    (.ret))))
def cf_runes_behind : CFunc :=
{ nargs := 1, ps := [0, 2, 3, 7], results := [.slot 2], body := bd_runes_behind }

/- slices.SortFunc[[]gobo/runes.span,gobo/runes.span] -/
def bd_slices_SortFunc_runes_span_runes_span : CCode :=
 .seq (.reg [⟨.t 5, .mov (.p 0), none⟩,
    ⟨.t 6, .lenSl (.t 5), none⟩,
    ⟨.p 4, .mov (.t 6), none⟩])
    (.reg [⟨.t 7, .mov (.p 0), none⟩,
    ⟨.t 8, .mov (.p 4), none⟩,
    ⟨.t 9, .mov (.p 4), none⟩,
    ⟨.t 10, .convI .u64 (.t 9), none⟩,
    ⟨.t 11, .call F_bits_Len [.t 10], none⟩,
    ⟨.t 12, .mov (.p 1), none⟩,
    ⟨.t 13, .call F_slices_pdqsortCmpFunc_runes_span [.t 7, .c (.int .i64 0), .t 8, .t 11, .t 12], none⟩])
def cf_slices_SortFunc_runes_span_runes_span : CFunc :=
{ nargs := 2, ps := [0, 1, 4], results := [], body := bd_slices_SortFunc_runes_span_runes_span }

/- gobo/runes.spans$1 -/
def bd_runes_spans_1 : CCode :=
 .seq (.reg [⟨.p 2, .box (.p 0), none⟩,
    ⟨.p 3, .box (.p 1), none⟩,
    ⟨.p 4, .mov (.c (.int .i64 0)), none⟩])
    (.seq (.reg [⟨.t 5, .fieldAddr 0 (.p 2), none⟩,
    ⟨.t 6, .load1 (.t 5), none⟩,
    ⟨.t 7, .fieldAddr 0 (.p 3), none⟩,
    ⟨.t 8, .load1 (.t 7), none⟩,
    ⟨.t 9, .call F_cmp_Compare_int [.t 6, .t 8], none⟩,
    ⟨.p 4, .mov (.t 9), none⟩])
    (.ret))
def cf_runes_spans_1 : CFunc :=
{ nargs := 2, ps := [0, 1, 2, 3, 4], results := [.slot 4], body := bd_runes_spans_1 }

/- cmp.Compare[int] -/
def bd_cmp_Compare_int : CCode :=
 .seq (.reg [⟨.p 4, .mov (.c (.int .i64 0)), none⟩])
    (.seq (.reg [⟨.t 7, .mov (.p 0), none⟩,
    ⟨.t 8, .call F_cmp_isNaN_int [.t 7], none⟩,
    ⟨.p 5, .mov (.t 8), none⟩])
    (.seq (.reg [⟨.t 9, .mov (.p 1), none⟩,
    ⟨.t 10, .call F_cmp_isNaN_int [.t 9], none⟩,
    ⟨.p 6, .mov (.t 10), none⟩])
    (.seq (.seq (.reg [⟨.p 11, .mov (.p 5), none⟩])
    (.cond (.p 11)
    (.seq (.seq (.reg [⟨.p 12, .mov (.p 6), none⟩])
    (.cond (.p 12)
    (.seq (.reg [⟨.p 4, .mov (.c (.int .i64 0)), none⟩])
    (.ret))
    (.skip)))
    (.seq (.reg [⟨.p 4, .mov (.c (.int .i64 (-1))), none⟩])
    (.ret)))
    (.skip)))
    (.seq (.seq (.reg [⟨.p 13, .mov (.p 6), none⟩])
    (.cond (.p 13)
    (.seq (.reg [⟨.p 4, .mov (.c (.int .i64 1)), none⟩])
    (.ret))
    (.skip)))
    (.seq (.seq (.reg [⟨.t 14, .mov (.p 0), none⟩,
    ⟨.t 15, .mov (.p 1), none⟩,
    ⟨.p 16, .bin .lss (.t 14) (.t 15), none⟩])
    (.cond (.p 16)
    (.seq (.reg [⟨.p 4, .mov (.c (.int .i64 (-1))), none⟩])
    (.ret))
    (.skip)))
    (.seq (.seq (.reg [⟨.t 17, .mov (.p 0), none⟩,
    ⟨.t 18, .mov (.p 1), none⟩,
    ⟨.p 19, .bin .gtr (.t 17) (.t 18), none⟩])
    (.cond (.p 19)
    (.seq (.reg [⟨.p 4, .mov (.c (.int .i64 1)), none⟩])
    (.ret))
    (.skip)))
    (.seq (.reg [⟨.p 4, .mov (.c (.int .i64 0)), none⟩])
    (.ret))))))))
def cf_cmp_Compare_int : CFunc :=
{ nargs := 2, ps := [0, 1, 4, 5, 6, 11, 12, 13, 16, 19], results := [.slot 4], body := bd_cmp_Compare_int }

/- gobo/runes.value -/
def bd_runes_value : CCode :=
 .seq (.reg [⟨.p 2, .mov (.c (.int .i32 0)), none⟩])
    (.seq (.seq (.reg [⟨.t 3, .mov (.p 0), none⟩,
    ⟨.p 4, .bin .lss (.t 3) (.c (.int .i64 55296)), none⟩])
    (.cond (.p 4)
    (.seq (.reg [⟨.t 5, .mov (.p 0), none⟩,
    ⟨.t 6, .convI .i32 (.t 5), none⟩,
    ⟨.p 2, .mov (.t 6), none⟩])
    (.ret))
    (.skip)))
    (.seq (.reg [⟨.t 7, .mov (.p 0), none⟩,
    ⟨.t 8, .bin .add (.t 7) (.c (.int .i64 2048)), none⟩,
    ⟨.t 9, .convI .i32 (.t 8), none⟩,
    ⟨.p 2, .mov (.t 9), none⟩])
    (.ret)))
def cf_runes_value : CFunc :=
{ nargs := 1, ps := [0, 2, 4], results := [.slot 2], body := bd_runes_value }

/- internal/stringslite.IndexByte -/
def bd_stringslite_IndexByte : CCode :=
 .seq (.reg [⟨.p 4, .mov (.c (.int .i64 0)), none⟩])
    (.seq (.reg [⟨.t 5, .mov (.p 0), none⟩,
    ⟨.t 6, .mov (.p 1), none⟩,
    ⟨.t 7, .idxByte (.t 5) (.t 6), none⟩,
    ⟨.p 4, .mov (.t 7), none⟩])
    (.ret))
def cf_stringslite_IndexByte : CFunc :=
{ nargs := 2, ps := [0, 1, 4], results := [.slot 4], body := bd_stringslite_IndexByte }

/- (*gobo/decode.Dec).take -/
def bd_decode_Dec_take : CCode :=
 .seq (.seq (.reg [⟨.t 4, .mov (.p 0), none⟩,
    ⟨.t 5, .mov (.p 1), none⟩,
    ⟨.p 6, .call F_decode_Dec_more [.t 4, .t 5], none⟩])
    (.cond (.p 6)
    (.ret)
    (.skip)))
    (.seq (.seq (.reg [⟨.t 7, .mov (.p 0), none⟩,
    ⟨.t 8, .nilCheck (.t 7), none⟩,
    ⟨.t 9, .fieldAddr 0 (.t 8), none⟩,
    ⟨.t 10, .load1 (.t 9), none⟩,
    ⟨.t 11, .lenSl (.t 10), none⟩,
    ⟨.p 12, .bin .gtr (.t 11) (.c (.int .i64 0)), none⟩])
    (.cond (.p 12)
    (.seq (.reg [⟨.t 13, .mov (.p 0), none⟩,
    ⟨.t 14, .call F_decode_Dec_tell [.t 13, .c (.bool true), .c (.bool true)], none⟩])
    (.seq (.reg [⟨.t 15, .mov (.p 0), none⟩,
    ⟨.t 16, .mov (.p 1), none⟩,
    ⟨.t 17, .call F_decode_Dec_take [.t 15, .t 16], none⟩])
    (.ret)))
    (.skip)))
    (.seq (.reg [⟨.t 18, .mov (.p 0), none⟩,
    ⟨.t 19, .mov (.p 1), none⟩,
    ⟨.t 20, .lit [.int .u8 0] 1 [(0, 1, .t 19)], none⟩,
    ⟨.t 21, .nilCheck (.t 18), none⟩,
    ⟨.t 22, .fieldAddr 0 (.t 21), none⟩,
    ⟨.no, .store 1 (.t 22) (.t 20), none⟩])
    (.reg [⟨.t 23, .mov (.p 0), none⟩,
    ⟨.t 24, .call F_decode_Dec_tell [.t 23, .c (.bool true), .c (.bool false)], none⟩])))
def cf_decode_Dec_take : CFunc :=
{ nargs := 2, ps := [0, 1, 6, 12], results := [], body := bd_decode_Dec_take }

/- (*gobo/decode.Dec).taken -/
def bd_decode_Dec_taken : CCode :=
 .seq (.reg [⟨.p 2, .mov (.c (.nils)), none⟩])
    (.seq (.reg [⟨.t 4, .mov (.p 0), none⟩,
    ⟨.t 5, .nilCheck (.t 4), none⟩,
    ⟨.t 6, .fieldAddr 3 (.t 5), none⟩,
    ⟨.t 7, .load1 (.t 6), none⟩,
    ⟨.p 3, .mov (.t 7), none⟩])
    (.seq (.reg [⟨.t 8, .mov (.p 0), none⟩,
    ⟨.t 9, .nilCheck (.t 8), none⟩,
    ⟨.t 10, .fieldAddr 3 (.t 9), none⟩,
    ⟨.no, .store 1 (.t 10) (.c (.nils)), none⟩])
    (.seq (.reg [⟨.t 11, .mov (.p 3), none⟩,
    ⟨.p 2, .mov (.t 11), none⟩])
    (.ret))))
def cf_decode_Dec_taken : CFunc :=
{ nargs := 1, ps := [0, 2, 3], results := [.slot 2], body := bd_decode_Dec_taken }

/- (*gobo/decode.Dec).tell -/
def bd_decode_Dec_tell : CCode :=
 .seq (.dreg [⟨⟨.t 7, .mov (.p 0), none⟩, false, false, []⟩,
    ⟨⟨.t 8, .nilCheck (.t 7), none⟩, false, false, []⟩,
    ⟨⟨.t 9, .fieldAddr 1 (.t 8), none⟩, false, false, []⟩,
    ⟨⟨.t 10, .load1 (.t 9), none⟩, true, false, []⟩,
    ⟨⟨.t 11, .mov (.p 0), none⟩, false, false, []⟩,
    ⟨⟨.t 12, .nilCheck (.t 11), none⟩, false, false, []⟩,
    ⟨⟨.t 13, .fieldAddr 1 (.t 12), none⟩, false, false, []⟩,
    ⟨⟨.t 14, .load1 (.t 13), none⟩, true, false, []⟩,
    ⟨⟨.t 15, .mov (.p 0), none⟩, false, false, []⟩,
    ⟨⟨.t 16, .nilCheck (.t 15), none⟩, false, false, []⟩,
    ⟨⟨.t 17, .fieldAddr 0 (.t 16), none⟩, false, false, []⟩,
    ⟨⟨.t 18, .load1 (.t 17), none⟩, true, false, []⟩,
    ⟨⟨.t 19, .lenSl (.t 18), none⟩, false, false, []⟩,
    ⟨⟨.t 20, .bin .add (.t 14) (.t 19), none⟩, false, false, []⟩,
    ⟨⟨.t 21, .mov (.p 1), none⟩, false, false, []⟩,
    ⟨⟨.t 22, .mov (.p 2), none⟩, false, false, []⟩,
    ⟨⟨.t 23, .build [.int .i32 0, .int .i64 0, .int .i64 0, .bool false, .bool false] [(0, 1, .c (.int .i32 65533)), (1, 1, .t 10), (2, 1, .t 20), (3, 1, .t 21), (4, 1, .t 22)], none⟩, false, false, []⟩,
    ⟨⟨.p 6, .alloc [.int .i32 0, .int .i64 0, .int .i64 0, .bool false, .bool false], none⟩, false, false, [3, 7, 11]⟩,
    ⟨⟨.no, .store 5 (.p 6) (.t 23), none⟩, false, false, []⟩])
    (.seq (.seq (.reg [⟨.t 24, .mov (.p 1), none⟩,
    ⟨.p 25, .un .not (.t 24), none⟩])
    (.cond (.p 25)
    (.reg [⟨.t 27, .mov (.p 0), none⟩,
    ⟨.t 28, .nilCheck (.t 27), none⟩,
    ⟨.t 29, .fieldAddr 0 (.t 28), none⟩,
    ⟨.t 30, .load1 (.t 29), none⟩,
    ⟨.t 31, .call F_utf8_DecodeRune [.t 30], none⟩,
    ⟨.t 26, .mov (.t 31), none⟩,
    ⟨.t 32, .extract (.t 26) 0, none⟩,
    ⟨.t 33, .extract (.t 26) 1, none⟩,
    ⟨.t 34, .fieldAddr 0 (.p 6), none⟩,
    ⟨.no, .store 1 (.t 34) (.t 32), none⟩])
    (.skip)))
    (.seq (.dreg [⟨⟨.t 35, .mov (.p 0), none⟩, false, false, []⟩,
    ⟨⟨.t 36, .mov (.p 0), none⟩, false, false, []⟩,
    ⟨⟨.t 37, .nilCheck (.t 36), none⟩, false, false, []⟩,
    ⟨⟨.t 38, .fieldAddr 3 (.t 37), none⟩, false, false, []⟩,
    ⟨⟨.t 39, .load1 (.t 38), none⟩, true, false, []⟩,
    ⟨⟨.t 40, .loadN 5 (.p 6), none⟩, false, false, []⟩,
    ⟨⟨.t 41, .lit [.int .i32 0, .int .i64 0, .int .i64 0, .bool false, .bool false] 1 [(0, 5, .t 40)], none⟩, false, false, [4]⟩,
    ⟨⟨.t 42, .append 5 32 (.t 39) (.t 41), none⟩, false, false, []⟩,
    ⟨⟨.t 43, .nilCheck (.t 35), none⟩, false, false, []⟩,
    ⟨⟨.t 44, .fieldAddr 3 (.t 43), none⟩, false, false, []⟩,
    ⟨⟨.no, .store 1 (.t 44) (.t 42), none⟩, false, false, []⟩])
    (.dreg [⟨⟨.t 45, .mov (.p 0), none⟩, false, false, []⟩,
    ⟨⟨.t 46, .mov (.p 0), none⟩, false, false, []⟩,
    ⟨⟨.t 47, .fieldAddr 2 (.p 6), none⟩, false, false, []⟩,
    ⟨⟨.t 48, .load1 (.t 47), none⟩, true, false, []⟩,
    ⟨⟨.t 49, .nilCheck (.t 45), none⟩, false, false, []⟩,
    ⟨⟨.t 50, .fieldAddr 0 (.t 49), none⟩, false, false, []⟩,
    ⟨⟨.no, .store 1 (.t 50) (.c (.nils)), none⟩, false, false, [3]⟩,
    ⟨⟨.t 51, .nilCheck (.t 46), none⟩, false, false, []⟩,
    ⟨⟨.t 52, .fieldAddr 1 (.t 51), none⟩, false, false, []⟩,
    ⟨⟨.no, .store 1 (.t 52) (.t 48), none⟩, false, false, []⟩])))
def cf_decode_Dec_tell : CFunc :=
{ nargs := 3, ps := [0, 1, 2, 6, 25], results := [], body := bd_decode_Dec_tell }

/- gobo/word.hasRune -/
def lb_word_hasRune_0 : CCode :=
 .seq (.reg [⟨.p 9, .nextStr (.p 8), none⟩,
    ⟨.p 10, .extract (.p 9) 0, none⟩])
    (.seq (.cond (.p 10)
    (.skip)
    (.exit 0))
    (.block 1 [1, 8]
    (.seq (.reg [⟨.t 11, .extract (.p 9) 2, none⟩,
    ⟨.p 6, .mov (.t 11), none⟩])
    (.seq (.reg [⟨.t 12, .mov (.p 6), none⟩,
    ⟨.t 13, .mov (.p 1), none⟩,
    ⟨.p 14, .bin .eql (.t 12) (.t 13), none⟩])
    (.cond (.p 14)
    (.seq (.reg [⟨.p 4, .mov (.c (.bool true)), none⟩])
    (.ret))
    (.skip))))))
def bd_word_hasRune : CCode :=
 .seq (.reg [⟨.p 4, .mov (.c (.bool false)), none⟩])
    (.seq (.seq (.reg [⟨.t 7, .mov (.p 0), none⟩,
    ⟨.p 8, .rangeStr (.t 7), none⟩])
    (.block 0 []
    (.loop [1, 8] lb_word_hasRune_0)))
    (.seq (.reg [⟨.p 4, .mov (.c (.bool false)), none⟩])
    (.ret)))
def cf_word_hasRune : CFunc :=
{ nargs := 2, ps := [0, 1, 4, 6, 8, 9, 10, 14], results := [.slot 4], body := bd_word_hasRune }

/- (*gobo/word.Reader).number -/
def lb_word_Reader_number_0 : CCode :=
 .seq (.seq (.reg [⟨.t 8, .mov (.p 4), none⟩,
    ⟨.p 9, .bin .lss (.t 8) (.c (.int .i64 6)), none⟩])
    (.cond (.p 9)
    (.skip)
    (.exit 0)))
    (.seq (.block 1 [0, 3, 4]
    (.seq (.reg [⟨.t 12, .mov (.p 0), none⟩,
    ⟨.t 13, .call F_word_Reader_Peek [.t 12], none⟩,
    ⟨.t 14, .call F_word_hex [.t 13], none⟩,
    ⟨.p 5, .mov (.t 14), none⟩])
    (.seq (.seq (.reg [⟨.t 15, .mov (.p 5), none⟩,
    ⟨.t 16, .bin .lss (.t 15) (.c (.int .i32 0)), none⟩,
    ⟨.t 17, .mov (.t 16), none⟩,
    ⟨.t 18, .mov (.p 3), some (.t 17, false)⟩,
    ⟨.t 19, .bin .mul (.t 18) (.c (.int .i32 16)), some (.t 17, false)⟩,
    ⟨.t 20, .mov (.p 5), some (.t 17, false)⟩,
    ⟨.t 21, .bin .add (.t 19) (.t 20), some (.t 17, false)⟩,
    ⟨.t 22, .bin .gtr (.t 21) (.c (.int .i32 1114111)), some (.t 17, false)⟩,
    ⟨.p 23, .pick (.t 17) (.c (.bool true)) (.t 22), none⟩])
    (.cond (.p 23)
    (.exit 0)
    (.skip)))
    (.seq (.reg [⟨.t 24, .mov (.p 3), none⟩,
    ⟨.t 25, .bin .mul (.t 24) (.c (.int .i32 16)), none⟩,
    ⟨.t 26, .mov (.p 5), none⟩,
    ⟨.t 27, .bin .add (.t 25) (.t 26), none⟩,
    ⟨.p 3, .mov (.t 27), none⟩])
    (.reg [⟨.t 28, .mov (.p 0), none⟩,
    ⟨.t 29, .nilCheck (.t 28), none⟩,
    ⟨.t 30, .fieldAddr 1 (.t 29), none⟩,
    ⟨.t 31, .load1 (.t 30), none⟩,
    ⟨.t 32, .bin .add (.t 31) (.c (.int .i64 1)), none⟩,
    ⟨.t 33, .nilCheck (.t 28), none⟩,
    ⟨.t 34, .fieldAddr 1 (.t 33), none⟩,
    ⟨.no, .store 1 (.t 34) (.t 32), none⟩])))))
    (.reg [⟨.t 10, .mov (.p 4), none⟩,
    ⟨.t 11, .bin .add (.t 10) (.c (.int .i64 1)), none⟩,
    ⟨.p 4, .mov (.t 11), none⟩]))
def bd_word_Reader_number : CCode :=
 .seq (.reg [⟨.p 2, .mov (.c (.int .i32 0)), none⟩])
    (.seq (.reg [⟨.t 6, .mov (.p 0), none⟩,
    ⟨.t 7, .call F_word_Reader_Must [.t 6, .c (.int .i32 123)], none⟩])
    (.seq (.reg [⟨.p 3, .mov (.c (.int .i32 0)), none⟩])
    (.seq (.reg [⟨.p 4, .mov (.c (.int .i64 0)), none⟩])
    (.seq (.block 0 [0, 3, 4]
    (.loop [0, 3, 4] lb_word_Reader_number_0))
    (.seq (.seq (.reg [⟨.t 35, .mov (.p 4), none⟩,
    ⟨.t 36, .bin .eql (.t 35) (.c (.int .i64 0)), none⟩,
    ⟨.t 37, .mov (.t 36), none⟩,
    ⟨.t 38, .mov (.p 0), some (.t 37, false)⟩,
    ⟨.t 39, .call F_word_Reader_Peek [.t 38], some (.t 37, false)⟩,
    ⟨.t 40, .bin .neq (.t 39) (.c (.int .i32 125)), some (.t 37, false)⟩,
    ⟨.t 41, .pick (.t 37) (.c (.bool true)) (.t 40), none⟩,
    ⟨.t 42, .mov (.t 41), none⟩,
    ⟨.t 43, .mov (.p 3), some (.t 42, false)⟩,
    ⟨.t 44, .bin .geq (.t 43) (.c (.int .i32 55296)), some (.t 42, false)⟩,
    ⟨.t 45, .mov (.t 44), some (.t 42, false)⟩,
    ⟨.t 46, .mov (.p 3), some (.t 45, true)⟩,
    ⟨.t 47, .bin .leq (.t 46) (.c (.int .i32 57343)), some (.t 45, true)⟩,
    ⟨.t 48, .pick (.t 45) (.t 47) (.c (.bool false)), some (.t 42, false)⟩,
    ⟨.p 49, .pick (.t 42) (.c (.bool true)) (.t 48), none⟩])
    (.cond (.p 49)
    (.reg [⟨.t 50, .mov (.p 0), none⟩,
    ⟨.t 51, .call F_word_Reader_At [.t 50], none⟩,
    ⟨.t 52, .call F_word_Fail [.c (.int .i64 3), .t 51], none⟩])
    (.skip)))
    (.seq (.reg [⟨.t 53, .mov (.p 0), none⟩,
    ⟨.t 54, .nilCheck (.t 53), none⟩,
    ⟨.t 55, .fieldAddr 1 (.t 54), none⟩,
    ⟨.t 56, .load1 (.t 55), none⟩,
    ⟨.t 57, .bin .add (.t 56) (.c (.int .i64 1)), none⟩,
    ⟨.t 58, .nilCheck (.t 53), none⟩,
    ⟨.t 59, .fieldAddr 1 (.t 58), none⟩,
    ⟨.no, .store 1 (.t 59) (.t 57), none⟩])
    (.seq (.reg [⟨.t 60, .mov (.p 3), none⟩,
    ⟨.p 2, .mov (.t 60), none⟩])
    (.ret))))))))
def cf_word_Reader_number : CFunc :=
{ nargs := 1, ps := [0, 2, 3, 4, 5, 9, 23, 49], results := [.slot 2], body := bd_word_Reader_number }

/- gobo/runes.is -/
def bd_runes_is : CCode :=
 .seq (.reg [⟨.p 2, .mov (.c (.bool false)), none⟩])
    (.seq (.reg [⟨.t 3, .mov (.p 0), none⟩,
    ⟨.t 4, .bin .geq (.t 3) (.c (.int .i32 0)), none⟩,
    ⟨.t 5, .mov (.t 4), none⟩,
    ⟨.t 6, .mov (.p 0), some (.t 5, true)⟩,
    ⟨.t 7, .bin .lss (.t 6) (.c (.int .i32 55296)), some (.t 5, true)⟩,
    ⟨.t 8, .pick (.t 5) (.t 7) (.c (.bool false)), none⟩,
    ⟨.t 9, .mov (.t 8), none⟩,
    ⟨.t 10, .mov (.p 0), some (.t 9, false)⟩,
    ⟨.t 11, .bin .gtr (.t 10) (.c (.int .i32 57343)), some (.t 9, false)⟩,
    ⟨.t 12, .mov (.t 11), some (.t 9, false)⟩,
    ⟨.t 13, .mov (.p 0), some (.t 12, true)⟩,
    ⟨.t 14, .bin .leq (.t 13) (.c (.int .i32 1114111)), some (.t 12, true)⟩,
    ⟨.t 15, .pick (.t 12) (.t 14) (.c (.bool false)), some (.t 9, false)⟩,
    ⟨.t 16, .pick (.t 9) (.c (.bool true)) (.t 15), none⟩,
    ⟨.p 2, .mov (.t 16), none⟩])
    (.ret))
def cf_runes_is : CFunc :=
{ nargs := 1, ps := [0, 2], results := [.slot 2], body := bd_runes_is }

/- slices.pdqsortCmpFunc[gobo/runes.span] -/
def lb_slices_pdqsortCmpFunc_runes_span_0 : CCode :=
 .block 1 [0, 1, 2, 3, 4, 10, 11]
    (.seq (.reg [⟨.t 21, .mov (.p 2), none⟩,
    ⟨.t 22, .mov (.p 1), none⟩,
    ⟨.t 23, .bin .sub (.t 21) (.t 22), none⟩,
    ⟨.p 12, .mov (.t 23), none⟩])
    (.seq (.seq (.reg [⟨.t 24, .mov (.p 12), none⟩,
    ⟨.p 25, .bin .leq (.t 24) (.c (.int .i64 12)), none⟩])
    (.cond (.p 25)
    (.seq (.reg [⟨.t 26, .mov (.p 0), none⟩,
    ⟨.t 27, .mov (.p 1), none⟩,
    ⟨.t 28, .mov (.p 2), none⟩,
    ⟨.t 29, .mov (.p 4), none⟩,
    ⟨.t 30, .call F_slices_insertionSortCmpFunc_runes_span [.t 26, .t 27, .t 28, .t 29], none⟩])
    (.ret))
    (.skip)))
    (.seq (.seq (.reg [⟨.t 31, .mov (.p 3), none⟩,
    ⟨.p 32, .bin .eql (.t 31) (.c (.int .i64 0)), none⟩])
    (.cond (.p 32)
    (.seq (.reg [⟨.t 33, .mov (.p 0), none⟩,
    ⟨.t 34, .mov (.p 1), none⟩,
    ⟨.t 35, .mov (.p 2), none⟩,
    ⟨.t 36, .mov (.p 4), none⟩,
    ⟨.t 37, .call F_slices_heapSortCmpFunc_runes_span [.t 33, .t 34, .t 35, .t 36], none⟩])
    (.ret))
    (.skip)))
    (.seq (.seq (.reg [⟨.t 38, .mov (.p 10), none⟩,
    ⟨.p 39, .un .not (.t 38), none⟩])
    (.cond (.p 39)
    (.seq (.reg [⟨.t 40, .mov (.p 0), none⟩,
    ⟨.t 41, .mov (.p 1), none⟩,
    ⟨.t 42, .mov (.p 2), none⟩,
    ⟨.t 43, .mov (.p 4), none⟩,
    ⟨.t 44, .call F_slices_breakPatternsCmpFunc_runes_span [.t 40, .t 41, .t 42, .t 43], none⟩])
    (.reg [⟨.t 45, .mov (.p 3), none⟩,
    ⟨.t 46, .bin .sub (.t 45) (.c (.int .i64 1)), none⟩,
    ⟨.p 3, .mov (.t 46), none⟩]))
    (.skip)))
    (.seq (.reg [⟨.t 48, .mov (.p 0), none⟩,
    ⟨.t 49, .mov (.p 1), none⟩,
    ⟨.t 50, .mov (.p 2), none⟩,
    ⟨.t 51, .mov (.p 4), none⟩,
    ⟨.t 52, .call F_slices_choosePivotCmpFunc_runes_span [.t 48, .t 49, .t 50, .t 51], none⟩,
    ⟨.t 47, .mov (.t 52), none⟩,
    ⟨.t 53, .extract (.t 47) 0, none⟩,
    ⟨.t 54, .extract (.t 47) 1, none⟩,
    ⟨.p 13, .mov (.t 53), none⟩,
    ⟨.p 14, .mov (.t 54), none⟩])
    (.seq (.seq (.reg [⟨.t 55, .mov (.p 14), none⟩,
    ⟨.p 56, .bin .eql (.t 55) (.c (.int .i64 2)), none⟩])
    (.cond (.p 56)
    (.seq (.reg [⟨.t 57, .mov (.p 0), none⟩,
    ⟨.t 58, .mov (.p 1), none⟩,
    ⟨.t 59, .mov (.p 2), none⟩,
    ⟨.t 60, .mov (.p 4), none⟩,
    ⟨.t 61, .call F_slices_reverseRangeCmpFunc_runes_span [.t 57, .t 58, .t 59, .t 60], none⟩])
    (.seq (.reg [⟨.t 62, .mov (.p 2), none⟩,
    ⟨.t 63, .bin .sub (.t 62) (.c (.int .i64 1)), none⟩,
    ⟨.t 64, .mov (.p 13), none⟩,
    ⟨.t 65, .mov (.p 1), none⟩,
    ⟨.t 66, .bin .sub (.t 64) (.t 65), none⟩,
    ⟨.t 67, .bin .sub (.t 63) (.t 66), none⟩,
    ⟨.p 13, .mov (.t 67), none⟩])
    (.reg [⟨.p 14, .mov (.c (.int .i64 1)), none⟩])))
    (.skip)))
    (.seq (.seq (.reg [⟨.t 68, .mov (.p 10), none⟩,
    ⟨.t 69, .mov (.t 68), none⟩,
    ⟨.t 70, .mov (.p 11), some (.t 69, true)⟩,
    ⟨.t 71, .pick (.t 69) (.t 70) (.c (.bool false)), none⟩,
    ⟨.t 72, .mov (.t 71), none⟩,
    ⟨.t 73, .mov (.p 14), some (.t 72, true)⟩,
    ⟨.t 74, .bin .eql (.t 73) (.c (.int .i64 1)), some (.t 72, true)⟩,
    ⟨.p 75, .pick (.t 72) (.t 74) (.c (.bool false)), none⟩])
    (.cond (.p 75)
    (.seq (.reg [⟨.t 76, .mov (.p 0), none⟩,
    ⟨.t 77, .mov (.p 1), none⟩,
    ⟨.t 78, .mov (.p 2), none⟩,
    ⟨.t 79, .mov (.p 4), none⟩,
    ⟨.p 80, .call F_slices_partialInsertionSortCmpFunc_runes_span [.t 76, .t 77, .t 78, .t 79], none⟩])
    (.cond (.p 80)
    (.ret)
    (.skip)))
    (.skip)))
    (.seq (.seq (.dreg [⟨⟨.t 81, .mov (.p 1), none⟩, false, false, []⟩,
    ⟨⟨.t 82, .bin .gtr (.t 81) (.c (.int .i64 0)), none⟩, false, false, []⟩,
    ⟨⟨.t 83, .mov (.t 82), none⟩, false, false, []⟩,
    ⟨⟨.t 84, .mov (.p 4), some (.t 83, true)⟩, false, false, []⟩,
    ⟨⟨.t 85, .mov (.p 0), some (.t 83, true)⟩, false, false, []⟩,
    ⟨⟨.t 86, .mov (.p 1), some (.t 83, true)⟩, false, false, []⟩,
    ⟨⟨.t 87, .bin .sub (.t 86) (.c (.int .i64 1)), some (.t 83, true)⟩, false, false, []⟩,
    ⟨⟨.t 88, .idxAddr 2 (.t 85) (.t 87), some (.t 83, true)⟩, false, false, []⟩,
    ⟨⟨.t 89, .loadN 2 (.t 88), some (.t 83, true)⟩, false, false, []⟩,
    ⟨⟨.t 90, .mov (.p 0), some (.t 83, true)⟩, false, false, []⟩,
    ⟨⟨.t 91, .mov (.p 13), some (.t 83, true)⟩, false, false, []⟩,
    ⟨⟨.t 92, .idxAddr 2 (.t 90) (.t 91), some (.t 83, true)⟩, false, false, []⟩,
    ⟨⟨.t 93, .loadN 2 (.t 92), some (.t 83, true)⟩, false, false, []⟩,
    ⟨⟨.t 94, .callV (.t 84) [.t 89, .t 93], some (.t 83, true)⟩, false, false, []⟩,
    ⟨⟨.t 95, .bin .lss (.t 94) (.c (.int .i64 0)), some (.t 83, true)⟩, false, false, []⟩,
    ⟨⟨.t 96, .un .not (.t 95), some (.t 83, true)⟩, false, false, []⟩,
    ⟨⟨.p 97, .pick (.t 83) (.t 96) (.c (.bool false)), none⟩, false, false, []⟩])
    (.cond (.p 97)
    (.seq (.reg [⟨.t 98, .mov (.p 0), none⟩,
    ⟨.t 99, .mov (.p 1), none⟩,
    ⟨.t 100, .mov (.p 2), none⟩,
    ⟨.t 101, .mov (.p 13), none⟩,
    ⟨.t 102, .mov (.p 4), none⟩,
    ⟨.t 103, .call F_slices_partitionEqualCmpFunc_runes_span [.t 98, .t 99, .t 100, .t 101, .t 102], none⟩,
    ⟨.p 15, .mov (.t 103), none⟩])
    (.seq (.reg [⟨.t 104, .mov (.p 15), none⟩,
    ⟨.p 1, .mov (.t 104), none⟩])
    (.exit 1)))
    (.skip)))
    (.seq (.reg [⟨.t 106, .mov (.p 0), none⟩,
    ⟨.t 107, .mov (.p 1), none⟩,
    ⟨.t 108, .mov (.p 2), none⟩,
    ⟨.t 109, .mov (.p 13), none⟩,
    ⟨.t 110, .mov (.p 4), none⟩,
    ⟨.t 111, .call F_slices_partitionCmpFunc_runes_span [.t 106, .t 107, .t 108, .t 109, .t 110], none⟩,
    ⟨.t 105, .mov (.t 111), none⟩,
    ⟨.t 112, .extract (.t 105) 0, none⟩,
    ⟨.t 113, .extract (.t 105) 1, none⟩,
    ⟨.p 16, .mov (.t 112), none⟩,
    ⟨.p 17, .mov (.t 113), none⟩])
    (.seq (.reg [⟨.t 114, .mov (.p 17), none⟩,
    ⟨.p 11, .mov (.t 114), none⟩])
    (.seq (.reg [⟨.t 115, .mov (.p 16), none⟩,
    ⟨.t 116, .mov (.p 1), none⟩,
    ⟨.t 117, .bin .sub (.t 115) (.t 116), none⟩,
    ⟨.t 118, .mov (.p 2), none⟩,
    ⟨.t 119, .mov (.p 16), none⟩,
    ⟨.t 120, .bin .sub (.t 118) (.t 119), none⟩,
    ⟨.p 18, .mov (.t 117), none⟩,
    ⟨.p 19, .mov (.t 120), none⟩])
    (.seq (.reg [⟨.t 121, .mov (.p 12), none⟩,
    ⟨.t 122, .bin .quo (.t 121) (.c (.int .i64 8)), none⟩,
    ⟨.p 20, .mov (.t 122), none⟩])
    (.seq (.reg [⟨.t 123, .mov (.p 18), none⟩,
    ⟨.t 124, .mov (.p 19), none⟩,
    ⟨.p 125, .bin .lss (.t 123) (.t 124), none⟩])
    (.cond (.p 125)
    (.seq (.reg [⟨.t 126, .mov (.p 18), none⟩,
    ⟨.t 127, .mov (.p 20), none⟩,
    ⟨.t 128, .bin .geq (.t 126) (.t 127), none⟩,
    ⟨.p 10, .mov (.t 128), none⟩])
    (.seq (.reg [⟨.t 129, .mov (.p 0), none⟩,
    ⟨.t 130, .mov (.p 1), none⟩,
    ⟨.t 131, .mov (.p 16), none⟩,
    ⟨.t 132, .mov (.p 3), none⟩,
    ⟨.t 133, .mov (.p 4), none⟩,
    ⟨.t 134, .call F_slices_pdqsortCmpFunc_runes_span [.t 129, .t 130, .t 131, .t 132, .t 133], none⟩])
    (.reg [⟨.t 135, .mov (.p 16), none⟩,
    ⟨.t 136, .bin .add (.t 135) (.c (.int .i64 1)), none⟩,
    ⟨.p 1, .mov (.t 136), none⟩])))
    (.seq (.reg [⟨.t 137, .mov (.p 19), none⟩,
    ⟨.t 138, .mov (.p 20), none⟩,
    ⟨.t 139, .bin .geq (.t 137) (.t 138), none⟩,
    ⟨.p 10, .mov (.t 139), none⟩])
    (.seq (.reg [⟨.t 140, .mov (.p 0), none⟩,
    ⟨.t 141, .mov (.p 16), none⟩,
    ⟨.t 142, .bin .add (.t 141) (.c (.int .i64 1)), none⟩,
    ⟨.t 143, .mov (.p 2), none⟩,
    ⟨.t 144, .mov (.p 3), none⟩,
    ⟨.t 145, .mov (.p 4), none⟩,
    ⟨.t 146, .call F_slices_pdqsortCmpFunc_runes_span [.t 140, .t 142, .t 143, .t 144, .t 145], none⟩])
    (.reg [⟨.t 147, .mov (.p 16), none⟩,
    ⟨.p 2, .mov (.t 147), none⟩])))))))))))))))))
def bd_slices_pdqsortCmpFunc_runes_span : CCode :=
 .seq (.reg [⟨.p 10, .mov (.c (.bool true)), none⟩])
    (.seq (.reg [⟨.p 11, .mov (.c (.bool true)), none⟩])
    (.block 0 []
    (.loop [0, 1, 2, 3, 4, 10, 11] lb_slices_pdqsortCmpFunc_runes_span_0)))
def cf_slices_pdqsortCmpFunc_runes_span : CFunc :=
{ nargs := 5, ps := [0, 1, 2, 3, 4, 10, 11, 12, 13, 14, 15, 16, 17, 18, 19, 20, 25, 32, 39, 56, 75, 80, 97, 125], results := [], body := bd_slices_pdqsortCmpFunc_runes_span }

/- math/bits.Len -/
def bd_bits_Len : CCode :=
 .seq (.reg [⟨.p 2, .mov (.c (.int .i64 0)), none⟩])
    (.seq (.cond (.c (.bool false))
    (.seq (.reg [⟨.t 3, .mov (.p 0), none⟩,
    ⟨.t 4, .convI .u32 (.t 3), none⟩,
    ⟨.t 5, .call F_bits_Len32 [.t 4], none⟩,
    ⟨.p 2, .mov (.t 5), none⟩])
    (.ret))
    (.skip))
    (.seq (.reg [⟨.t 6, .mov (.p 0), none⟩,
    ⟨.t 7, .call F_bits_Len64 [.t 6], none⟩,
    ⟨.p 2, .mov (.t 7), none⟩])
    (.ret)))
def cf_bits_Len : CFunc :=
{ nargs := 1, ps := [0, 2], results := [.slot 2], body := bd_bits_Len }

/- cmp.isNaN[int] -/
def bd_cmp_isNaN_int : CCode :=
 .seq (.reg [⟨.p 2, .mov (.c (.bool false)), none⟩])
    (.seq (.reg [⟨.t 3, .mov (.p 0), none⟩,
    ⟨.t 4, .mov (.p 0), none⟩,
    ⟨.t 5, .bin .neq (.t 3) (.t 4), none⟩,
    ⟨.p 2, .mov (.t 5), none⟩])
    (.ret))
def cf_cmp_isNaN_int : CFunc :=
{ nargs := 1, ps := [0, 2], results := [.slot 2], body := bd_cmp_isNaN_int }

/- (*gobo/decode.Dec).more -/
def bd_decode_Dec_more : CCode :=
 .seq (.reg [⟨.p 4, .alloc [.bool false], none⟩])
    (.seq (.reg [⟨.t 5, .mkFn F_decode_Dec_more_1 [.p 4], none⟩,
    ⟨.no, .dfr (.t 5) [], none⟩])
    (.seq (.reg [⟨.t 6, .mov (.p 0), none⟩,
    ⟨.t 7, .mov (.p 0), none⟩,
    ⟨.t 8, .nilCheck (.t 7), none⟩,
    ⟨.t 9, .fieldAddr 0 (.t 8), none⟩,
    ⟨.t 10, .load1 (.t 9), none⟩,
    ⟨.t 11, .mov (.p 1), none⟩,
    ⟨.t 12, .call F_decode_grow [.t 10, .t 11], none⟩,
    ⟨.t 13, .nilCheck (.t 6), none⟩,
    ⟨.t 14, .fieldAddr 0 (.t 13), none⟩,
    ⟨.no, .store 1 (.t 14) (.t 12), none⟩])
    (.seq (.seq (.dreg [⟨⟨.t 15, .mov (.p 0), none⟩, false, false, []⟩,
    ⟨⟨.t 16, .nilCheck (.t 15), none⟩, false, false, []⟩,
    ⟨⟨.t 17, .fieldAddr 0 (.t 16), none⟩, false, false, []⟩,
    ⟨⟨.t 18, .load1 (.t 17), none⟩, true, false, []⟩,
    ⟨⟨.t 19, .lenSl (.t 18), none⟩, false, false, []⟩,
    ⟨⟨.t 20, .mov (.p 0), none⟩, false, false, []⟩,
    ⟨⟨.t 21, .nilCheck (.t 20), none⟩, false, false, []⟩,
    ⟨⟨.t 22, .fieldAddr 0 (.t 21), none⟩, false, false, []⟩,
    ⟨⟨.t 23, .load1 (.t 22), none⟩, false, false, []⟩,
    ⟨⟨.t 24, .idxAddr 1 (.t 23) (.c (.int .i64 0)), none⟩, false, false, []⟩,
    ⟨⟨.t 25, .load1 (.t 24), none⟩, false, false, []⟩,
    ⟨⟨.t 26, .call F_decode_long [.t 25], none⟩, false, false, [3]⟩,
    ⟨⟨.p 27, .bin .eql (.t 19) (.t 26), none⟩, false, false, []⟩])
    (.cond (.p 27)
    (.reg [⟨.t 28, .mov (.p 0), none⟩,
    ⟨.t 29, .call F_decode_Dec_tell [.t 28, .c (.bool false), .c (.bool false)], none⟩])
    (.skip)))
    (.seq (.reg [⟨.no, .store 1 (.p 4) (.c (.bool true)), none⟩])
    (.ret)))))
def cf_decode_Dec_more : CFunc :=
{ nargs := 2, ps := [0, 1, 4, 27], results := [.cell1 4], body := bd_decode_Dec_more }

/- unicode/utf8.DecodeRune -/
def lb_utf8_DecodeRune_0 : CCode :=
 .seq (.reg [⟨.p 9, .bin .lss (.p 8) (.p 7), none⟩])
    (.seq (.cond (.p 9)
    (.skip)
    (.exit 0))
    (.seq (.block 1 [0, 6, 7, 8]
    (.seq (.reg [⟨.t 10, .idxAddr 1 (.p 6) (.p 8), none⟩,
    ⟨.t 11, .load1 (.t 10), none⟩,
    ⟨.p 5, .mov (.t 11), none⟩])
    (.seq (.seq (.reg [⟨.t 12, .mov (.p 5), none⟩,
    ⟨.p 13, .bin .lss (.t 12) (.c (.int .u8 128)), none⟩])
    (.cond (.p 13)
    (.seq (.reg [⟨.t 14, .mov (.p 5), none⟩,
    ⟨.t 15, .convI .i32 (.t 14), none⟩,
    ⟨.p 2, .mov (.t 15), none⟩,
    ⟨.p 3, .mov (.c (.int .i64 1)), none⟩])
    (.ret))
    (.skip)))
    (.exit 0))))
    (.reg [⟨.t 16, .bin .add (.p 8) (.c (.int .i64 1)), none⟩,
    ⟨.p 8, .mov (.t 16), none⟩])))
def bd_utf8_DecodeRune : CCode :=
 .seq (.reg [⟨.p 2, .mov (.c (.int .i32 0)), none⟩,
    ⟨.p 3, .mov (.c (.int .i64 0)), none⟩])
    (.seq (.seq (.reg [⟨.p 6, .mov (.p 0), none⟩,
    ⟨.p 7, .lenSl (.p 6), none⟩,
    ⟨.p 8, .mov (.c (.int .i64 0)), none⟩])
    (.block 0 [0]
    (.loop [0, 6, 7, 8] lb_utf8_DecodeRune_0)))
    (.seq (.reg [⟨.t 18, .mov (.p 0), none⟩,
    ⟨.t 19, .call F_utf8_decodeRuneSlow [.t 18], none⟩,
    ⟨.t 17, .mov (.t 19), none⟩,
    ⟨.t 20, .extract (.t 17) 0, none⟩,
    ⟨.t 21, .extract (.t 17) 1, none⟩,
    ⟨.p 2, .mov (.t 20), none⟩,
    ⟨.p 3, .mov (.t 21), none⟩])
    (.ret)))
def cf_utf8_DecodeRune : CFunc :=
{ nargs := 1, ps := [0, 2, 3, 5, 6, 7, 8, 9, 13], results := [.slot 2, .slot 3], body := bd_utf8_DecodeRune }

end Go.Ev
