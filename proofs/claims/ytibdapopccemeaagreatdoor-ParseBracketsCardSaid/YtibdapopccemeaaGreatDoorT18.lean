/- Several texts of this claim, joined. -/
import Derived.Test.YtibdapopccemeaaGreatDoorT15
import Derived.Test.YtibdapopccemeaaGreatDoorT11
import Derived.Test.YtibdapopccemeaaGreatDoorT16
import Derived.Test.YtibdapopccemeaaGreatDoorT17
set_option linter.unusedSimpArgs false
set_option linter.unusedVariables false

/- Functions of the program, printed by gen.py. -/
namespace Go.Ev
open Go
def bd_bits_Len : CCode :=
 .seq (.reg [⟨.p 2,.mov (.c (.int .i64 0)),none⟩]) (.seq (.cond (.c (.bool false)) (.seq (.reg [⟨.t 3,.mov (.p 0),none⟩,⟨.t 4,.convI .u32 (.t 3),none⟩,⟨.t 5,.call F_bits_Len32 [.t 4],none⟩,
 ⟨.p 2,.mov (.t 5),none⟩]) (.ret)) (.skip)) (.seq (.reg [⟨.t 6,.mov (.p 0),none⟩,⟨.t 7,.call F_bits_Len64 [.t 6],none⟩,⟨.p 2,.mov (.t 7),none⟩]) (.ret)))
def cf_bits_Len : CFunc :=
{ nargs := 1,ps := [0,2],results := [.slot 2],body := bd_bits_Len }
def bd_cmp_isNaN_int : CCode :=
 .seq (.reg [⟨.p 2,.mov (.c (.bool false)),none⟩]) (.seq (.reg [⟨.t 3,.mov (.p 0),none⟩,⟨.t 4,.mov (.p 0),none⟩,⟨.t 5,.bin .neq (.t 3) (.t 4),none⟩,⟨.p 2,.mov (.t 5),none⟩]) (.ret))
def cf_cmp_isNaN_int : CFunc :=
{ nargs := 1,ps := [0,2],results := [.slot 2],body := bd_cmp_isNaN_int }
def bd_parse_source_atom : CCode :=
 .seq (.reg [⟨.p 2,.alloc [.int .i64 0,.nils,.nils,.nils],none⟩]) (.seq (.block 0 [0,2] (.seq (.reg [⟨.t 6,.mov (.p 0),none⟩,⟨.t 7,.call F_parse_source_is [.t 6,.c (.str [123])],none⟩,
 ⟨.p 5,.mov (.t 7),none⟩]) (.cond (.p 5) (.seq (.reg [⟨.t 8,.mov (.p 0),none⟩,⟨.t 9,.call F_parse_source_list [.t 8],none⟩,⟨.t 10,.build [.int .i64 0,.nils,.nils,.nils] [(0,1,.c (.int .i64 2)),(1,1,.t 9)],none⟩,
 ⟨.no,.store 4 (.p 2) (.t 10),none⟩]) (.ret)) (.seq (.reg [⟨.t 12,.mov (.p 0),none⟩,⟨.t 13,.call F_parse_source_skip [.t 12,.c (.str [95])],none⟩,⟨.p 11,.mov (.t 13),none⟩]) (.cond (.p 11) (.seq (.reg [⟨.t 14,.build [.int .i64 0,.nils,.nils,.nils] [(0,1,.c (.int .i64 4))],none⟩,
 ⟨.no,.store 4 (.p 2) (.t 14),none⟩]) (.ret)) (.seq (.reg [⟨.t 16,.mov (.p 0),none⟩,⟨.t 17,.call F_parse_source_bracket [.t 16,.c (.str [40])],none⟩,⟨.p 15,.mov (.t 17),none⟩]) (.cond (.p 15) (.seq (.reg [⟨.t 18,.build [.int .i64 0,.nils,.nils,.nils] [(0,1,.c (.int .i64 1))],none⟩,
 ⟨.p 3,.alloc [.int .i64 0,.nils,.nils,.nils],none⟩,⟨.no,.store 4 (.p 3) (.t 18),none⟩]) (.seq (.seq (.reg [⟨.t 19,.mov (.p 0),none⟩,⟨.t 20,.call F_parse_source_is [.t 19,.c (.str [41])],none⟩,
 ⟨.p 21,.un .not (.t 20),none⟩]) (.cond (.p 21) (.reg [⟨.t 22,.mov (.p 0),none⟩,⟨.t 23,.call F_parse_source_pattern [.t 22],none⟩,⟨.no,.store 4 (.p 3) (.t 23),none⟩]) (.skip))) (.seq (.reg [⟨.t 24,.mov (.p 0),none⟩,
 ⟨.t 25,.call F_parse_source_must [.t 24,.c (.str [41])],none⟩]) (.seq (.reg [⟨.t 26,.mov (.p 0),none⟩,⟨.t 27,.nilCheck (.t 26),none⟩,⟨.t 28,.fieldAddr 3 (.t 27),none⟩,⟨.t 29,.load1 (.t 28),none⟩,
 ⟨.t 30,.bin .sub (.t 29) (.c (.int .i64 1)),none⟩,⟨.t 31,.nilCheck (.t 26),none⟩,⟨.t 32,.fieldAddr 3 (.t 31),none⟩,⟨.no,.store 1 (.t 32) (.t 30),none⟩]) (.seq (.reg [⟨.t 33,.loadN 4 (.p 3),none⟩,
 ⟨.no,.store 4 (.p 2) (.t 33),none⟩]) (.ret)))))) (.seq (.reg [⟨.t 35,.mov (.p 0),none⟩,⟨.t 36,.call F_parse_source_bracket [.t 35,.c (.str [60])],none⟩,⟨.p 34,.mov (.t 36),none⟩]) (.cond (.p 34) (.seq (.reg [⟨.t 37,.mov (.p 0),none⟩,
 ⟨.t 38,.call F_parse_source_names [.t 37],none⟩,⟨.t 39,.build [.int .i64 0,.nils,.nils,.nils] [(0,1,.c (.int .i64 3)),(1,1,.t 38)],none⟩,⟨.p 4,.alloc [.int .i64 0,.nils,.nils,.nils],none⟩,
 ⟨.no,.store 4 (.p 4) (.t 39),none⟩]) (.seq (.reg [⟨.t 40,.mov (.p 0),none⟩,⟨.t 41,.call F_parse_source_must [.t 40,.c (.str [58])],none⟩]) (.seq (.reg [⟨.t 42,.mov (.p 0),none⟩,⟨.t 43,.call F_parse_source_pattern [.t 42],none⟩,
 ⟨.t 44,.lit [.int .i64 0,.nils,.nils,.nils] 1 [(0,4,.t 43)],none⟩,⟨.t 45,.fieldAddr 3 (.p 4),none⟩,⟨.no,.store 1 (.t 45) (.t 44),none⟩]) (.seq (.reg [⟨.t 46,.mov (.p 0),none⟩,⟨.t 47,.call F_parse_source_must [.t 46,.c (.str [58])],none⟩]) (.seq (.reg [⟨.t 48,.mov (.p 0),none⟩,
 ⟨.t 49,.call F_parse_source_names [.t 48],none⟩,⟨.t 50,.fieldAddr 2 (.p 4),none⟩,⟨.no,.store 1 (.t 50) (.t 49),none⟩]) (.seq (.reg [⟨.t 51,.mov (.p 0),none⟩,⟨.t 52,.call F_parse_source_must [.t 51,.c (.str [62])],none⟩]) (.seq (.reg [⟨.t 53,.mov (.p 0),none⟩,
 ⟨.t 54,.nilCheck (.t 53),none⟩,⟨.t 55,.fieldAddr 3 (.t 54),none⟩,⟨.t 56,.load1 (.t 55),none⟩,⟨.t 57,.bin .sub (.t 56) (.c (.int .i64 1)),none⟩,⟨.t 58,.nilCheck (.t 53),none⟩,⟨.t 59,.fieldAddr 3 (.t 58),none⟩,
 ⟨.no,.store 1 (.t 59) (.t 57),none⟩]) (.seq (.reg [⟨.t 60,.loadN 4 (.p 4),none⟩,⟨.no,.store 4 (.p 2) (.t 60),none⟩]) (.ret))))))))) (.skip)))))))))) (.seq (.reg [⟨.t 61,.mov (.p 0),none⟩,
 ⟨.t 62,.call F_parse_source_peek [.t 61],none⟩,⟨.t 63,.field1 2 (.t 62),none⟩,⟨.t 64,.call F_word_Fail [.c (.int .i64 3),.t 63],none⟩]) (.seq (.reg [⟨.t 65,.build [.int .i64 0,.nils,.nils,.nils] [],none⟩,
 ⟨.no,.store 4 (.p 2) (.t 65),none⟩]) (.ret))))
def cf_parse_source_atom : CFunc :=
{ nargs := 1,ps := [0,2,3,4,5,11,15,21,34],results := [.cellN 2 4],body := bd_parse_source_atom }
def lb_slices_IndexFunc_api_Re_api_Re_0 : CCode :=
 .seq (.reg [⟨.p 9,.bin .lss (.p 8) (.p 7),none⟩]) (.seq (.cond (.p 9) (.skip) (.exit 0)) (.seq (.block 1 [0,1,7,8] (.seq (.reg [⟨.t 10,.mov (.p 8),none⟩,⟨.p 5,.mov (.t 10),none⟩]) (.seq (.reg [⟨.t 11,.mov (.p 1),none⟩,
 ⟨.t 12,.mov (.p 0),none⟩,⟨.t 13,.mov (.p 5),none⟩,⟨.t 14,.idxAddr 3 (.t 12) (.t 13),none⟩,⟨.t 15,.loadN 3 (.t 14),none⟩,⟨.p 16,.callV (.t 11) [.t 15],none⟩]) (.cond (.p 16) (.seq (.reg [⟨.t 17,.mov (.p 5),none⟩,
 ⟨.p 4,.mov (.t 17),none⟩]) (.ret)) (.skip))))) (.reg [⟨.t 18,.bin .add (.p 8) (.c (.int .i64 1)),none⟩,⟨.p 8,.mov (.t 18),none⟩])))
def bd_slices_IndexFunc_api_Re_api_Re : CCode :=
 .seq (.reg [⟨.p 4,.mov (.c (.int .i64 0)),none⟩]) (.seq (.seq (.reg [⟨.t 6,.mov (.p 0),none⟩,⟨.p 7,.lenSl (.t 6),none⟩,⟨.p 8,.mov (.c (.int .i64 0)),none⟩]) (.block 0 [] (.loop [0,1,7,8] lb_slices_IndexFunc_api_Re_api_Re_0))) (.seq (.reg [⟨.p 4,.mov (.c (.int .i64 (-1))),none⟩]) (.ret)))
def cf_slices_IndexFunc_api_Re_api_Re : CFunc :=
{ nargs := 2,ps := [0,1,4,5,7,8,9,16],results := [.slot 4],body := bd_slices_IndexFunc_api_Re_api_Re }
def lb_slices_Equal_api_Range_api_Range_0 : CCode :=
 .seq (.reg [⟨.p 14,.bin .lss (.p 13) (.p 12),none⟩]) (.seq (.cond (.p 14) (.skip) (.exit 0)) (.seq (.block 1 [0,1,12,13] (.seq (.reg [⟨.t 15,.mov (.p 13),none⟩,⟨.p 5,.mov (.t 15),none⟩]) (.seq (.dreg [⟨⟨.t 16,.mov (.p 0),none⟩,false,false,[]⟩,
 ⟨⟨.t 17,.mov (.p 5),none⟩,false,false,[]⟩,⟨⟨.t 18,.idxAddr 2 (.t 16) (.t 17),none⟩,false,false,[]⟩,⟨⟨.t 19,.loadN 2 (.t 18),none⟩,false,false,[]⟩,⟨⟨.t 20,.mov (.p 1),none⟩,false,false,[]⟩,
 ⟨⟨.t 21,.mov (.p 5),none⟩,false,false,[]⟩,⟨⟨.t 22,.idxAddr 2 (.t 20) (.t 21),none⟩,false,false,[]⟩,⟨⟨.t 23,.loadN 2 (.t 22),none⟩,false,false,[]⟩,⟨⟨.p 24,.eqv true (.agg [(0,.i),(1,.i)]) (.t 19) (.t 23),none⟩,false,false,[]⟩]) (.cond (.p 24) (.seq (.reg [⟨.p 4,.mov (.c (.bool false)),none⟩]) (.ret)) (.skip))))) (.reg [⟨.t 25,.bin .add (.p 13) (.c (.int .i64 1)),none⟩,
 ⟨.p 13,.mov (.t 25),none⟩])))
def bd_slices_Equal_api_Range_api_Range : CCode :=
 .seq (.reg [⟨.p 4,.mov (.c (.bool false)),none⟩]) (.seq (.seq (.reg [⟨.t 6,.mov (.p 0),none⟩,⟨.t 7,.lenSl (.t 6),none⟩,⟨.t 8,.mov (.p 1),none⟩,⟨.t 9,.lenSl (.t 8),none⟩,⟨.p 10,.bin .neq (.t 7) (.t 9),none⟩]) (.cond (.p 10) (.seq (.reg [⟨.p 4,.mov (.c (.bool false)),none⟩]) (.ret)) (.skip))) (.seq (.seq (.reg [⟨.t 11,.mov (.p 0),none⟩,
 ⟨.p 12,.lenSl (.t 11),none⟩,⟨.p 13,.mov (.c (.int .i64 0)),none⟩]) (.block 0 [] (.loop [0,1,12,13] lb_slices_Equal_api_Range_api_Range_0))) (.seq (.reg [⟨.p 4,.mov (.c (.bool true)),none⟩]) (.ret))))
def cf_slices_Equal_api_Range_api_Range : CFunc :=
{ nargs := 2,ps := [0,1,4,5,10,12,13,14,24],results := [.slot 4],body := bd_slices_Equal_api_Range_api_Range }
def lb_slices_IndexFunc_api_Pat_api_Pat_0 : CCode :=
 .seq (.reg [⟨.p 9,.bin .lss (.p 8) (.p 7),none⟩]) (.seq (.cond (.p 9) (.skip) (.exit 0)) (.seq (.block 1 [0,1,7,8] (.seq (.reg [⟨.t 10,.mov (.p 8),none⟩,⟨.p 5,.mov (.t 10),none⟩]) (.seq (.reg [⟨.t 11,.mov (.p 1),none⟩,
 ⟨.t 12,.mov (.p 0),none⟩,⟨.t 13,.mov (.p 5),none⟩,⟨.t 14,.idxAddr 4 (.t 12) (.t 13),none⟩,⟨.t 15,.loadN 4 (.t 14),none⟩,⟨.p 16,.callV (.t 11) [.t 15],none⟩]) (.cond (.p 16) (.seq (.reg [⟨.t 17,.mov (.p 5),none⟩,
 ⟨.p 4,.mov (.t 17),none⟩]) (.ret)) (.skip))))) (.reg [⟨.t 18,.bin .add (.p 8) (.c (.int .i64 1)),none⟩,⟨.p 8,.mov (.t 18),none⟩])))
def bd_slices_IndexFunc_api_Pat_api_Pat : CCode :=
 .seq (.reg [⟨.p 4,.mov (.c (.int .i64 0)),none⟩]) (.seq (.seq (.reg [⟨.t 6,.mov (.p 0),none⟩,⟨.p 7,.lenSl (.t 6),none⟩,⟨.p 8,.mov (.c (.int .i64 0)),none⟩]) (.block 0 [] (.loop [0,1,7,8] lb_slices_IndexFunc_api_Pat_api_Pat_0))) (.seq (.reg [⟨.p 4,.mov (.c (.int .i64 (-1))),none⟩]) (.ret)))
def cf_slices_IndexFunc_api_Pat_api_Pat : CFunc :=
{ nargs := 2,ps := [0,1,4,5,7,8,9,16],results := [.slot 4],body := bd_slices_IndexFunc_api_Pat_api_Pat }
def bd_gram_parts : CCode :=
 .seq (.reg [⟨.p 2,.mov (.c (.int .i64 0)),none⟩]) (.seq (.seq (.reg [⟨.p 3,.mov (.p 0),none⟩]) (.block 0 [] (.seq (.seq (.reg [⟨.t 5,.bin .eql (.p 3) (.c (.int .i64 1)),none⟩,⟨.p 4,.mov (.t 5),none⟩]) (.cond (.p 4) (.skip) (.seq (.reg [⟨.t 6,.bin .eql (.p 3) (.c (.int .i64 2)),none⟩,
 ⟨.p 4,.mov (.t 6),none⟩]) (.cond (.p 4) (.skip) (.reg [⟨.t 7,.bin .eql (.p 3) (.c (.int .i64 4)),none⟩,⟨.p 4,.mov (.t 7),none⟩]))))) (.cond (.p 4) (.seq (.reg [⟨.p 2,.mov (.c (.int .i64 0)),none⟩]) (.ret)) (.seq (.seq (.reg [⟨.t 9,.bin .eql (.p 3) (.c (.int .i64 3)),none⟩,
 ⟨.p 8,.mov (.t 9),none⟩]) (.cond (.p 8) (.skip) (.reg [⟨.t 10,.bin .eql (.p 3) (.c (.int .i64 7)),none⟩,⟨.p 8,.mov (.t 10),none⟩]))) (.cond (.p 8) (.seq (.reg [⟨.p 2,.mov (.c (.int .i64 1)),none⟩]) (.ret)) (.seq (.seq (.reg [⟨.t 12,.bin .eql (.p 3) (.c (.int .i64 5)),none⟩,
 ⟨.p 11,.mov (.t 12),none⟩]) (.cond (.p 11) (.skip) (.reg [⟨.t 13,.bin .eql (.p 3) (.c (.int .i64 6)),none⟩,⟨.p 11,.mov (.t 13),none⟩]))) (.cond (.p 11) (.seq (.reg [⟨.p 2,.mov (.c (.int .i64 2)),none⟩]) (.ret)) (.skip))))))))) (.seq (.reg [⟨.p 2,.mov (.c (.int .i64 (-1))),none⟩]) (.ret)))
def cf_gram_parts : CFunc :=
{ nargs := 1,ps := [0,2,3,4,8,11],results := [.slot 2],body := bd_gram_parts }
def lb_slices_insertionSortCmpFunc_runes_span_0 : CCode :=
 .seq (.seq (.dreg [⟨⟨.t 18,.mov (.p 9),none⟩,false,false,[]⟩,⟨⟨.t 19,.mov (.p 1),none⟩,false,false,[]⟩,⟨⟨.t 20,.bin .gtr (.t 18) (.t 19),none⟩,false,false,[]⟩,⟨⟨.t 21,.mov (.t 20),none⟩,false,false,[]⟩,
 ⟨⟨.t 22,.mov (.p 3),some (.t 21,true)⟩,false,false,[]⟩,⟨⟨.t 23,.mov (.p 0),some (.t 21,true)⟩,false,false,[]⟩,⟨⟨.t 24,.mov (.p 9),some (.t 21,true)⟩,false,false,[]⟩,⟨⟨.t 25,.idxAddr 2 (.t 23) (.t 24),some (.t 21,true)⟩,false,false,[]⟩,
 ⟨⟨.t 26,.loadN 2 (.t 25),some (.t 21,true)⟩,false,false,[]⟩,⟨⟨.t 27,.mov (.p 0),some (.t 21,true)⟩,false,false,[]⟩,⟨⟨.t 28,.mov (.p 9),some (.t 21,true)⟩,false,false,[]⟩,⟨⟨.t 29,.bin .sub (.t 28) (.c (.int .i64 1)),some (.t 21,true)⟩,false,false,[]⟩,
 ⟨⟨.t 30,.idxAddr 2 (.t 27) (.t 29),some (.t 21,true)⟩,false,false,[]⟩,⟨⟨.t 31,.loadN 2 (.t 30),some (.t 21,true)⟩,false,false,[]⟩,⟨⟨.t 32,.callV (.t 22) [.t 26,.t 31],some (.t 21,true)⟩,false,false,[]⟩,
 ⟨⟨.t 33,.bin .lss (.t 32) (.c (.int .i64 0)),some (.t 21,true)⟩,false,false,[]⟩,⟨⟨.p 34,.pick (.t 21) (.t 33) (.c (.bool false)),none⟩,false,false,[]⟩]) (.cond (.p 34) (.skip) (.exit 2))) (.seq (.block 3 [0,1,2,3,8,9] (.dreg [⟨⟨.t 37,.mov (.p 0),none⟩,false,false,[]⟩,
 ⟨⟨.t 38,.mov (.p 9),none⟩,false,false,[]⟩,⟨⟨.t 39,.mov (.p 0),none⟩,false,false,[]⟩,⟨⟨.t 40,.mov (.p 9),none⟩,false,false,[]⟩,⟨⟨.t 41,.bin .sub (.t 40) (.c (.int .i64 1)),none⟩,false,false,[]⟩,
 ⟨⟨.t 42,.mov (.p 0),none⟩,false,false,[]⟩,⟨⟨.t 43,.mov (.p 9),none⟩,false,false,[]⟩,⟨⟨.t 44,.bin .sub (.t 43) (.c (.int .i64 1)),none⟩,false,false,[]⟩,⟨⟨.t 45,.idxAddr 2 (.t 42) (.t 44),none⟩,false,false,[]⟩,
 ⟨⟨.t 46,.loadN 2 (.t 45),none⟩,false,false,[]⟩,⟨⟨.t 47,.mov (.p 0),none⟩,false,false,[]⟩,⟨⟨.t 48,.mov (.p 9),none⟩,false,false,[]⟩,⟨⟨.t 49,.idxAddr 2 (.t 47) (.t 48),none⟩,false,false,[]⟩,
 ⟨⟨.t 50,.loadN 2 (.t 49),none⟩,false,false,[]⟩,⟨⟨.t 51,.idxAddr 2 (.t 37) (.t 38),none⟩,false,false,[]⟩,⟨⟨.no,.store 2 (.t 51) (.t 46),none⟩,false,false,[]⟩,⟨⟨.t 52,.idxAddr 2 (.t 39) (.t 41),none⟩,false,false,[]⟩,
 ⟨⟨.no,.store 2 (.t 52) (.t 50),none⟩,false,false,[]⟩])) (.reg [⟨.t 35,.mov (.p 9),none⟩,⟨.t 36,.bin .sub (.t 35) (.c (.int .i64 1)),none⟩,⟨.p 9,.mov (.t 36),none⟩]))
def lb_slices_insertionSortCmpFunc_runes_span_1 : CCode :=
 .seq (.seq (.reg [⟨.t 12,.mov (.p 8),none⟩,⟨.t 13,.mov (.p 2),none⟩,⟨.p 14,.bin .lss (.t 12) (.t 13),none⟩]) (.cond (.p 14) (.skip) (.exit 0))) (.seq (.block 1 [0,1,2,3,8] (.seq (.reg [⟨.t 17,.mov (.p 8),none⟩,
 ⟨.p 9,.mov (.t 17),none⟩]) (.block 2 [0,1,2,3,8] (.loop [0,1,2,3,8,9] lb_slices_insertionSortCmpFunc_runes_span_0)))) (.reg [⟨.t 15,.mov (.p 8),none⟩,⟨.t 16,.bin .add (.t 15) (.c (.int .i64 1)),none⟩,
 ⟨.p 8,.mov (.t 16),none⟩]))
def bd_slices_insertionSortCmpFunc_runes_span : CCode :=
 .seq (.reg [⟨.t 10,.mov (.p 1),none⟩,⟨.t 11,.bin .add (.t 10) (.c (.int .i64 1)),none⟩,⟨.p 8,.mov (.t 11),none⟩]) (.block 0 [] (.loop [0,1,2,3,8] lb_slices_insertionSortCmpFunc_runes_span_1))
def cf_slices_insertionSortCmpFunc_runes_span : CFunc :=
{ nargs := 4,ps := [0,1,2,3,8,9,14,34],results := [],body := bd_slices_insertionSortCmpFunc_runes_span }
def bd_bits_Len32 : CCode :=
 .seq (.reg [⟨.p 2,.mov (.c (.int .i64 0)),none⟩]) (.seq (.seq (.reg [⟨.t 3,.mov (.p 0),none⟩,⟨.p 4,.bin .geq (.t 3) (.c (.int .u32 65536)),none⟩]) (.cond (.p 4) (.seq (.reg [⟨.t 5,.mov (.p 0),none⟩,
 ⟨.t 6,.bin .shr (.t 5) (.c (.int .u64 16)),none⟩,⟨.p 0,.mov (.t 6),none⟩]) (.reg [⟨.p 2,.mov (.c (.int .i64 16)),none⟩])) (.skip))) (.seq (.seq (.reg [⟨.t 7,.mov (.p 0),none⟩,⟨.p 8,.bin .geq (.t 7) (.c (.int .u32 256)),none⟩]) (.cond (.p 8) (.seq (.reg [⟨.t 9,.mov (.p 0),none⟩,
 ⟨.t 10,.bin .shr (.t 9) (.c (.int .u64 8)),none⟩,⟨.p 0,.mov (.t 10),none⟩]) (.reg [⟨.t 11,.mov (.p 2),none⟩,⟨.t 12,.bin .add (.t 11) (.c (.int .i64 8)),none⟩,⟨.p 2,.mov (.t 12),none⟩])) (.skip))) (.seq (.reg [⟨.t 13,.mov (.p 2),none⟩,
 ⟨.t 14,.mov (.p 0),none⟩,⟨.t 15,.convI .u8 (.t 14),none⟩,⟨.t 16,.idxStr (.c (.str [0,1,2,2,3,3,3,3,4,4,4,4,4,4,4,4,5,5,5,5,5,5,5,5,5,5,5,5,5,5,5,5,6,6,6,6,6,6,6,6,6,6,6,6,6,6,6,6,6,6,6,6,6,6,6,6,6,6,6,6,6,6,6,6,7,7,7,7,7,7,7,7,7,7,7,7,7,7,7,7,7,7,7,7,7,7,7,7,7,7,7,7,7,7,7,7,7,7,7,7,7,7,7,7,7,7,7,7,7,7,7,7,7,7,7,7,7,7,7,7,7,7,7,7,7,7,7,7,8,8,8,8,8,8,8,8,8,8,8,8,8,8,8,8,8,8,8,8,8,8,8,8,8,8,8,8,8,8,8,8,8,8,8,8,8,8,8,8,8,8,8,8,8,8,8,8,8,8,8,8,8,8,8,8,8,8,8,8,8,8,8,8,8,8,8,8,8,8,8,8,8,8,8,8,8,8,8,8,8,8,8,8,8,8,8,8,8,8,8,8,8,8,8,8,8,8,8,8,8,8,8,8,8,8,8,8,8,8,8,8,8,8,8,8,8,8,8,8,8,8,8,8,8,8,8,8])) (.t 15),none⟩,⟨.t 17,.convI .i64 (.t 16),none⟩,⟨.t 18,.bin .add (.t 13) (.t 17),none⟩,⟨.p 2,.mov (.t 18),none⟩]) (.ret))))
def cf_bits_Len32 : CFunc :=
{ nargs := 1,ps := [0,2,4,8],results := [.slot 2],body := bd_bits_Len32 }
def bd_bits_Len64 : CCode :=
 .seq (.reg [⟨.p 2,.mov (.c (.int .i64 0)),none⟩]) (.seq (.seq (.reg [⟨.t 3,.mov (.p 0),none⟩,⟨.p 4,.bin .geq (.t 3) (.c (.int .u64 4294967296)),none⟩]) (.cond (.p 4) (.seq (.reg [⟨.t 5,.mov (.p 0),none⟩,
 ⟨.t 6,.bin .shr (.t 5) (.c (.int .u64 32)),none⟩,⟨.p 0,.mov (.t 6),none⟩]) (.reg [⟨.p 2,.mov (.c (.int .i64 32)),none⟩])) (.skip))) (.seq (.seq (.reg [⟨.t 7,.mov (.p 0),none⟩,⟨.p 8,.bin .geq (.t 7) (.c (.int .u64 65536)),none⟩]) (.cond (.p 8) (.seq (.reg [⟨.t 9,.mov (.p 0),none⟩,
 ⟨.t 10,.bin .shr (.t 9) (.c (.int .u64 16)),none⟩,⟨.p 0,.mov (.t 10),none⟩]) (.reg [⟨.t 11,.mov (.p 2),none⟩,⟨.t 12,.bin .add (.t 11) (.c (.int .i64 16)),none⟩,⟨.p 2,.mov (.t 12),none⟩])) (.skip))) (.seq (.seq (.reg [⟨.t 13,.mov (.p 0),none⟩,
 ⟨.p 14,.bin .geq (.t 13) (.c (.int .u64 256)),none⟩]) (.cond (.p 14) (.seq (.reg [⟨.t 15,.mov (.p 0),none⟩,⟨.t 16,.bin .shr (.t 15) (.c (.int .u64 8)),none⟩,⟨.p 0,.mov (.t 16),none⟩]) (.reg [⟨.t 17,.mov (.p 2),none⟩,
 ⟨.t 18,.bin .add (.t 17) (.c (.int .i64 8)),none⟩,⟨.p 2,.mov (.t 18),none⟩])) (.skip))) (.seq (.reg [⟨.t 19,.mov (.p 2),none⟩,⟨.t 20,.mov (.p 0),none⟩,⟨.t 21,.convI .u8 (.t 20),none⟩,
 ⟨.t 22,.idxStr (.c (.str [0,1,2,2,3,3,3,3,4,4,4,4,4,4,4,4,5,5,5,5,5,5,5,5,5,5,5,5,5,5,5,5,6,6,6,6,6,6,6,6,6,6,6,6,6,6,6,6,6,6,6,6,6,6,6,6,6,6,6,6,6,6,6,6,7,7,7,7,7,7,7,7,7,7,7,7,7,7,7,7,7,7,7,7,7,7,7,7,7,7,7,7,7,7,7,7,7,7,7,7,7,7,7,7,7,7,7,7,7,7,7,7,7,7,7,7,7,7,7,7,7,7,7,7,7,7,7,7,8,8,8,8,8,8,8,8,8,8,8,8,8,8,8,8,8,8,8,8,8,8,8,8,8,8,8,8,8,8,8,8,8,8,8,8,8,8,8,8,8,8,8,8,8,8,8,8,8,8,8,8,8,8,8,8,8,8,8,8,8,8,8,8,8,8,8,8,8,8,8,8,8,8,8,8,8,8,8,8,8,8,8,8,8,8,8,8,8,8,8,8,8,8,8,8,8,8,8,8,8,8,8,8,8,8,8,8,8,8,8,8,8,8,8,8,8,8,8,8,8,8,8,8,8,8,8,8])) (.t 21),none⟩,
 ⟨.t 23,.convI .i64 (.t 22),none⟩,⟨.t 24,.bin .add (.t 19) (.t 23),none⟩,⟨.p 2,.mov (.t 24),none⟩]) (.ret)))))
def cf_bits_Len64 : CFunc :=
{ nargs := 1,ps := [0,2,4,8,14],results := [.slot 2],body := bd_bits_Len64 }
def bd_parse_source_bracket : CCode :=
 .seq (.reg [⟨.p 4,.mov (.c (.bool false)),none⟩]) (.seq (.reg [⟨.t 6,.mov (.p 0),none⟩,⟨.t 7,.call F_parse_source_peek [.t 6],none⟩,⟨.t 8,.field1 2 (.t 7),none⟩,⟨.p 5,.mov (.t 8),none⟩]) (.seq (.seq (.reg [⟨.t 9,.mov (.p 0),none⟩,
 ⟨.t 10,.mov (.p 1),none⟩,⟨.t 11,.call F_parse_source_skip [.t 9,.t 10],none⟩,⟨.p 12,.un .not (.t 11),none⟩]) (.cond (.p 12) (.seq (.reg [⟨.p 4,.mov (.c (.bool false)),none⟩]) (.ret)) (.skip))) (.seq (.seq (.reg [⟨.t 13,.mov (.p 0),none⟩,
 ⟨.t 14,.nilCheck (.t 13),none⟩,⟨.t 15,.fieldAddr 3 (.t 14),none⟩,⟨.t 16,.load1 (.t 15),none⟩,⟨.t 17,.bin .add (.t 16) (.c (.int .i64 1)),none⟩,⟨.t 18,.nilCheck (.t 13),none⟩,⟨.t 19,.fieldAddr 3 (.t 18),none⟩,
 ⟨.no,.store 1 (.t 19) (.t 17),none⟩]) (.seq (.reg [⟨.t 20,.mov (.p 0),none⟩,⟨.t 21,.nilCheck (.t 20),none⟩,⟨.t 22,.fieldAddr 3 (.t 21),none⟩,⟨.t 23,.load1 (.t 22),none⟩,⟨.p 24,.bin .gtr (.t 23) (.c (.int .i64 40)),none⟩]) (.cond (.p 24) (.reg [⟨.t 25,.mov (.p 5),none⟩,
 ⟨.t 26,.call F_word_Fail [.c (.int .i64 7),.t 25],none⟩]) (.skip)))) (.seq (.reg [⟨.p 4,.mov (.c (.bool true)),none⟩]) (.ret)))))
def cf_parse_source_bracket : CFunc :=
{ nargs := 2,ps := [0,1,4,5,12,24],results := [.slot 4],body := bd_parse_source_bracket }
/- Tables of functions. -/
inductive BT where
  | nil
  | one (k : Nat) (c : CFunc)
  | two (k : Nat) (l r : BT)
def BT.get : BT → Nat → Option CFunc
  | .nil, _ => none
  | .one k c, f => cond (f == k) (some c) none
  | .two k l r, f => cond (Nat.blt f k) (l.get f) (r.get f)
def BT.All (Q : Nat → CFunc → Prop) : BT → Prop
  | .nil => True
  | .one k c => Q k c
  | .two _ l r => l.All Q ∧ r.All Q
theorem BT.get_all {Q : Nat → CFunc → Prop} : ∀ (t : BT), t.All Q → ∀ f c, t.get f = some c → Q f c
  | .nil, _, f, c, h => by simp [BT.get] at h
  | .one k c0, hQ, f, c, h => by
    simp only [BT.get] at h
    cases hk : f == k with
    | true => rw [hk] at h; simp only [cond_true, Option.some.injEq] at h; subst h; rw [beq_iff_eq.1 hk]; exact hQ
    | false => rw [hk] at h; cases h
  | .two k l r, hQ, f, c, h => by
    simp only [BT.get] at h
    cases hk : Nat.blt f k with
    | true => rw [hk] at h; exact l.get_all hQ.1 f c h
    | false => rw [hk] at h; exact r.get_all hQ.2 f c h
theorem BT.table {P : Program} (t : BT) (h : t.All fun f cf => ∃ fn, P.funcs[f]? = some fn ∧ chkFn P chkDrawn fn cf = true) : Table P chkDrawn t.get :=
  fun f cf hf => t.get_all h f cf hf
/- The table of functions, printed by gen.py. -/
def bt : BT := .two 77 (.two 40 (.two 21 (.two 12 (.two 7 (.two 5 (.two 4 (.one F_gobolaw13_ParseBrackets cf_gobolaw13_ParseBrackets) (.one F_gobolaw6_Make cf_gobolaw6_Make)) (.two 6 (.one F_goboref11_PrintRe cf_goboref11_PrintRe) (.one F_parse_Re cf_parse_Re))) (.two 9 (.two 8 (.one F_goboref6_Same cf_goboref6_Same) (.one F_gobolaw13_told cf_gobolaw13_told)) (.two 10 (.one F_gobolaw6_One cf_gobolaw6_One) (.two 11 (.one F_goboref6_May cf_goboref6_May) (.one F_goboref11_re cf_goboref11_re))))) (.two 16 (.two 14 (.two 13 (.one F_word_Caught cf_word_Caught) (.one F_parse_Re_1 cf_parse_Re_1)) (.two 15 (.one F_word_Read cf_word_Read) (.one F_parse_regex_all cf_parse_regex_all))) (.two 18 (.two 17 (.one F_word_Reader_Peek cf_word_Reader_Peek) (.one F_word_Fail cf_word_Fail)) (.two 19 (.one F_word_Reader_At cf_word_Reader_At) (.two 20 (.one F_goboref3_Same cf_goboref3_Same) (.one F_parse_Source cf_parse_Source)))))) (.two 30 (.two 25 (.two 23 (.two 22 (.one F_goboref6_Count cf_goboref6_Count) (.one F_goboref6_parts cf_goboref6_parts)) (.two 24 (.one F_goboref11_Set cf_goboref11_Set) (.one F_goboref11_in cf_goboref11_in))) (.two 27 (.two 26 (.one F_word_Caught_1 cf_word_Caught_1) (.one F_decode_All cf_decode_All)) (.two 28 (.one F_parse_regex_row cf_parse_regex_row) (.two 29 (.one F_word_Reader_Skip cf_word_Reader_Skip) (.one F_parse_two cf_parse_two))))) (.two 35 (.two 32 (.two 31 (.one F_word_All cf_word_All) (.one F_parse_Source_1 cf_parse_Source_1)) (.two 33 (.one F_parse_source_peek cf_parse_source_peek) (.two 34 (.one F_parse_source_line cf_parse_source_line) (.one F_gram_Check cf_gram_Check)))) (.two 37 (.two 36 (.one F_parse_source_place cf_parse_source_place) (.one F_goboref6_count cf_goboref6_count)) (.two 38 (.one F_goboref3_May cf_goboref3_May) (.two 39 (.one F_goboref11_hex cf_goboref11_hex) (.one F_decode_New cf_decode_New))))))) (.two 58 (.two 49 (.two 44 (.two 42 (.two 41 (.one F_decode_Dec_Feed cf_decode_Dec_Feed) (.one F_decode_Dec_Close cf_decode_Dec_Close)) (.two 43 (.one F_parse_regex_atom cf_parse_regex_atom) (.one F_word_All_1 cf_word_All_1))) (.two 46 (.two 45 (.one F_word_words cf_word_words) (.one F_parse_source_next cf_parse_source_next)) (.two 47 (.one F_parse_source_token cf_parse_source_token) (.two 48 (.one F_parse_source_rule cf_parse_source_rule) (.one F_gram_caught cf_gram_caught))))) (.two 53 (.two 51 (.two 50 (.one F_gram_Check_1 cf_gram_Check_1) (.one F_gram_court_must cf_gram_court_must)) (.two 52 (.one F_gram_court_token cf_gram_court_token) (.one F_gram_court_rule cf_gram_court_rule))) (.two 55 (.two 54 (.one F_goboref3_Norm cf_goboref3_Norm) (.one F_goboref11_small cf_goboref11_small)) (.two 56 (.one F_goboref11_digit cf_goboref11_digit) (.two 57 (.one F_decode_Dec_take cf_decode_Dec_take) (.one F_decode_Dec_taken cf_decode_Dec_taken)))))) (.two 67 (.two 62 (.two 60 (.two 59 (.one F_decode_Dec_tell cf_decode_Dec_tell) (.one F_word_Reader_Must cf_word_Reader_Must)) (.two 61 (.one F_word_Reader_Class cf_word_Reader_Class) (.one F_parse_set cf_parse_set))) (.two 64 (.two 63 (.one F_runes_Not cf_runes_Not) (.one F_word_Reader_Rune cf_word_Reader_Rune)) (.two 65 (.one F_word_run cf_word_run) (.two 66 (.one F_word_words_1 cf_word_words_1) (.one F_word_letter cf_word_letter))))) (.two 72 (.two 69 (.two 68 (.one F_word_words_2 cf_word_words_2) (.one F_word_digit cf_word_digit)) (.two 70 (.one F_strings_IndexByte cf_strings_IndexByte) (.two 71 (.one F_word_closed cf_word_closed) (.one F_parse_source_name cf_parse_source_name)))) (.two 74 (.two 73 (.one F_parse_source_class cf_parse_source_class) (.one F_parse_source_must cf_parse_source_must)) (.two 75 (.one F_parse_source_is cf_parse_source_is) (.two 76 (.one F_parse_source_skip cf_parse_source_skip) (.one F_parse_source_list cf_parse_source_list)))))))) (.two 114 (.two 95 (.two 86 (.two 81 (.two 79 (.two 78 (.one F_parse_source_pattern cf_parse_source_pattern) (.one F_gram_caught_1 cf_gram_caught_1)) (.two 80 (.one F_gram_Name cf_gram_Name) (.one F_gram_Find cf_gram_Find))) (.two 83 (.two 82 (.one F_gram_court_class cf_gram_court_class) (.one F_regex_May cf_regex_May)) (.two 84 (.one F_regex_Empty cf_regex_Empty) (.two 85 (.one F_gram_court_names cf_gram_court_names) (.one F_gram_court_pattern cf_gram_court_pattern))))) (.two 90 (.two 88 (.two 87 (.one F_goboref3_pick cf_goboref3_pick) (.one F_goboref3_cells cf_goboref3_cells)) (.two 89 (.one F_decode_Dec_more cf_decode_Dec_more) (.one F_utf8_DecodeRune cf_utf8_DecodeRune))) (.two 92 (.two 91 (.one F_runes_Norm cf_runes_Norm) (.one F_runes_Not_1 cf_runes_Not_1)) (.two 93 (.one F_runes_spans cf_runes_spans) (.two 94 (.one F_runes_ranges cf_runes_ranges) (.one F_word_hasRune cf_word_hasRune)))))) (.two 104 (.two 99 (.two 97 (.two 96 (.one F_word_Reader_number cf_word_Reader_number) (.one F_stringslite_IndexByte cf_stringslite_IndexByte)) (.two 98 (.one F_strconv_Atoi cf_strconv_Atoi) (.one F_parse_source_names cf_parse_source_names))) (.two 101 (.two 100 (.one F_parse_source_row cf_parse_source_row) (.one F_slices_Contains_string_string cf_slices_Contains_string_string)) (.two 102 (.one F_slices_IndexFunc_api_Token_api_Token cf_slices_IndexFunc_api_Token_api_Token) (.two 103 (.one F_gram_Find_1 cf_gram_Find_1) (.one F_regex_within cf_regex_within))))) (.two 109 (.two 106 (.two 105 (.one F_regex_may cf_regex_may) (.one F_regex_empty cf_regex_empty)) (.two 107 (.one F_gram_few cf_gram_few) (.two 108 (.one F_gram_court_node cf_gram_court_node) (.one F_goboref3_cuts cf_goboref3_cuts)))) (.two 111 (.two 110 (.one F_goboref3_in cf_goboref3_in) (.one F_goboref3_at cf_goboref3_at)) (.two 112 (.one F_goboref3_place cf_goboref3_place) (.two 113 (.one F_decode_Dec_more_1 cf_decode_Dec_more_1) (.one F_decode_grow cf_decode_grow))))))) (.two 135 (.two 124 (.two 118 (.two 116 (.two 115 (.one F_decode_long cf_decode_long) (.one F_utf8_decodeRuneSlow cf_utf8_decodeRuneSlow)) (.two 117 (.one F_runes_number cf_runes_number) (.one F_runes_behind cf_runes_behind))) (.two 120 (.two 119 (.one F_slices_SortFunc_runes_span_runes_span cf_slices_SortFunc_runes_span_runes_span) (.one F_runes_spans_1 cf_runes_spans_1)) (.two 121 (.one F_cmp_Compare_int cf_cmp_Compare_int) (.two 122 (.one F_runes_value cf_runes_value) (.one F_word_hex cf_word_hex))))) (.two 130 (.two 127 (.two 126 (.one F_strconv_Atoi_124 cf_strconv_Atoi_124) (.one F_parse_source_post cf_parse_source_post)) (.two 128 (.one F_parse_source_begins cf_parse_source_begins) (.two 129 (.one F_slices_Index_string_string cf_slices_Index_string_string) (.one F_regex_within_1 cf_regex_within_1)))) (.two 132 (.two 131 (.one F_slices_ContainsFunc_api_Re_api_Re cf_slices_ContainsFunc_api_Re_api_Re) (.one F_regex_within_1_1 cf_regex_within_1_1)) (.two 133 (.one F_regex_parts cf_regex_parts) (.two 134 (.one F_regex_may_1 cf_regex_may_1) (.one F_runes_May cf_runes_May)))))) (.two 144 (.two 139 (.two 137 (.two 136 (.one F_gram_few_1 cf_gram_few_1) (.one F_slices_ContainsFunc_api_Pat_api_Pat cf_slices_ContainsFunc_api_Pat_api_Pat)) (.two 138 (.one F_gram_few_1_1 cf_gram_few_1_1) (.one F_gram_shaped cf_gram_shaped))) (.two 141 (.two 140 (.one F_decode_second cf_decode_second) (.one F_slices_Clone_byte_byte cf_slices_Clone_byte_byte)) (.two 142 (.one F_runes_is cf_runes_is) (.two 143 (.one F_slices_pdqsortCmpFunc_runes_span cf_slices_pdqsortCmpFunc_runes_span) (.one F_bits_Len cf_bits_Len))))) (.two 154 (.two 151 (.two 150 (.one F_cmp_isNaN_int cf_cmp_isNaN_int) (.one F_parse_source_atom cf_parse_source_atom)) (.two 152 (.one F_slices_IndexFunc_api_Re_api_Re cf_slices_IndexFunc_api_Re_api_Re) (.two 153 (.one F_slices_Equal_api_Range_api_Range cf_slices_Equal_api_Range_api_Range) (.one F_slices_IndexFunc_api_Pat_api_Pat cf_slices_IndexFunc_api_Pat_api_Pat)))) (.two 163 (.two 155 (.one F_gram_parts cf_gram_parts) (.one F_slices_insertionSortCmpFunc_runes_span cf_slices_insertionSortCmpFunc_runes_span)) (.two 164 (.one F_bits_Len32 cf_bits_Len32) (.two 169 (.one F_bits_Len64 cf_bits_Len64) (.one F_parse_source_bracket cf_parse_source_bracket))))))))
end Go.Ev
