/- Functions of the program, printed by gen.py. -/
import Derived.Test.YtifhmogcdgfojaaGreatDoorT18
set_option linter.unusedSimpArgs false
set_option linter.unusedVariables false
namespace Go.Ev
open Go
def bd_runes_Norm : CCode :=
 .seq (.reg [⟨.p 2,.mov (.c (.nils)),none⟩]) (.seq (.reg [⟨.t 3,.mov (.p 0),none⟩,⟨.t 4,.call F_runes_spans [.t 3],none⟩,⟨.t 5,.call F_runes_ranges [.t 4],none⟩,⟨.p 2,.mov (.t 5),none⟩]) (.ret))
def cf_runes_Norm : CFunc :=
{ nargs := 1,ps := [0,2],results := [.slot 2],body := bd_runes_Norm }
def bd_decode_Dec_take : CCode :=
 .seq (.seq (.reg [⟨.t 4,.mov (.p 0),none⟩,⟨.t 5,.mov (.p 1),none⟩,⟨.p 6,.call F_decode_Dec_more [.t 4,.t 5],none⟩]) (.cond (.p 6) (.ret) (.skip))) (.seq (.seq (.reg [⟨.t 7,.mov (.p 0),none⟩,
 ⟨.t 8,.nilCheck (.t 7),none⟩,⟨.t 9,.fieldAddr 0 (.t 8),none⟩,⟨.t 10,.load1 (.t 9),none⟩,⟨.t 11,.lenSl (.t 10),none⟩,⟨.p 12,.bin .gtr (.t 11) (.c (.int .i64 0)),none⟩]) (.cond (.p 12) (.seq (.reg [⟨.t 13,.mov (.p 0),none⟩,
 ⟨.t 14,.call F_decode_Dec_tell [.t 13,.c (.bool true),.c (.bool true)],none⟩]) (.seq (.reg [⟨.t 15,.mov (.p 0),none⟩,⟨.t 16,.mov (.p 1),none⟩,⟨.t 17,.call F_decode_Dec_take [.t 15,.t 16],none⟩]) (.ret))) (.skip))) (.seq (.reg [⟨.t 18,.mov (.p 0),none⟩,
 ⟨.t 19,.mov (.p 1),none⟩,⟨.t 20,.lit [.int .u8 0] 1 [(0,1,.t 19)],none⟩,⟨.t 21,.nilCheck (.t 18),none⟩,⟨.t 22,.fieldAddr 0 (.t 21),none⟩,⟨.no,.store 1 (.t 22) (.t 20),none⟩]) (.reg [⟨.t 23,.mov (.p 0),none⟩,
 ⟨.t 24,.call F_decode_Dec_tell [.t 23,.c (.bool true),.c (.bool false)],none⟩])))
def cf_decode_Dec_take : CFunc :=
{ nargs := 2,ps := [0,1,6,12],results := [],body := bd_decode_Dec_take }
def bd_decode_Dec_taken : CCode :=
 .seq (.reg [⟨.p 2,.mov (.c (.nils)),none⟩]) (.seq (.reg [⟨.t 4,.mov (.p 0),none⟩,⟨.t 5,.nilCheck (.t 4),none⟩,⟨.t 6,.fieldAddr 3 (.t 5),none⟩,⟨.t 7,.load1 (.t 6),none⟩,⟨.p 3,.mov (.t 7),none⟩]) (.seq (.reg [⟨.t 8,.mov (.p 0),none⟩,
 ⟨.t 9,.nilCheck (.t 8),none⟩,⟨.t 10,.fieldAddr 3 (.t 9),none⟩,⟨.no,.store 1 (.t 10) (.c (.nils)),none⟩]) (.seq (.reg [⟨.t 11,.mov (.p 3),none⟩,⟨.p 2,.mov (.t 11),none⟩]) (.ret))))
def cf_decode_Dec_taken : CFunc :=
{ nargs := 1,ps := [0,2,3],results := [.slot 2],body := bd_decode_Dec_taken }
def bd_decode_Dec_tell : CCode :=
 .seq (.dreg [⟨⟨.t 7,.mov (.p 0),none⟩,false,false,[]⟩,⟨⟨.t 8,.nilCheck (.t 7),none⟩,false,false,[]⟩,⟨⟨.t 9,.fieldAddr 1 (.t 8),none⟩,false,false,[]⟩,⟨⟨.t 10,.load1 (.t 9),none⟩,true,false,[]⟩,
 ⟨⟨.t 11,.mov (.p 0),none⟩,false,false,[]⟩,⟨⟨.t 12,.nilCheck (.t 11),none⟩,false,false,[]⟩,⟨⟨.t 13,.fieldAddr 1 (.t 12),none⟩,false,false,[]⟩,⟨⟨.t 14,.load1 (.t 13),none⟩,true,false,[]⟩,
 ⟨⟨.t 15,.mov (.p 0),none⟩,false,false,[]⟩,⟨⟨.t 16,.nilCheck (.t 15),none⟩,false,false,[]⟩,⟨⟨.t 17,.fieldAddr 0 (.t 16),none⟩,false,false,[]⟩,⟨⟨.t 18,.load1 (.t 17),none⟩,true,false,[]⟩,
 ⟨⟨.t 19,.lenSl (.t 18),none⟩,false,false,[]⟩,⟨⟨.t 20,.bin .add (.t 14) (.t 19),none⟩,false,false,[]⟩,⟨⟨.t 21,.mov (.p 1),none⟩,false,false,[]⟩,⟨⟨.t 22,.mov (.p 2),none⟩,false,false,[]⟩,
 ⟨⟨.t 23,.build [.int .i32 0,.int .i64 0,.int .i64 0,.bool false,.bool false] [(0,1,.c (.int .i32 65533)),(1,1,.t 10),(2,1,.t 20),(3,1,.t 21),(4,1,.t 22)],none⟩,false,false,[]⟩,⟨⟨.p 6,.alloc [.int .i32 0,.int .i64 0,.int .i64 0,.bool false,.bool false],none⟩,false,false,[3,7,11]⟩,
 ⟨⟨.no,.store 5 (.p 6) (.t 23),none⟩,false,false,[]⟩]) (.seq (.seq (.reg [⟨.t 24,.mov (.p 1),none⟩,⟨.p 25,.un .not (.t 24),none⟩]) (.cond (.p 25) (.reg [⟨.t 27,.mov (.p 0),none⟩,⟨.t 28,.nilCheck (.t 27),none⟩,
 ⟨.t 29,.fieldAddr 0 (.t 28),none⟩,⟨.t 30,.load1 (.t 29),none⟩,⟨.t 31,.call F_utf8_DecodeRune [.t 30],none⟩,⟨.t 26,.mov (.t 31),none⟩,⟨.t 32,.extract (.t 26) 0,none⟩,⟨.t 33,.extract (.t 26) 1,none⟩,
 ⟨.t 34,.fieldAddr 0 (.p 6),none⟩,⟨.no,.store 1 (.t 34) (.t 32),none⟩]) (.skip))) (.seq (.dreg [⟨⟨.t 35,.mov (.p 0),none⟩,false,false,[]⟩,⟨⟨.t 36,.mov (.p 0),none⟩,false,false,[]⟩,⟨⟨.t 37,.nilCheck (.t 36),none⟩,false,false,[]⟩,
 ⟨⟨.t 38,.fieldAddr 3 (.t 37),none⟩,false,false,[]⟩,⟨⟨.t 39,.load1 (.t 38),none⟩,true,false,[]⟩,⟨⟨.t 40,.loadN 5 (.p 6),none⟩,false,false,[]⟩,⟨⟨.t 41,.lit [.int .i32 0,.int .i64 0,.int .i64 0,.bool false,.bool false] 1 [(0,5,.t 40)],none⟩,false,false,[4]⟩,
 ⟨⟨.t 42,.append 5 32 (.t 39) (.t 41),none⟩,false,false,[]⟩,⟨⟨.t 43,.nilCheck (.t 35),none⟩,false,false,[]⟩,⟨⟨.t 44,.fieldAddr 3 (.t 43),none⟩,false,false,[]⟩,⟨⟨.no,.store 1 (.t 44) (.t 42),none⟩,false,false,[]⟩]) (.dreg [⟨⟨.t 45,.mov (.p 0),none⟩,false,false,[]⟩,
 ⟨⟨.t 46,.mov (.p 0),none⟩,false,false,[]⟩,⟨⟨.t 47,.fieldAddr 2 (.p 6),none⟩,false,false,[]⟩,⟨⟨.t 48,.load1 (.t 47),none⟩,true,false,[]⟩,⟨⟨.t 49,.nilCheck (.t 45),none⟩,false,false,[]⟩,
 ⟨⟨.t 50,.fieldAddr 0 (.t 49),none⟩,false,false,[]⟩,⟨⟨.no,.store 1 (.t 50) (.c (.nils)),none⟩,false,false,[3]⟩,⟨⟨.t 51,.nilCheck (.t 46),none⟩,false,false,[]⟩,⟨⟨.t 52,.fieldAddr 1 (.t 51),none⟩,false,false,[]⟩,
 ⟨⟨.no,.store 1 (.t 52) (.t 48),none⟩,false,false,[]⟩])))
def cf_decode_Dec_tell : CFunc :=
{ nargs := 3,ps := [0,1,2,6,25],results := [],body := bd_decode_Dec_tell }
def bd_word_Reader_Must : CCode :=
 .seq (.reg [⟨.t 4,.mov (.p 0),none⟩,⟨.t 5,.mov (.p 1),none⟩,⟨.t 6,.call F_word_Reader_Skip [.t 4,.t 5],none⟩,⟨.p 7,.un .not (.t 6),none⟩]) (.cond (.p 7) (.reg [⟨.t 8,.mov (.p 0),none⟩,
 ⟨.t 9,.call F_word_Reader_At [.t 8],none⟩,⟨.t 10,.call F_word_Fail [.c (.int .i64 3),.t 9],none⟩]) (.skip))
def cf_word_Reader_Must : CFunc :=
{ nargs := 2,ps := [0,1,7],results := [],body := bd_word_Reader_Must }
def lb_word_Reader_Class_0 : CCode :=
 .seq (.seq (.reg [⟨.t 11,.mov (.p 5),none⟩,⟨.t 12,.lenSl (.t 11),none⟩,⟨.t 13,.bin .eql (.t 12) (.c (.int .i64 0)),none⟩,⟨.t 14,.mov (.t 13),none⟩,⟨.t 15,.mov (.p 0),some (.t 14,false)⟩,
 ⟨.t 16,.call F_word_Reader_Peek [.t 15],some (.t 14,false)⟩,⟨.t 17,.mov (.p 1),some (.t 14,false)⟩,⟨.t 18,.bin .neq (.t 16) (.t 17),some (.t 14,false)⟩,⟨.p 19,.pick (.t 14) (.c (.bool true)) (.t 18),none⟩]) (.cond (.p 19) (.skip) (.exit 0))) (.block 1 [0,1,5,6] (.seq (.reg [⟨.t 20,.mov (.p 0),none⟩,
 ⟨.t 21,.call F_word_Reader_Rune [.t 20,.c (.bool true)],none⟩,⟨.t 22,.build [.int .i32 0,.int .i32 0] [(0,1,.t 21)],none⟩,⟨.p 7,.alloc [.int .i32 0,.int .i32 0],none⟩,⟨.no,.store 2 (.p 7) (.t 22),none⟩]) (.seq (.reg [⟨.t 23,.fieldAddr 0 (.p 7),none⟩,
 ⟨.t 24,.load1 (.t 23),none⟩,⟨.t 25,.fieldAddr 1 (.p 7),none⟩,⟨.no,.store 1 (.t 25) (.t 24),none⟩]) (.seq (.seq (.reg [⟨.t 26,.mov (.p 0),none⟩,⟨.p 27,.call F_word_Reader_Skip [.t 26,.c (.int .i32 45)],none⟩]) (.cond (.p 27) (.seq (.reg [⟨.t 28,.mov (.p 0),none⟩,
 ⟨.t 29,.call F_word_Reader_At [.t 28],none⟩,⟨.p 8,.mov (.t 29),none⟩]) (.seq (.reg [⟨.t 30,.mov (.p 0),none⟩,⟨.t 31,.call F_word_Reader_Rune [.t 30,.c (.bool true)],none⟩,⟨.t 32,.fieldAddr 1 (.p 7),none⟩,
 ⟨.no,.store 1 (.t 32) (.t 31),none⟩]) (.seq (.reg [⟨.t 33,.fieldAddr 1 (.p 7),none⟩,⟨.t 34,.load1 (.t 33),none⟩,⟨.t 35,.fieldAddr 0 (.p 7),none⟩,⟨.t 36,.load1 (.t 35),none⟩,⟨.p 37,.bin .lss (.t 34) (.t 36),none⟩]) (.cond (.p 37) (.reg [⟨.t 38,.mov (.p 8),none⟩,
 ⟨.t 39,.call F_word_Fail [.c (.int .i64 3),.t 38],none⟩]) (.skip))))) (.skip))) (.reg [⟨.t 40,.mov (.p 5),none⟩,⟨.t 41,.loadN 2 (.p 7),none⟩,⟨.t 42,.lit [.int .i32 0,.int .i32 0] 1 [(0,2,.t 41)],none⟩,
 ⟨.t 43,.append 2 8 (.t 40) (.t 42),none⟩,⟨.p 5,.mov (.t 43),none⟩])))))
def bd_word_Reader_Class : CCode :=
 .seq (.reg [⟨.p 4,.mov (.c (.nils)),none⟩]) (.seq (.reg [⟨.p 5,.mov (.c (.nils)),none⟩]) (.seq (.reg [⟨.t 9,.mov (.p 0),none⟩,⟨.t 10,.call F_word_Reader_Skip [.t 9,.c (.int .i32 94)],none⟩,
 ⟨.p 6,.mov (.t 10),none⟩]) (.seq (.block 0 [0,5,6] (.loop [0,1,5,6] lb_word_Reader_Class_0)) (.seq (.seq (.reg [⟨.t 44,.mov (.p 5),none⟩,⟨.t 45,.call F_runes_Norm [.t 44],none⟩,⟨.p 5,.mov (.t 45),none⟩]) (.seq (.reg [⟨.p 46,.mov (.p 6),none⟩]) (.cond (.p 46) (.reg [⟨.t 47,.mov (.p 5),none⟩,
 ⟨.t 48,.call F_runes_Not [.t 47],none⟩,⟨.p 5,.mov (.t 48),none⟩]) (.skip)))) (.seq (.seq (.reg [⟨.t 49,.mov (.p 5),none⟩,⟨.t 50,.lenSl (.t 49),none⟩,⟨.p 51,.bin .eql (.t 50) (.c (.int .i64 0)),none⟩]) (.cond (.p 51) (.reg [⟨.t 52,.mov (.p 0),none⟩,
 ⟨.t 53,.call F_word_Reader_At [.t 52],none⟩,⟨.t 54,.call F_word_Fail [.c (.int .i64 3),.t 53],none⟩]) (.skip))) (.seq (.reg [⟨.t 55,.mov (.p 5),none⟩,⟨.p 4,.mov (.t 55),none⟩]) (.ret)))))))
def cf_word_Reader_Class : CFunc :=
{ nargs := 2,ps := [0,1,4,5,6,7,8,19,27,37,46,51],results := [.slot 4],body := bd_word_Reader_Class }
def bd_parse_set : CCode :=
 .seq (.reg [⟨.p 2,.alloc [.int .i64 0,.nils,.nils],none⟩]) (.seq (.reg [⟨.t 3,.mov (.p 0),none⟩,⟨.t 4,.build [.int .i64 0,.nils,.nils] [(0,1,.c (.int .i64 2)),(1,1,.t 3)],none⟩,⟨.no,.store 3 (.p 2) (.t 4),none⟩]) (.ret))
def cf_parse_set : CFunc :=
{ nargs := 1,ps := [0,2],results := [.cellN 2 3],body := bd_parse_set }
def lb_runes_Not_0 : CCode :=
 .seq (.reg [⟨.p 13,.bin .lss (.p 12) (.p 11),none⟩]) (.seq (.cond (.p 13) (.skip) (.exit 0)) (.seq (.block 1 [3,4,5,10,11,12] (.seq (.reg [⟨.t 14,.idxAddr 2 (.p 10) (.p 12),none⟩,⟨.t 15,.loadN 2 (.t 14),none⟩,
 ⟨.p 7,.alloc [.int .i64 0,.int .i64 0],none⟩,⟨.no,.store 2 (.p 7) (.t 15),none⟩]) (.seq (.reg [⟨.t 16,.mov (.p 5),none⟩,⟨.t 17,.fieldAddr 0 (.p 7),none⟩,⟨.t 18,.load1 (.t 17),none⟩,
 ⟨.t 19,.callV (.t 16) [.t 18],none⟩]) (.reg [⟨.t 20,.fieldAddr 1 (.p 7),none⟩,⟨.t 21,.load1 (.t 20),none⟩,⟨.no,.store 1 (.p 4) (.t 21),none⟩])))) (.reg [⟨.t 22,.bin .add (.p 12) (.c (.int .i64 1)),none⟩,
 ⟨.p 12,.mov (.t 22),none⟩])))
def bd_runes_Not : CCode :=
 .seq (.reg [⟨.p 2,.mov (.c (.nils)),none⟩]) (.seq (.reg [⟨.p 3,.alloc [.nils],none⟩]) (.seq (.reg [⟨.p 4,.alloc [.int .i64 0],none⟩,⟨.no,.store 1 (.p 4) (.c (.int .i64 0)),none⟩]) (.seq (.reg [⟨.t 8,.mkFn F_runes_Not_1 [.p 4,.p 3],none⟩,
 ⟨.p 5,.mov (.t 8),none⟩]) (.seq (.seq (.reg [⟨.t 9,.mov (.p 0),none⟩,⟨.p 10,.call F_runes_spans [.t 9],none⟩,⟨.p 11,.lenSl (.p 10),none⟩,⟨.p 12,.mov (.c (.int .i64 0)),none⟩]) (.block 0 [3,5] (.loop [3,4,5,10,11,12] lb_runes_Not_0))) (.seq (.reg [⟨.t 23,.mov (.p 5),none⟩,
 ⟨.t 24,.callV (.t 23) [.c (.int .i64 1112064)],none⟩]) (.seq (.reg [⟨.t 25,.load1 (.p 3),none⟩,⟨.t 26,.call F_runes_ranges [.t 25],none⟩,⟨.p 2,.mov (.t 26),none⟩]) (.ret)))))))
def cf_runes_Not : CFunc :=
{ nargs := 1,ps := [0,2,3,4,5,7,10,11,12,13],results := [.slot 2],body := bd_runes_Not }
def bd_word_Reader_Rune : CCode :=
 .seq (.reg [⟨.p 4,.mov (.c (.int .i32 0)),none⟩]) (.seq (.reg [⟨.t 7,.mov (.p 0),none⟩,⟨.t 8,.call F_word_Reader_Peek [.t 7],none⟩,⟨.p 5,.mov (.t 8),none⟩]) (.seq (.reg [⟨.p 6,.mov (.c (.str [47,124,42,40,41,91,93,46])),none⟩]) (.seq (.seq (.reg [⟨.p 9,.mov (.p 1),none⟩]) (.cond (.p 9) (.reg [⟨.p 6,.mov (.c (.str [47,124,42,40,41,91,93,45])),none⟩]) (.skip))) (.seq (.seq (.reg [⟨.t 10,.mov (.p 5),none⟩,
 ⟨.t 11,.bin .lss (.t 10) (.c (.int .i32 32)),none⟩,⟨.t 12,.mov (.t 11),none⟩,⟨.t 13,.mov (.p 6),some (.t 12,false)⟩,⟨.t 14,.mov (.p 5),some (.t 12,false)⟩,⟨.t 15,.call F_word_hasRune [.t 13,.t 14],some (.t 12,false)⟩,
 ⟨.p 16,.pick (.t 12) (.c (.bool true)) (.t 15),none⟩]) (.cond (.p 16) (.reg [⟨.t 17,.mov (.p 0),none⟩,⟨.t 18,.call F_word_Reader_At [.t 17],none⟩,⟨.t 19,.call F_word_Fail [.c (.int .i64 3),.t 18],none⟩]) (.skip))) (.seq (.seq (.reg [⟨.t 20,.mov (.p 0),none⟩,
 ⟨.t 21,.nilCheck (.t 20),none⟩,⟨.t 22,.fieldAddr 1 (.t 21),none⟩,⟨.t 23,.load1 (.t 22),none⟩,⟨.t 24,.bin .add (.t 23) (.c (.int .i64 1)),none⟩,⟨.t 25,.nilCheck (.t 20),none⟩,⟨.t 26,.fieldAddr 1 (.t 25),none⟩,
 ⟨.no,.store 1 (.t 26) (.t 24),none⟩]) (.seq (.reg [⟨.t 27,.mov (.p 5),none⟩,⟨.p 28,.bin .neq (.t 27) (.c (.int .i32 92)),none⟩]) (.cond (.p 28) (.seq (.reg [⟨.t 29,.mov (.p 5),none⟩,
 ⟨.p 4,.mov (.t 29),none⟩]) (.ret)) (.skip)))) (.seq (.reg [⟨.t 30,.mov (.p 0),none⟩,⟨.t 31,.call F_word_Reader_Peek [.t 30],none⟩,⟨.p 5,.mov (.t 31),none⟩]) (.seq (.block 0 [0,5] (.seq (.reg [⟨.t 33,.mov (.p 0),none⟩,
 ⟨.t 34,.call F_word_Reader_Skip [.t 33,.c (.int .i32 110)],none⟩,⟨.p 32,.mov (.t 34),none⟩]) (.cond (.p 32) (.seq (.reg [⟨.p 4,.mov (.c (.int .i32 10)),none⟩]) (.ret)) (.seq (.reg [⟨.t 36,.mov (.p 0),none⟩,
 ⟨.t 37,.call F_word_Reader_Skip [.t 36,.c (.int .i32 114)],none⟩,⟨.p 35,.mov (.t 37),none⟩]) (.cond (.p 35) (.seq (.reg [⟨.p 4,.mov (.c (.int .i32 13)),none⟩]) (.ret)) (.seq (.reg [⟨.t 39,.mov (.p 0),none⟩,
 ⟨.t 40,.call F_word_Reader_Skip [.t 39,.c (.int .i32 116)],none⟩,⟨.p 38,.mov (.t 40),none⟩]) (.cond (.p 38) (.seq (.reg [⟨.p 4,.mov (.c (.int .i32 9)),none⟩]) (.ret)) (.seq (.reg [⟨.t 42,.mov (.p 0),none⟩,
 ⟨.t 43,.call F_word_Reader_Skip [.t 42,.c (.int .i32 117)],none⟩,⟨.p 41,.mov (.t 43),none⟩]) (.cond (.p 41) (.seq (.reg [⟨.t 44,.mov (.p 0),none⟩,⟨.t 45,.call F_word_Reader_number [.t 44],none⟩,
 ⟨.p 4,.mov (.t 45),none⟩]) (.ret)) (.seq (.reg [⟨.t 47,.mov (.p 5),none⟩,⟨.t 48,.bin .lss (.t 47) (.c (.int .i32 0)),none⟩,⟨.t 49,.mov (.t 48),none⟩,⟨.t 50,.mov (.p 5),some (.t 49,false)⟩,
 ⟨.t 51,.call F_word_hasRune [.c (.str [47,124,42,40,41,91,93,92,46,45,94,123,125]),.t 50],some (.t 49,false)⟩,⟨.t 52,.un .not (.t 51),some (.t 49,false)⟩,⟨.t 53,.pick (.t 49) (.c (.bool true)) (.t 52),none⟩,
 ⟨.p 46,.mov (.t 53),none⟩]) (.cond (.p 46) (.reg [⟨.t 54,.mov (.p 0),none⟩,⟨.t 55,.call F_word_Reader_At [.t 54],none⟩,⟨.t 56,.call F_word_Fail [.c (.int .i64 3),.t 55],none⟩]) (.skip)))))))))))) (.seq (.reg [⟨.t 57,.mov (.p 0),none⟩,
 ⟨.t 58,.nilCheck (.t 57),none⟩,⟨.t 59,.fieldAddr 1 (.t 58),none⟩,⟨.t 60,.load1 (.t 59),none⟩,⟨.t 61,.bin .add (.t 60) (.c (.int .i64 1)),none⟩,⟨.t 62,.nilCheck (.t 57),none⟩,⟨.t 63,.fieldAddr 1 (.t 62),none⟩,
 ⟨.no,.store 1 (.t 63) (.t 61),none⟩]) (.seq (.reg [⟨.t 64,.mov (.p 5),none⟩,⟨.p 4,.mov (.t 64),none⟩]) (.ret))))))))))
def cf_word_Reader_Rune : CFunc :=
{ nargs := 2,ps := [0,1,4,5,6,9,16,28,32,35,38,41,46],results := [.slot 4],body := bd_word_Reader_Rune }
def bd_gram_caught_1 : CCode :=
 .seq (.reg [⟨.t 4,.recover,none⟩,⟨.p 1,.mov (.t 4),none⟩]) (.seq (.reg [⟨.t 5,.mov (.p 1),none⟩,⟨.p 6,.eqv true .iface (.t 5) (.c (.nili)),none⟩]) (.cond (.p 6) (.seq (.reg [⟨.t 8,.mov (.p 1),none⟩,
 ⟨.t 9,.assert T_gram_fault (some (.agg [.int .i64 0,.int .i64 0])) (.t 8),none⟩,⟨.t 7,.mov (.t 9),none⟩,⟨.t 10,.extract (.t 7) 0,none⟩,⟨.t 11,.extract (.t 7) 1,none⟩,⟨.p 2,.alloc [.int .i64 0,.int .i64 0],none⟩,
 ⟨.no,.store 2 (.p 2) (.t 10),none⟩,⟨.p 3,.mov (.t 11),none⟩]) (.seq (.seq (.reg [⟨.t 12,.mov (.p 3),none⟩,⟨.p 13,.un .not (.t 12),none⟩]) (.cond (.p 13) (.reg [⟨.t 14,.mov (.p 1),none⟩,
 ⟨.no,.panic (.t 14),none⟩]) (.skip))) (.reg [⟨.t 15,.loadN 2 (.p 2),none⟩,⟨.no,.store 2 (.p 0) (.t 15),none⟩]))) (.skip)))
def cf_gram_caught_1 : CFunc :=
{ nargs := 1,ps := [0,1,2,3,6,13],results := [],body := bd_gram_caught_1 }
def lb_gram_Name_0 : CCode :=
 .seq (.reg [⟨.p 8,.bin .lss (.p 7) (.p 6),none⟩]) (.seq (.cond (.p 8) (.skip) (.exit 0)) (.seq (.block 1 [0,6,7] (.seq (.reg [⟨.t 9,.mov (.p 7),none⟩,⟨.p 3,.mov (.t 9),none⟩]) (.seq (.reg [⟨.t 10,.mov (.p 0),none⟩,
 ⟨.t 11,.mov (.p 3),none⟩,⟨.t 12,.idxStr (.t 10) (.t 11),none⟩,⟨.p 4,.mov (.t 12),none⟩]) (.seq (.reg [⟨.t 13,.mov (.p 4),none⟩,⟨.t 14,.bin .geq (.t 13) (.c (.int .u8 97)),none⟩,⟨.t 15,.mov (.t 14),none⟩,
 ⟨.t 16,.mov (.p 4),some (.t 15,true)⟩,⟨.t 17,.bin .leq (.t 16) (.c (.int .u8 122)),some (.t 15,true)⟩,⟨.t 18,.pick (.t 15) (.t 17) (.c (.bool false)),none⟩,⟨.t 19,.mov (.t 18),none⟩,
 ⟨.t 20,.mov (.p 3),some (.t 19,false)⟩,⟨.t 21,.bin .gtr (.t 20) (.c (.int .i64 0)),some (.t 19,false)⟩,⟨.t 22,.mov (.t 21),some (.t 19,false)⟩,⟨.t 23,.mov (.p 4),some (.t 22,true)⟩,
 ⟨.t 24,.bin .geq (.t 23) (.c (.int .u8 48)),some (.t 22,true)⟩,⟨.t 25,.pick (.t 22) (.t 24) (.c (.bool false)),some (.t 19,false)⟩,⟨.t 26,.mov (.t 25),some (.t 19,false)⟩,⟨.t 27,.mov (.p 4),some (.t 26,true)⟩,
 ⟨.t 28,.bin .leq (.t 27) (.c (.int .u8 57)),some (.t 26,true)⟩,⟨.t 29,.pick (.t 26) (.t 28) (.c (.bool false)),some (.t 19,false)⟩,⟨.t 30,.pick (.t 19) (.c (.bool true)) (.t 29),none⟩,
 ⟨.p 31,.un .not (.t 30),none⟩]) (.cond (.p 31) (.seq (.stuck) (.ret)) (.skip)))))) (.reg [⟨.t 32,.bin .add (.p 7) (.c (.int .i64 1)),none⟩,⟨.p 7,.mov (.t 32),none⟩])))
def bd_gram_Name : CCode :=
 .seq (.reg [⟨.p 2,.mov (.c (.bool false)),none⟩]) (.seq (.seq (.reg [⟨.t 5,.mov (.p 0),none⟩,⟨.p 6,.lenStr (.t 5),none⟩,⟨.p 7,.mov (.c (.int .i64 0)),none⟩]) (.block 0 [0] (.loop [0,6,7] lb_gram_Name_0))) (.seq (.reg [⟨.t 33,.mov (.p 0),none⟩,
 ⟨.t 34,.lenStr (.t 33),none⟩,⟨.t 35,.bin .geq (.t 34) (.c (.int .i64 1)),none⟩,⟨.t 36,.mov (.t 35),none⟩,⟨.t 37,.mov (.p 0),some (.t 36,true)⟩,⟨.t 38,.lenStr (.t 37),some (.t 36,true)⟩,
 ⟨.t 39,.bin .leq (.t 38) (.c (.int .i64 12)),some (.t 36,true)⟩,⟨.t 40,.pick (.t 36) (.t 39) (.c (.bool false)),none⟩,⟨.t 41,.mov (.t 40),none⟩,⟨.t 42,.sliceArr 6 1 (.g G_gram_own) none none none,some (.t 41,true)⟩,
 ⟨.t 43,.mov (.p 0),some (.t 41,true)⟩,⟨.t 44,.call F_slices_Contains_string_string [.t 42,.t 43],some (.t 41,true)⟩,⟨.t 45,.un .not (.t 44),some (.t 41,true)⟩,⟨.t 46,.pick (.t 41) (.t 45) (.c (.bool false)),none⟩,
 ⟨.p 2,.mov (.t 46),none⟩]) (.ret)))
def cf_gram_Name : CFunc :=
{ nargs := 1,ps := [0,2,3,4,6,7,8,31],results := [.slot 2],body := bd_gram_Name }
def bd_gram_Find : CCode :=
 .seq (.reg [⟨.p 2,.box (.p 0),none⟩,⟨.p 3,.box (.p 1),none⟩,⟨.p 4,.mov (.c (.int .i64 0)),none⟩]) (.seq (.reg [⟨.t 5,.fieldAddr 0 (.p 2),none⟩,⟨.t 6,.load1 (.t 5),none⟩,⟨.t 7,.mkFn F_gram_Find_1 [.p 3],none⟩,
 ⟨.t 8,.call F_slices_IndexFunc_api_Token_api_Token [.t 6,.t 7],none⟩,⟨.p 4,.mov (.t 8),none⟩]) (.ret))
def cf_gram_Find : CFunc :=
{ nargs := 2,ps := [0,1,2,3,4],results := [.slot 4],body := bd_gram_Find }
def bd_gram_court_class : CCode :=
 .reg [⟨.t 4,.mov (.p 0),none⟩,⟨.t 5,.mov (.p 1),none⟩,⟨.t 6,.bin .geq (.t 5) (.c (.int .i64 0)),none⟩,⟨.t 7,.mov (.t 6),none⟩,⟨.t 8,.mov (.p 1),some (.t 7,true)⟩,⟨.t 9,.bin .leq (.t 8) (.c (.int .i64 31)),some (.t 7,true)⟩,
 ⟨.t 10,.pick (.t 7) (.t 9) (.c (.bool false)),none⟩,⟨.t 11,.call F_gram_court_must [.t 4,.t 10,.c (.int .i64 6)],none⟩]
def cf_gram_court_class : CFunc :=
{ nargs := 2,ps := [0,1],results := [],body := bd_gram_court_class }
def bd_regex_Empty : CCode :=
 .seq (.reg [⟨.p 1,.box (.p 0),none⟩,⟨.p 2,.mov (.c (.bool false)),none⟩]) (.seq (.reg [⟨.t 3,.loadN 3 (.p 1),none⟩,⟨.t 4,.call F_regex_May [.t 3],none⟩,⟨.t 5,.mov (.t 4),none⟩,⟨.t 6,.loadN 3 (.p 1),some (.t 5,true)⟩,
 ⟨.t 7,.call F_regex_empty [.t 6],some (.t 5,true)⟩,⟨.t 8,.pick (.t 5) (.t 7) (.c (.bool false)),none⟩,⟨.p 2,.mov (.t 8),none⟩]) (.ret))
def cf_regex_Empty : CFunc :=
{ nargs := 1,ps := [0,1,2],results := [.slot 2],body := bd_regex_Empty }
def bd_strconv_FormatInt_101 : CCode :=
 .seq (.reg [⟨.p 4,.mov (.c (.str [])),none⟩]) (.seq (.seq (.reg [⟨.t 10,.mov (.p 1),none⟩,⟨.p 11,.bin .eql (.t 10) (.c (.int .i64 10)),none⟩]) (.cond (.p 11) (.seq (.seq (.reg [⟨.t 12,.mov (.p 0),none⟩,
 ⟨.t 13,.bin .leq (.c (.int .i64 0)) (.t 12),none⟩,⟨.t 14,.mov (.t 13),none⟩,⟨.t 15,.mov (.p 0),some (.t 14,true)⟩,⟨.t 16,.bin .lss (.t 15) (.c (.int .i64 100)),some (.t 14,true)⟩,⟨.p 17,.pick (.t 14) (.t 16) (.c (.bool false)),none⟩]) (.cond (.p 17) (.seq (.reg [⟨.t 18,.mov (.p 0),none⟩,
 ⟨.t 19,.call F_strconv_small [.t 18],none⟩,⟨.p 4,.mov (.t 19),none⟩]) (.ret)) (.skip))) (.seq (.stuck) (.seq (.stuck) (.seq (.seq (.stuck) (.cond (.p 23) (.stuck) (.skip))) (.seq (.stuck) (.seq (.stuck) (.seq (.seq (.stuck) (.cond (.p 34) (.seq (.stuck) (.seq (.stuck) (.ret))) (.skip))) (.seq (.stuck) (.ret))))))))) (.skip))) (.seq (.reg [⟨.t 45,.mov (.p 0),none⟩,
 ⟨.t 46,.convI .u64 (.t 45),none⟩,⟨.t 47,.mov (.p 1),none⟩,⟨.t 48,.mov (.p 0),none⟩,⟨.t 49,.bin .lss (.t 48) (.c (.int .i64 0)),none⟩,⟨.t 50,.call F_strconv_formatBits [.c (.nils),.t 46,.t 47,.t 49,.c (.bool false)],none⟩,
 ⟨.t 44,.mov (.t 50),none⟩,⟨.t 51,.extract (.t 44) 0,none⟩,⟨.t 52,.extract (.t 44) 1,none⟩,⟨.t 8,.mov (.t 51),none⟩,⟨.p 9,.mov (.t 52),none⟩]) (.seq (.reg [⟨.t 53,.mov (.p 9),none⟩,⟨.p 4,.mov (.t 53),none⟩]) (.ret))))
def cf_strconv_FormatInt_101 : CFunc :=
{ nargs := 2,ps := [0,1,4,5,6,7,9,11,17,23,34],results := [.slot 4],body := bd_strconv_FormatInt_101 }
def bd_strings_Builder_Grow : CCode :=
 .seq (.reg [⟨.t 4,.mov (.p 0),none⟩,⟨.t 5,.call F_strings_Builder_copyCheck [.t 4],none⟩]) (.seq (.seq (.reg [⟨.t 6,.mov (.p 1),none⟩,⟨.p 7,.bin .lss (.t 6) (.c (.int .i64 0)),none⟩]) (.cond (.p 7) (.stuck) (.skip))) (.seq (.dreg [⟨⟨.t 9,.mov (.p 0),none⟩,false,false,[]⟩,
 ⟨⟨.t 10,.nilCheck (.t 9),none⟩,false,false,[]⟩,⟨⟨.t 11,.fieldAddr 1 (.t 10),none⟩,false,false,[]⟩,⟨⟨.t 12,.load1 (.t 11),none⟩,false,false,[]⟩,⟨⟨.t 13,.capSl (.t 12),none⟩,false,false,[]⟩,
 ⟨⟨.t 14,.mov (.p 0),none⟩,false,false,[]⟩,⟨⟨.t 15,.nilCheck (.t 14),none⟩,false,false,[]⟩,⟨⟨.t 16,.fieldAddr 1 (.t 15),none⟩,false,false,[]⟩,⟨⟨.t 17,.load1 (.t 16),none⟩,false,false,[]⟩,
 ⟨⟨.t 18,.lenSl (.t 17),none⟩,false,false,[]⟩,⟨⟨.t 19,.bin .sub (.t 13) (.t 18),none⟩,false,false,[]⟩,⟨⟨.t 20,.mov (.p 1),none⟩,false,false,[]⟩,⟨⟨.p 21,.bin .lss (.t 19) (.t 20),none⟩,false,false,[]⟩]) (.cond (.p 21) (.reg [⟨.t 22,.mov (.p 0),none⟩,
 ⟨.t 23,.mov (.p 1),none⟩,⟨.t 24,.call F_strings_Builder_grow [.t 22,.t 23],none⟩]) (.skip))))
def cf_strings_Builder_Grow : CFunc :=
{ nargs := 2,ps := [0,1,7,21],results := [],body := bd_strings_Builder_Grow }
def bd_strings_Builder_WriteByte : CCode :=
 .seq (.reg [⟨.p 4,.mov (.c (.nili)),none⟩]) (.seq (.reg [⟨.t 5,.mov (.p 0),none⟩,⟨.t 6,.call F_strings_Builder_copyCheck [.t 5],none⟩]) (.seq (.reg [⟨.t 7,.mov (.p 0),none⟩,⟨.t 8,.mov (.p 0),none⟩,
 ⟨.t 9,.nilCheck (.t 8),none⟩,⟨.t 10,.fieldAddr 1 (.t 9),none⟩,⟨.t 11,.load1 (.t 10),none⟩,⟨.t 12,.mov (.p 1),none⟩,⟨.t 13,.lit [.int .u8 0] 1 [(0,1,.t 12)],none⟩,⟨.t 14,.ext (.appb T_uint8) [.t 11,.t 13],none⟩,
 ⟨.t 15,.nilCheck (.t 7),none⟩,⟨.t 16,.fieldAddr 1 (.t 15),none⟩,⟨.no,.ext .stT [.t 16,.t 14],none⟩]) (.seq (.reg [⟨.p 4,.mov (.c (.nili)),none⟩]) (.ret))))
def cf_strings_Builder_WriteByte : CFunc :=
{ nargs := 2,ps := [0,1,4],results := [.slot 4],body := bd_strings_Builder_WriteByte }
def bd_runes_number : CCode :=
 .seq (.reg [⟨.p 2,.mov (.c (.int .i64 0)),none⟩]) (.seq (.block 0 [0] (.seq (.reg [⟨.t 4,.mov (.p 0),none⟩,⟨.t 5,.bin .lss (.t 4) (.c (.int .i32 0)),none⟩,⟨.p 3,.mov (.t 5),none⟩]) (.cond (.p 3) (.seq (.reg [⟨.p 2,.mov (.c (.int .i64 0)),none⟩]) (.ret)) (.seq (.reg [⟨.t 7,.mov (.p 0),none⟩,
 ⟨.t 8,.bin .lss (.t 7) (.c (.int .i32 55296)),none⟩,⟨.p 6,.mov (.t 8),none⟩]) (.cond (.p 6) (.seq (.reg [⟨.t 9,.mov (.p 0),none⟩,⟨.t 10,.convI .i64 (.t 9),none⟩,⟨.p 2,.mov (.t 10),none⟩]) (.ret)) (.seq (.reg [⟨.t 12,.mov (.p 0),none⟩,
 ⟨.t 13,.bin .leq (.t 12) (.c (.int .i32 57343)),none⟩,⟨.p 11,.mov (.t 13),none⟩]) (.cond (.p 11) (.seq (.reg [⟨.p 2,.mov (.c (.int .i64 55296)),none⟩]) (.ret)) (.skip)))))))) (.seq (.reg [⟨.t 14,.mov (.p 0),none⟩,
 ⟨.t 15,.convI .i64 (.t 14),none⟩,⟨.t 16,.minmax false [.t 15,.c (.int .i64 1114112)],none⟩,⟨.t 17,.bin .sub (.t 16) (.c (.int .i64 2048)),none⟩,⟨.p 2,.mov (.t 17),none⟩]) (.ret)))
def cf_runes_number : CFunc :=
{ nargs := 1,ps := [0,2,3,6,11],results := [.slot 2],body := bd_runes_number }
def bd_runes_behind : CCode :=
 .seq (.reg [⟨.p 2,.mov (.c (.int .i64 0)),none⟩]) (.seq (.reg [⟨.t 4,.mov (.p 0),none⟩,⟨.t 5,.call F_runes_number [.t 4],none⟩,⟨.p 3,.mov (.t 5),none⟩]) (.seq (.seq (.reg [⟨.t 6,.mov (.p 0),none⟩,
 ⟨.p 7,.call F_runes_is [.t 6],none⟩]) (.cond (.p 7) (.reg [⟨.t 8,.mov (.p 3),none⟩,⟨.t 9,.bin .add (.t 8) (.c (.int .i64 1)),none⟩,⟨.p 3,.mov (.t 9),none⟩]) (.skip))) (.seq (.reg [⟨.t 10,.mov (.p 3),none⟩,
 ⟨.p 2,.mov (.t 10),none⟩]) (.ret))))
def cf_runes_behind : CFunc :=
{ nargs := 1,ps := [0,2,3,7],results := [.slot 2],body := bd_runes_behind }
def bd_slices_SortFunc_runes_span_runes_span : CCode :=
 .seq (.reg [⟨.t 5,.mov (.p 0),none⟩,⟨.t 6,.lenSl (.t 5),none⟩,⟨.p 4,.mov (.t 6),none⟩]) (.reg [⟨.t 7,.mov (.p 0),none⟩,⟨.t 8,.mov (.p 4),none⟩,⟨.t 9,.mov (.p 4),none⟩,⟨.t 10,.convI .u64 (.t 9),none⟩,
 ⟨.t 11,.call F_bits_Len [.t 10],none⟩,⟨.t 12,.mov (.p 1),none⟩,⟨.t 13,.call F_slices_pdqsortCmpFunc_runes_span [.t 7,.c (.int .i64 0),.t 8,.t 11,.t 12],none⟩])
def cf_slices_SortFunc_runes_span_runes_span : CFunc :=
{ nargs := 2,ps := [0,1,4],results := [],body := bd_slices_SortFunc_runes_span_runes_span }
def bd_runes_spans_1 : CCode :=
 .seq (.reg [⟨.p 2,.box (.p 0),none⟩,⟨.p 3,.box (.p 1),none⟩,⟨.p 4,.mov (.c (.int .i64 0)),none⟩]) (.seq (.reg [⟨.t 5,.fieldAddr 0 (.p 2),none⟩,⟨.t 6,.load1 (.t 5),none⟩,⟨.t 7,.fieldAddr 0 (.p 3),none⟩,
 ⟨.t 8,.load1 (.t 7),none⟩,⟨.t 9,.call F_cmp_Compare_int [.t 6,.t 8],none⟩,⟨.p 4,.mov (.t 9),none⟩]) (.ret))
def cf_runes_spans_1 : CFunc :=
{ nargs := 2,ps := [0,1,2,3,4],results := [.slot 4],body := bd_runes_spans_1 }
def bd_cmp_Compare_int : CCode :=
 .seq (.reg [⟨.p 4,.mov (.c (.int .i64 0)),none⟩]) (.seq (.reg [⟨.t 7,.mov (.p 0),none⟩,⟨.t 8,.call F_cmp_isNaN_int [.t 7],none⟩,⟨.p 5,.mov (.t 8),none⟩]) (.seq (.reg [⟨.t 9,.mov (.p 1),none⟩,
 ⟨.t 10,.call F_cmp_isNaN_int [.t 9],none⟩,⟨.p 6,.mov (.t 10),none⟩]) (.seq (.seq (.reg [⟨.p 11,.mov (.p 5),none⟩]) (.cond (.p 11) (.seq (.seq (.reg [⟨.p 12,.mov (.p 6),none⟩]) (.cond (.p 12) (.seq (.reg [⟨.p 4,.mov (.c (.int .i64 0)),none⟩]) (.ret)) (.skip))) (.seq (.reg [⟨.p 4,.mov (.c (.int .i64 (-1))),none⟩]) (.ret))) (.skip))) (.seq (.seq (.reg [⟨.p 13,.mov (.p 6),none⟩]) (.cond (.p 13) (.seq (.reg [⟨.p 4,.mov (.c (.int .i64 1)),none⟩]) (.ret)) (.skip))) (.seq (.seq (.reg [⟨.t 14,.mov (.p 0),none⟩,
 ⟨.t 15,.mov (.p 1),none⟩,⟨.p 16,.bin .lss (.t 14) (.t 15),none⟩]) (.cond (.p 16) (.seq (.reg [⟨.p 4,.mov (.c (.int .i64 (-1))),none⟩]) (.ret)) (.skip))) (.seq (.seq (.reg [⟨.t 17,.mov (.p 0),none⟩,
 ⟨.t 18,.mov (.p 1),none⟩,⟨.p 19,.bin .gtr (.t 17) (.t 18),none⟩]) (.cond (.p 19) (.seq (.reg [⟨.p 4,.mov (.c (.int .i64 1)),none⟩]) (.ret)) (.skip))) (.seq (.reg [⟨.p 4,.mov (.c (.int .i64 0)),none⟩]) (.ret))))))))
def cf_cmp_Compare_int : CFunc :=
{ nargs := 2,ps := [0,1,4,5,6,11,12,13,16,19],results := [.slot 4],body := bd_cmp_Compare_int }
def bd_gram_parts : CCode :=
 .seq (.reg [⟨.p 2,.mov (.c (.int .i64 0)),none⟩]) (.seq (.seq (.reg [⟨.p 3,.mov (.p 0),none⟩]) (.block 0 [] (.seq (.seq (.reg [⟨.t 5,.bin .eql (.p 3) (.c (.int .i64 1)),none⟩,⟨.p 4,.mov (.t 5),none⟩]) (.cond (.p 4) (.skip) (.seq (.reg [⟨.t 6,.bin .eql (.p 3) (.c (.int .i64 2)),none⟩,
 ⟨.p 4,.mov (.t 6),none⟩]) (.cond (.p 4) (.skip) (.reg [⟨.t 7,.bin .eql (.p 3) (.c (.int .i64 4)),none⟩,⟨.p 4,.mov (.t 7),none⟩]))))) (.cond (.p 4) (.seq (.reg [⟨.p 2,.mov (.c (.int .i64 0)),none⟩]) (.ret)) (.seq (.seq (.reg [⟨.t 9,.bin .eql (.p 3) (.c (.int .i64 3)),none⟩,
 ⟨.p 8,.mov (.t 9),none⟩]) (.cond (.p 8) (.skip) (.stuck))) (.cond (.p 8) (.seq (.reg [⟨.p 2,.mov (.c (.int .i64 1)),none⟩]) (.ret)) (.seq (.seq (.stuck) (.cond (.p 11) (.skip) (.stuck))) (.cond (.p 11) (.seq (.stuck) (.ret)) (.skip))))))))) (.seq (.stuck) (.ret)))
def cf_gram_parts : CFunc :=
{ nargs := 1,ps := [0,2,3,4,8,11],results := [.slot 2],body := bd_gram_parts }
def lb_slices_IndexFunc_api_Pat_api_Pat_0 : CCode :=
 .seq (.reg [⟨.p 9,.bin .lss (.p 8) (.p 7),none⟩]) (.seq (.cond (.p 9) (.skip) (.exit 0)) (.seq (.block 1 [0,1,7,8] (.seq (.reg [⟨.t 10,.mov (.p 8),none⟩,⟨.p 5,.mov (.t 10),none⟩]) (.seq (.reg [⟨.t 11,.mov (.p 1),none⟩,
 ⟨.t 12,.mov (.p 0),none⟩,⟨.t 13,.mov (.p 5),none⟩,⟨.t 14,.idxAddr 4 (.t 12) (.t 13),none⟩,⟨.t 15,.loadN 4 (.t 14),none⟩,⟨.p 16,.callV (.t 11) [.t 15],none⟩]) (.cond (.p 16) (.seq (.stuck) (.ret)) (.skip))))) (.reg [⟨.t 18,.bin .add (.p 8) (.c (.int .i64 1)),none⟩,
 ⟨.p 8,.mov (.t 18),none⟩])))
def bd_slices_IndexFunc_api_Pat_api_Pat : CCode :=
 .seq (.reg [⟨.p 4,.mov (.c (.int .i64 0)),none⟩]) (.seq (.seq (.reg [⟨.t 6,.mov (.p 0),none⟩,⟨.p 7,.lenSl (.t 6),none⟩,⟨.p 8,.mov (.c (.int .i64 0)),none⟩]) (.block 0 [] (.loop [0,1,7,8] lb_slices_IndexFunc_api_Pat_api_Pat_0))) (.seq (.reg [⟨.p 4,.mov (.c (.int .i64 (-1))),none⟩]) (.ret)))
def cf_slices_IndexFunc_api_Pat_api_Pat : CFunc :=
{ nargs := 2,ps := [0,1,4,5,7,8,9,16],results := [.slot 4],body := bd_slices_IndexFunc_api_Pat_api_Pat }
def bd_gram_few_1 : CCode :=
 .seq (.reg [⟨.p 4,.box (.p 0),none⟩,⟨.p 5,.box (.p 1),none⟩,⟨.p 6,.mov (.c (.bool false)),none⟩]) (.seq (.reg [⟨.t 7,.load1 (.p 2),none⟩,⟨.t 8,.bin .sub (.t 7) (.c (.int .i64 1)),none⟩,
 ⟨.no,.store 1 (.p 2) (.t 8),none⟩]) (.seq (.reg [⟨.t 9,.load1 (.p 2),none⟩,⟨.t 10,.bin .geq (.t 9) (.c (.int .i64 0)),none⟩,⟨.t 11,.mov (.t 10),none⟩,⟨.t 12,.load1 (.p 5),some (.t 11,true)⟩,
 ⟨.t 13,.bin .leq (.t 12) (.c (.int .i64 12)),some (.t 11,true)⟩,⟨.t 14,.pick (.t 11) (.t 13) (.c (.bool false)),none⟩,⟨.t 15,.mov (.t 14),none⟩,⟨.t 16,.fieldAddr 3 (.p 4),some (.t 15,true)⟩,
 ⟨.t 17,.load1 (.t 16),some (.t 15,true)⟩,⟨.t 18,.mkFn F_gram_few_1_1 [.p 3,.p 5],some (.t 15,true)⟩,⟨.t 19,.call F_slices_ContainsFunc_api_Pat_api_Pat [.t 17,.t 18],some (.t 15,true)⟩,
 ⟨.t 20,.un .not (.t 19),some (.t 15,true)⟩,⟨.t 21,.pick (.t 15) (.t 20) (.c (.bool false)),none⟩,⟨.p 6,.mov (.t 21),none⟩]) (.ret)))
def cf_gram_few_1 : CFunc :=
{ nargs := 4,ps := [0,1,2,3,4,5,6],results := [.slot 6],body := bd_gram_few_1 }
def bd_gram_few_1_1 : CCode :=
 .seq (.reg [⟨.p 3,.box (.p 0),none⟩,⟨.p 4,.mov (.c (.bool false)),none⟩]) (.seq (.reg [⟨.t 5,.load1 (.p 1),none⟩,⟨.t 6,.loadN 4 (.p 3),none⟩,⟨.t 7,.load1 (.p 2),none⟩,⟨.t 8,.bin .add (.t 7) (.c (.int .i64 1)),none⟩,
 ⟨.t 9,.callV (.t 5) [.t 6,.t 8],none⟩,⟨.t 10,.un .not (.t 9),none⟩,⟨.p 4,.mov (.t 10),none⟩]) (.ret))
def cf_gram_few_1_1 : CFunc :=
{ nargs := 3,ps := [0,1,2,3,4],results := [.slot 4],body := bd_gram_few_1_1 }
def lb_goboref3_pick_0 : CCode :=
 .seq (.seq (.reg [⟨.t 23,.mov (.p 11),none⟩,⟨.t 24,.bin .add (.t 23) (.c (.int .i64 1)),none⟩,⟨.t 25,.mov (.p 8),none⟩,⟨.t 26,.lenSl (.t 25),none⟩,⟨.p 27,.bin .lss (.t 24) (.t 26),none⟩]) (.cond (.p 27) (.skip) (.exit 0))) (.seq (.block 1 [0,1,2,8,9,10,11] (.seq (.dreg [⟨⟨.t 30,.mov (.p 0),none⟩,false,false,[]⟩,
 ⟨⟨.t 31,.mov (.p 8),none⟩,false,false,[]⟩,⟨⟨.t 32,.mov (.p 11),none⟩,false,false,[]⟩,⟨⟨.t 33,.idxAddr 1 (.t 31) (.t 32),none⟩,false,false,[]⟩,⟨⟨.t 34,.load1 (.t 33),none⟩,false,false,[]⟩,
 ⟨⟨.t 35,.call F_goboref3_in [.t 30,.t 34],none⟩,true,false,[]⟩,⟨⟨.t 36,.mov (.p 1),none⟩,false,false,[]⟩,⟨⟨.t 37,.mov (.p 8),none⟩,false,false,[]⟩,⟨⟨.t 38,.mov (.p 11),none⟩,false,false,[]⟩,
 ⟨⟨.t 39,.idxAddr 1 (.t 37) (.t 38),none⟩,false,false,[]⟩,⟨⟨.t 40,.load1 (.t 39),none⟩,false,false,[5]⟩,⟨⟨.t 41,.call F_goboref3_in [.t 36,.t 40],none⟩,false,false,[]⟩,⟨⟨.p 12,.mov (.t 35),none⟩,false,false,[]⟩,
 ⟨⟨.p 13,.mov (.t 41),none⟩,false,false,[]⟩]) (.seq (.reg [⟨.t 42,.mov (.p 2),none⟩,⟨.t 43,.bin .eql (.t 42) (.c (.int .i64 1)),none⟩,⟨.t 44,.mov (.t 43),none⟩,⟨.t 45,.mov (.p 12),some (.t 44,true)⟩,
 ⟨.t 46,.pick (.t 44) (.t 45) (.c (.bool false)),none⟩,⟨.t 47,.mov (.t 46),none⟩,⟨.t 48,.mov (.p 2),some (.t 47,false)⟩,⟨.t 49,.bin .eql (.t 48) (.c (.int .i64 2)),some (.t 47,false)⟩,
 ⟨.t 50,.mov (.t 49),some (.t 47,false)⟩,⟨.t 51,.mov (.p 13),some (.t 50,true)⟩,⟨.t 52,.pick (.t 50) (.t 51) (.c (.bool false)),some (.t 47,false)⟩,⟨.t 53,.pick (.t 47) (.c (.bool true)) (.t 52),none⟩,
 ⟨.t 54,.mov (.t 53),none⟩,⟨.t 55,.mov (.p 2),some (.t 54,false)⟩,⟨.t 56,.bin .eql (.t 55) (.c (.int .i64 3)),some (.t 54,false)⟩,⟨.t 57,.mov (.t 56),some (.t 54,false)⟩,⟨.t 58,.mov (.p 12),some (.t 57,true)⟩,
 ⟨.t 59,.mov (.t 58),some (.t 57,true)⟩,⟨.t 60,.mov (.p 13),some (.t 59,false)⟩,⟨.t 61,.pick (.t 59) (.c (.bool true)) (.t 60),some (.t 57,true)⟩,⟨.t 62,.pick (.t 57) (.t 61) (.c (.bool false)),some (.t 54,false)⟩,
 ⟨.t 63,.pick (.t 54) (.c (.bool true)) (.t 62),none⟩,⟨.t 64,.mov (.t 63),none⟩,⟨.t 65,.mov (.p 2),some (.t 64,false)⟩,⟨.t 66,.bin .eql (.t 65) (.c (.int .i64 4)),some (.t 64,false)⟩,
 ⟨.t 67,.mov (.t 66),some (.t 64,false)⟩,⟨.t 68,.mov (.p 12),some (.t 67,true)⟩,⟨.t 69,.pick (.t 67) (.t 68) (.c (.bool false)),some (.t 64,false)⟩,⟨.t 70,.mov (.t 69),some (.t 64,false)⟩,
 ⟨.t 71,.mov (.p 13),some (.t 70,true)⟩,⟨.t 72,.pick (.t 70) (.t 71) (.c (.bool false)),some (.t 64,false)⟩,⟨.t 73,.pick (.t 64) (.c (.bool true)) (.t 72),none⟩,⟨.t 74,.mov (.t 73),none⟩,
 ⟨.t 75,.mov (.p 2),some (.t 74,false)⟩,⟨.t 76,.bin .eql (.t 75) (.c (.int .i64 5)),some (.t 74,false)⟩,⟨.t 77,.mov (.t 76),some (.t 74,false)⟩,⟨.t 78,.mov (.p 12),some (.t 77,true)⟩,
 ⟨.t 79,.un .not (.t 78),some (.t 77,true)⟩,⟨.t 80,.pick (.t 77) (.t 79) (.c (.bool false)),some (.t 74,false)⟩,⟨.t 81,.pick (.t 74) (.c (.bool true)) (.t 80),none⟩,⟨.p 14,.mov (.t 81),none⟩]) (.seq (.seq (.reg [⟨.t 82,.mov (.p 14),none⟩,
 ⟨.t 83,.mov (.t 82),none⟩,⟨.t 84,.mov (.p 10),some (.t 83,true)⟩,⟨.t 85,.un .not (.t 84),some (.t 83,true)⟩,⟨.p 86,.pick (.t 83) (.t 85) (.c (.bool false)),none⟩]) (.cond (.p 86) (.reg [⟨.t 87,.mov (.p 9),none⟩,
 ⟨.t 88,.mov (.p 8),none⟩,⟨.t 89,.mov (.p 11),none⟩,⟨.t 90,.idxAddr 1 (.t 88) (.t 89),none⟩,⟨.t 91,.load1 (.t 90),none⟩,⟨.t 92,.call F_goboref3_at [.t 91],none⟩,⟨.t 93,.build [.int .i32 0,.int .i32 0] [(0,1,.t 92)],none⟩,
 ⟨.t 94,.lit [.int .i32 0,.int .i32 0] 1 [(0,2,.t 93)],none⟩,⟨.t 95,.append 2 8 (.t 87) (.t 94),none⟩,⟨.p 9,.mov (.t 95),none⟩]) (.skip))) (.seq (.seq (.reg [⟨.p 96,.mov (.p 14),none⟩]) (.cond (.p 96) (.reg [⟨.t 97,.mov (.p 9),none⟩,
 ⟨.t 98,.mov (.p 9),none⟩,⟨.t 99,.lenSl (.t 98),none⟩,⟨.t 100,.bin .sub (.t 99) (.c (.int .i64 1)),none⟩,⟨.t 101,.mov (.p 8),none⟩,⟨.t 102,.mov (.p 11),none⟩,⟨.t 103,.bin .add (.t 102) (.c (.int .i64 1)),none⟩,
 ⟨.t 104,.idxAddr 1 (.t 101) (.t 103),none⟩,⟨.t 105,.load1 (.t 104),none⟩,⟨.t 106,.bin .sub (.t 105) (.c (.int .i64 1)),none⟩,⟨.t 107,.call F_goboref3_at [.t 106],none⟩,⟨.t 108,.idxAddr 2 (.t 97) (.t 100),none⟩,
 ⟨.t 109,.fieldAddr 1 (.t 108),none⟩,⟨.no,.store 1 (.t 109) (.t 107),none⟩]) (.skip))) (.reg [⟨.t 110,.mov (.p 14),none⟩,⟨.p 10,.mov (.t 110),none⟩])))))) (.reg [⟨.t 28,.mov (.p 11),none⟩,
 ⟨.t 29,.bin .add (.t 28) (.c (.int .i64 1)),none⟩,⟨.p 11,.mov (.t 29),none⟩]))
def bd_goboref3_pick : CCode :=
 .seq (.reg [⟨.p 6,.mov (.c (.nils)),none⟩]) (.seq (.reg [⟨.t 15,.build [.int .i64 0,.int .i64 0] [(0,1,.c (.int .i64 0)),(1,1,.c (.int .i64 1112064))],none⟩,⟨.t 16,.lit [.int .i64 0,.int .i64 0] 1 [(0,2,.t 15)],none⟩,
 ⟨.t 17,.mov (.p 0),none⟩,⟨.t 18,.append 2 16 (.t 16) (.t 17),none⟩,⟨.t 19,.mov (.p 1),none⟩,⟨.t 20,.append 2 16 (.t 18) (.t 19),none⟩,⟨.p 7,.mov (.t 20),none⟩]) (.seq (.reg [⟨.t 21,.mov (.p 7),none⟩,
 ⟨.t 22,.call F_goboref3_cuts [.t 21],none⟩,⟨.p 8,.mov (.t 22),none⟩]) (.seq (.reg [⟨.p 9,.mov (.c (.nils)),none⟩]) (.seq (.reg [⟨.p 10,.mov (.c (.bool false)),none⟩]) (.seq (.seq (.reg [⟨.p 11,.mov (.c (.int .i64 0)),none⟩]) (.block 0 [9] (.loop [0,1,2,8,9,10,11] lb_goboref3_pick_0))) (.seq (.reg [⟨.t 111,.mov (.p 9),none⟩,
 ⟨.p 6,.mov (.t 111),none⟩]) (.ret)))))))
def cf_goboref3_pick : CFunc :=
{ nargs := 3,ps := [0,1,2,6,7,8,9,10,11,12,13,14,27,86,96],results := [.slot 6],body := bd_goboref3_pick }
def lb_goboref3_cells_0 : CCode :=
 .seq (.seq (.reg [⟨.t 7,.mov (.p 4),none⟩,⟨.t 8,.mov (.p 0),none⟩,⟨.t 9,.lenSl (.t 8),none⟩,⟨.p 10,.bin .lss (.t 7) (.t 9),none⟩]) (.cond (.p 10) (.skip) (.exit 0))) (.seq (.block 1 [0,3,4] (.seq (.seq (.dreg [⟨⟨.t 13,.mov (.p 0),none⟩,false,false,[]⟩,
 ⟨⟨.t 14,.mov (.p 4),none⟩,false,false,[]⟩,⟨⟨.t 15,.idxAddr 2 (.t 13) (.t 14),none⟩,false,false,[]⟩,⟨⟨.t 16,.fieldAddr 0 (.t 15),none⟩,false,false,[]⟩,⟨⟨.t 17,.load1 (.t 16),none⟩,false,false,[]⟩,
 ⟨⟨.t 18,.mov (.p 0),none⟩,false,false,[]⟩,⟨⟨.t 19,.mov (.p 4),none⟩,false,false,[]⟩,⟨⟨.t 20,.idxAddr 2 (.t 18) (.t 19),none⟩,false,false,[]⟩,⟨⟨.t 21,.fieldAddr 1 (.t 20),none⟩,false,false,[]⟩,
 ⟨⟨.t 22,.load1 (.t 21),none⟩,false,false,[]⟩,⟨⟨.t 23,.bin .gtr (.t 17) (.t 22),none⟩,false,false,[]⟩,⟨⟨.t 24,.mov (.t 23),none⟩,false,false,[]⟩,⟨⟨.t 25,.mov (.p 0),some (.t 24,false)⟩,false,false,[]⟩,
 ⟨⟨.t 26,.mov (.p 4),some (.t 24,false)⟩,false,false,[]⟩,⟨⟨.t 27,.idxAddr 2 (.t 25) (.t 26),some (.t 24,false)⟩,false,false,[]⟩,⟨⟨.t 28,.fieldAddr 1 (.t 27),some (.t 24,false)⟩,false,false,[]⟩,
 ⟨⟨.t 29,.load1 (.t 28),some (.t 24,false)⟩,false,false,[]⟩,⟨⟨.t 30,.bin .lss (.t 29) (.c (.int .i32 0)),some (.t 24,false)⟩,false,false,[]⟩,⟨⟨.t 31,.pick (.t 24) (.c (.bool true)) (.t 30),none⟩,false,false,[]⟩,
 ⟨⟨.t 32,.mov (.t 31),none⟩,false,false,[]⟩,⟨⟨.t 33,.mov (.p 0),some (.t 32,false)⟩,false,false,[]⟩,⟨⟨.t 34,.mov (.p 4),some (.t 32,false)⟩,false,false,[]⟩,⟨⟨.t 35,.idxAddr 2 (.t 33) (.t 34),some (.t 32,false)⟩,false,false,[]⟩,
 ⟨⟨.t 36,.fieldAddr 0 (.t 35),some (.t 32,false)⟩,false,false,[]⟩,⟨⟨.t 37,.load1 (.t 36),some (.t 32,false)⟩,false,false,[]⟩,⟨⟨.t 38,.bin .gtr (.t 37) (.c (.int .i32 1114111)),some (.t 32,false)⟩,false,false,[]⟩,
 ⟨⟨.p 39,.pick (.t 32) (.c (.bool true)) (.t 38),none⟩,false,false,[]⟩]) (.cond (.p 39) (.exit 1) (.skip))) (.seq (.dreg [⟨⟨.t 40,.mov (.p 0),none⟩,false,false,[]⟩,⟨⟨.t 41,.mov (.p 4),none⟩,false,false,[]⟩,
 ⟨⟨.t 42,.idxAddr 2 (.t 40) (.t 41),none⟩,false,false,[]⟩,⟨⟨.t 43,.fieldAddr 0 (.t 42),none⟩,false,false,[]⟩,⟨⟨.t 44,.load1 (.t 43),none⟩,false,false,[]⟩,⟨⟨.t 45,.convI .i64 (.t 44),none⟩,false,false,[]⟩,
 ⟨⟨.t 46,.call F_goboref3_place [.t 45,.c (.bool true)],none⟩,true,false,[]⟩,⟨⟨.t 47,.mov (.p 0),none⟩,false,false,[]⟩,⟨⟨.t 48,.mov (.p 4),none⟩,false,false,[]⟩,⟨⟨.t 49,.idxAddr 2 (.t 47) (.t 48),none⟩,false,false,[]⟩,
 ⟨⟨.t 50,.fieldAddr 1 (.t 49),none⟩,false,false,[]⟩,⟨⟨.t 51,.load1 (.t 50),none⟩,false,false,[6]⟩,⟨⟨.t 52,.convI .i64 (.t 51),none⟩,false,false,[]⟩,⟨⟨.t 53,.call F_goboref3_place [.t 52,.c (.bool false)],none⟩,false,false,[]⟩,
 ⟨⟨.t 54,.bin .add (.t 53) (.c (.int .i64 1)),none⟩,false,false,[]⟩,⟨⟨.p 5,.mov (.t 46),none⟩,false,false,[]⟩,⟨⟨.p 6,.mov (.t 54),none⟩,false,false,[]⟩]) (.seq (.reg [⟨.t 55,.mov (.p 5),none⟩,
 ⟨.t 56,.mov (.p 6),none⟩,⟨.p 57,.bin .lss (.t 55) (.t 56),none⟩]) (.cond (.p 57) (.reg [⟨.t 58,.mov (.p 3),none⟩,⟨.t 59,.mov (.p 5),none⟩,⟨.t 60,.mov (.p 6),none⟩,⟨.t 61,.build [.int .i64 0,.int .i64 0] [(0,1,.t 59),(1,1,.t 60)],none⟩,
 ⟨.t 62,.lit [.int .i64 0,.int .i64 0] 1 [(0,2,.t 61)],none⟩,⟨.t 63,.append 2 16 (.t 58) (.t 62),none⟩,⟨.p 3,.mov (.t 63),none⟩]) (.skip)))))) (.reg [⟨.t 11,.mov (.p 4),none⟩,⟨.t 12,.bin .add (.t 11) (.c (.int .i64 1)),none⟩,
 ⟨.p 4,.mov (.t 12),none⟩]))
def bd_goboref3_cells : CCode :=
 .seq (.reg [⟨.p 2,.mov (.c (.nils)),none⟩]) (.seq (.reg [⟨.p 3,.mov (.c (.nils)),none⟩]) (.seq (.seq (.reg [⟨.p 4,.mov (.c (.int .i64 0)),none⟩]) (.block 0 [3] (.loop [0,3,4] lb_goboref3_cells_0))) (.seq (.reg [⟨.t 64,.mov (.p 3),none⟩,
 ⟨.p 2,.mov (.t 64),none⟩]) (.ret))))
def cf_goboref3_cells : CFunc :=
{ nargs := 1,ps := [0,2,3,4,5,6,10,39,57],results := [.slot 2],body := bd_goboref3_cells }
def lb_runes_ranges_0 : CCode :=
 .seq (.reg [⟨.p 9,.bin .lss (.p 8) (.p 7),none⟩]) (.seq (.cond (.p 9) (.skip) (.exit 0)) (.seq (.block 1 [3,6,7,8] (.seq (.reg [⟨.t 10,.idxAddr 2 (.p 6) (.p 8),none⟩,⟨.t 11,.loadN 2 (.t 10),none⟩,
 ⟨.p 5,.alloc [.int .i64 0,.int .i64 0],none⟩,⟨.no,.store 2 (.p 5) (.t 11),none⟩]) (.dreg [⟨⟨.t 12,.mov (.p 3),none⟩,false,false,[]⟩,⟨⟨.t 13,.fieldAddr 0 (.p 5),none⟩,false,false,[]⟩,
 ⟨⟨.t 14,.load1 (.t 13),none⟩,false,false,[]⟩,⟨⟨.t 15,.call F_runes_value [.t 14],none⟩,true,false,[]⟩,⟨⟨.t 16,.fieldAddr 1 (.p 5),none⟩,false,false,[]⟩,⟨⟨.t 17,.load1 (.t 16),none⟩,false,false,[3]⟩,
 ⟨⟨.t 18,.bin .sub (.t 17) (.c (.int .i64 1)),none⟩,false,false,[]⟩,⟨⟨.t 19,.call F_runes_value [.t 18],none⟩,false,false,[]⟩,⟨⟨.t 20,.build [.int .i32 0,.int .i32 0] [(0,1,.t 15),(1,1,.t 19)],none⟩,false,false,[]⟩,
 ⟨⟨.t 21,.lit [.int .i32 0,.int .i32 0] 1 [(0,2,.t 20)],none⟩,false,false,[]⟩,⟨⟨.t 22,.append 2 8 (.t 12) (.t 21),none⟩,false,false,[]⟩,⟨⟨.p 3,.mov (.t 22),none⟩,false,false,[]⟩]))) (.reg [⟨.t 23,.bin .add (.p 8) (.c (.int .i64 1)),none⟩,
 ⟨.p 8,.mov (.t 23),none⟩])))
def bd_runes_ranges : CCode :=
 .seq (.reg [⟨.p 2,.mov (.c (.nils)),none⟩]) (.seq (.reg [⟨.p 3,.mov (.c (.nils)),none⟩]) (.seq (.seq (.reg [⟨.p 6,.mov (.p 0),none⟩,⟨.p 7,.lenSl (.p 6),none⟩,⟨.p 8,.mov (.c (.int .i64 0)),none⟩]) (.block 0 [3] (.loop [3,6,7,8] lb_runes_ranges_0))) (.seq (.reg [⟨.t 24,.mov (.p 3),none⟩,
 ⟨.p 2,.mov (.t 24),none⟩]) (.ret))))
def cf_runes_ranges : CFunc :=
{ nargs := 1,ps := [0,2,3,5,6,7,8,9],results := [.slot 2],body := bd_runes_ranges }
def bd_decode_Dec_more : CCode :=
 .seq (.reg [⟨.p 4,.alloc [.bool false],none⟩]) (.seq (.reg [⟨.t 5,.mkFn F_decode_Dec_more_1 [.p 4],none⟩,⟨.no,.dfr (.t 5) [],none⟩]) (.seq (.reg [⟨.t 6,.mov (.p 0),none⟩,⟨.t 7,.mov (.p 0),none⟩,
 ⟨.t 8,.nilCheck (.t 7),none⟩,⟨.t 9,.fieldAddr 0 (.t 8),none⟩,⟨.t 10,.load1 (.t 9),none⟩,⟨.t 11,.mov (.p 1),none⟩,⟨.t 12,.call F_decode_grow [.t 10,.t 11],none⟩,⟨.t 13,.nilCheck (.t 6),none⟩,
 ⟨.t 14,.fieldAddr 0 (.t 13),none⟩,⟨.no,.store 1 (.t 14) (.t 12),none⟩]) (.seq (.seq (.dreg [⟨⟨.t 15,.mov (.p 0),none⟩,false,false,[]⟩,⟨⟨.t 16,.nilCheck (.t 15),none⟩,false,false,[]⟩,
 ⟨⟨.t 17,.fieldAddr 0 (.t 16),none⟩,false,false,[]⟩,⟨⟨.t 18,.load1 (.t 17),none⟩,true,false,[]⟩,⟨⟨.t 19,.lenSl (.t 18),none⟩,false,false,[]⟩,⟨⟨.t 20,.mov (.p 0),none⟩,false,false,[]⟩,
 ⟨⟨.t 21,.nilCheck (.t 20),none⟩,false,false,[]⟩,⟨⟨.t 22,.fieldAddr 0 (.t 21),none⟩,false,false,[]⟩,⟨⟨.t 23,.load1 (.t 22),none⟩,false,false,[]⟩,⟨⟨.t 24,.idxAddr 1 (.t 23) (.c (.int .i64 0)),none⟩,false,false,[]⟩,
 ⟨⟨.t 25,.load1 (.t 24),none⟩,false,false,[]⟩,⟨⟨.t 26,.call F_decode_long [.t 25],none⟩,false,false,[3]⟩,⟨⟨.p 27,.bin .eql (.t 19) (.t 26),none⟩,false,false,[]⟩]) (.cond (.p 27) (.reg [⟨.t 28,.mov (.p 0),none⟩,
 ⟨.t 29,.call F_decode_Dec_tell [.t 28,.c (.bool false),.c (.bool false)],none⟩]) (.skip))) (.seq (.reg [⟨.no,.store 1 (.p 4) (.c (.bool true)),none⟩]) (.ret)))))
def cf_decode_Dec_more : CFunc :=
{ nargs := 2,ps := [0,1,4,27],results := [.cell1 4],body := bd_decode_Dec_more }
def lb_utf8_DecodeRune_0 : CCode :=
 .seq (.reg [⟨.p 9,.bin .lss (.p 8) (.p 7),none⟩]) (.seq (.cond (.p 9) (.skip) (.exit 0)) (.seq (.block 1 [0,6,7,8] (.seq (.reg [⟨.t 10,.idxAddr 1 (.p 6) (.p 8),none⟩,⟨.t 11,.load1 (.t 10),none⟩,
 ⟨.p 5,.mov (.t 11),none⟩]) (.seq (.seq (.reg [⟨.t 12,.mov (.p 5),none⟩,⟨.p 13,.bin .lss (.t 12) (.c (.int .u8 128)),none⟩]) (.cond (.p 13) (.seq (.reg [⟨.t 14,.mov (.p 5),none⟩,⟨.t 15,.convI .i32 (.t 14),none⟩,
 ⟨.p 2,.mov (.t 15),none⟩,⟨.p 3,.mov (.c (.int .i64 1)),none⟩]) (.ret)) (.skip))) (.exit 0)))) (.reg [⟨.t 16,.bin .add (.p 8) (.c (.int .i64 1)),none⟩,⟨.p 8,.mov (.t 16),none⟩])))
def bd_utf8_DecodeRune : CCode :=
 .seq (.reg [⟨.p 2,.mov (.c (.int .i32 0)),none⟩,⟨.p 3,.mov (.c (.int .i64 0)),none⟩]) (.seq (.seq (.reg [⟨.p 6,.mov (.p 0),none⟩,⟨.p 7,.lenSl (.p 6),none⟩,⟨.p 8,.mov (.c (.int .i64 0)),none⟩]) (.block 0 [0] (.loop [0,6,7,8] lb_utf8_DecodeRune_0))) (.seq (.reg [⟨.t 18,.mov (.p 0),none⟩,
 ⟨.t 19,.call F_utf8_decodeRuneSlow [.t 18],none⟩,⟨.t 17,.mov (.t 19),none⟩,⟨.t 20,.extract (.t 17) 0,none⟩,⟨.t 21,.extract (.t 17) 1,none⟩,⟨.p 2,.mov (.t 20),none⟩,⟨.p 3,.mov (.t 21),none⟩]) (.ret)))
def cf_utf8_DecodeRune : CFunc :=
{ nargs := 1,ps := [0,2,3,5,6,7,8,9,13],results := [.slot 2,.slot 3],body := bd_utf8_DecodeRune }
def bd_runes_Not_1 : CCode :=
 .seq (.reg [⟨.t 4,.load1 (.p 1),none⟩,⟨.t 5,.mov (.p 0),none⟩,⟨.p 6,.bin .lss (.t 4) (.t 5),none⟩]) (.cond (.p 6) (.reg [⟨.t 7,.load1 (.p 2),none⟩,⟨.t 8,.load1 (.p 1),none⟩,⟨.t 9,.mov (.p 0),none⟩,
 ⟨.t 10,.build [.int .i64 0,.int .i64 0] [(0,1,.t 8),(1,1,.t 9)],none⟩,⟨.t 11,.lit [.int .i64 0,.int .i64 0] 1 [(0,2,.t 10)],none⟩,⟨.t 12,.append 2 16 (.t 7) (.t 11),none⟩,⟨.no,.store 1 (.p 2) (.t 12),none⟩]) (.skip))
def cf_runes_Not_1 : CFunc :=
{ nargs := 3,ps := [0,1,2,6],results := [],body := bd_runes_Not_1 }
def lb_word_hasRune_0 : CCode :=
 .seq (.reg [⟨.p 9,.nextStr (.p 8),none⟩,⟨.p 10,.extract (.p 9) 0,none⟩]) (.seq (.cond (.p 10) (.skip) (.exit 0)) (.block 1 [1,8] (.seq (.reg [⟨.t 11,.extract (.p 9) 2,none⟩,⟨.p 6,.mov (.t 11),none⟩]) (.seq (.reg [⟨.t 12,.mov (.p 6),none⟩,
 ⟨.t 13,.mov (.p 1),none⟩,⟨.p 14,.bin .eql (.t 12) (.t 13),none⟩]) (.cond (.p 14) (.seq (.reg [⟨.p 4,.mov (.c (.bool true)),none⟩]) (.ret)) (.skip))))))
def bd_word_hasRune : CCode :=
 .seq (.reg [⟨.p 4,.mov (.c (.bool false)),none⟩]) (.seq (.seq (.reg [⟨.t 7,.mov (.p 0),none⟩,⟨.p 8,.rangeStr (.t 7),none⟩]) (.block 0 [] (.loop [1,8] lb_word_hasRune_0))) (.seq (.reg [⟨.p 4,.mov (.c (.bool false)),none⟩]) (.ret)))
def cf_word_hasRune : CFunc :=
{ nargs := 2,ps := [0,1,4,6,8,9,10,14],results := [.slot 4],body := bd_word_hasRune }
def lb_word_Reader_number_0 : CCode :=
 .seq (.seq (.reg [⟨.t 8,.mov (.p 4),none⟩,⟨.p 9,.bin .lss (.t 8) (.c (.int .i64 6)),none⟩]) (.cond (.p 9) (.skip) (.exit 0))) (.seq (.block 1 [0,3,4] (.seq (.reg [⟨.t 12,.mov (.p 0),none⟩,
 ⟨.t 13,.call F_word_Reader_Peek [.t 12],none⟩,⟨.t 14,.call F_word_hex [.t 13],none⟩,⟨.p 5,.mov (.t 14),none⟩]) (.seq (.seq (.reg [⟨.t 15,.mov (.p 5),none⟩,⟨.t 16,.bin .lss (.t 15) (.c (.int .i32 0)),none⟩,
 ⟨.t 17,.mov (.t 16),none⟩,⟨.t 18,.mov (.p 3),some (.t 17,false)⟩,⟨.t 19,.bin .mul (.t 18) (.c (.int .i32 16)),some (.t 17,false)⟩,⟨.t 20,.mov (.p 5),some (.t 17,false)⟩,⟨.t 21,.bin .add (.t 19) (.t 20),some (.t 17,false)⟩,
 ⟨.t 22,.bin .gtr (.t 21) (.c (.int .i32 1114111)),some (.t 17,false)⟩,⟨.p 23,.pick (.t 17) (.c (.bool true)) (.t 22),none⟩]) (.cond (.p 23) (.exit 0) (.skip))) (.seq (.reg [⟨.t 24,.mov (.p 3),none⟩,
 ⟨.t 25,.bin .mul (.t 24) (.c (.int .i32 16)),none⟩,⟨.t 26,.mov (.p 5),none⟩,⟨.t 27,.bin .add (.t 25) (.t 26),none⟩,⟨.p 3,.mov (.t 27),none⟩]) (.reg [⟨.t 28,.mov (.p 0),none⟩,⟨.t 29,.nilCheck (.t 28),none⟩,
 ⟨.t 30,.fieldAddr 1 (.t 29),none⟩,⟨.t 31,.load1 (.t 30),none⟩,⟨.t 32,.bin .add (.t 31) (.c (.int .i64 1)),none⟩,⟨.t 33,.nilCheck (.t 28),none⟩,⟨.t 34,.fieldAddr 1 (.t 33),none⟩,⟨.no,.store 1 (.t 34) (.t 32),none⟩]))))) (.reg [⟨.t 10,.mov (.p 4),none⟩,
 ⟨.t 11,.bin .add (.t 10) (.c (.int .i64 1)),none⟩,⟨.p 4,.mov (.t 11),none⟩]))
def bd_word_Reader_number : CCode :=
 .seq (.reg [⟨.p 2,.mov (.c (.int .i32 0)),none⟩]) (.seq (.reg [⟨.t 6,.mov (.p 0),none⟩,⟨.t 7,.call F_word_Reader_Must [.t 6,.c (.int .i32 123)],none⟩]) (.seq (.reg [⟨.p 3,.mov (.c (.int .i32 0)),none⟩]) (.seq (.reg [⟨.p 4,.mov (.c (.int .i64 0)),none⟩]) (.seq (.block 0 [0,3,4] (.loop [0,3,4] lb_word_Reader_number_0)) (.seq (.seq (.reg [⟨.t 35,.mov (.p 4),none⟩,
 ⟨.t 36,.bin .eql (.t 35) (.c (.int .i64 0)),none⟩,⟨.t 37,.mov (.t 36),none⟩,⟨.t 38,.mov (.p 0),some (.t 37,false)⟩,⟨.t 39,.call F_word_Reader_Peek [.t 38],some (.t 37,false)⟩,⟨.t 40,.bin .neq (.t 39) (.c (.int .i32 125)),some (.t 37,false)⟩,
 ⟨.t 41,.pick (.t 37) (.c (.bool true)) (.t 40),none⟩,⟨.t 42,.mov (.t 41),none⟩,⟨.t 43,.mov (.p 3),some (.t 42,false)⟩,⟨.t 44,.bin .geq (.t 43) (.c (.int .i32 55296)),some (.t 42,false)⟩,
 ⟨.t 45,.mov (.t 44),some (.t 42,false)⟩,⟨.t 46,.mov (.p 3),some (.t 45,true)⟩,⟨.t 47,.bin .leq (.t 46) (.c (.int .i32 57343)),some (.t 45,true)⟩,⟨.t 48,.pick (.t 45) (.t 47) (.c (.bool false)),some (.t 42,false)⟩,
 ⟨.p 49,.pick (.t 42) (.c (.bool true)) (.t 48),none⟩]) (.cond (.p 49) (.reg [⟨.t 50,.mov (.p 0),none⟩,⟨.t 51,.call F_word_Reader_At [.t 50],none⟩,⟨.t 52,.call F_word_Fail [.c (.int .i64 3),.t 51],none⟩]) (.skip))) (.seq (.reg [⟨.t 53,.mov (.p 0),none⟩,
 ⟨.t 54,.nilCheck (.t 53),none⟩,⟨.t 55,.fieldAddr 1 (.t 54),none⟩,⟨.t 56,.load1 (.t 55),none⟩,⟨.t 57,.bin .add (.t 56) (.c (.int .i64 1)),none⟩,⟨.t 58,.nilCheck (.t 53),none⟩,⟨.t 59,.fieldAddr 1 (.t 58),none⟩,
 ⟨.no,.store 1 (.t 59) (.t 57),none⟩]) (.seq (.reg [⟨.t 60,.mov (.p 3),none⟩,⟨.p 2,.mov (.t 60),none⟩]) (.ret))))))))
def cf_word_Reader_number : CFunc :=
{ nargs := 1,ps := [0,2,3,4,5,9,23,49],results := [.slot 2],body := bd_word_Reader_number }
def bd_slices_Contains_string_string : CCode :=
 .seq (.reg [⟨.p 4,.mov (.c (.bool false)),none⟩]) (.seq (.reg [⟨.t 5,.mov (.p 0),none⟩,⟨.t 6,.mov (.p 1),none⟩,⟨.t 7,.call F_slices_Index_string_string [.t 5,.t 6],none⟩,⟨.t 8,.bin .geq (.t 7) (.c (.int .i64 0)),none⟩,
 ⟨.p 4,.mov (.t 8),none⟩]) (.ret))
def cf_slices_Contains_string_string : CFunc :=
{ nargs := 2,ps := [0,1,4],results := [.slot 4],body := bd_slices_Contains_string_string }
def lb_slices_IndexFunc_api_Token_api_Token_0 : CCode :=
 .seq (.reg [⟨.p 9,.bin .lss (.p 8) (.p 7),none⟩]) (.seq (.cond (.p 9) (.skip) (.exit 0)) (.seq (.block 1 [0,1,7,8] (.seq (.reg [⟨.t 10,.mov (.p 8),none⟩,⟨.p 5,.mov (.t 10),none⟩]) (.seq (.reg [⟨.t 11,.mov (.p 1),none⟩,
 ⟨.t 12,.mov (.p 0),none⟩,⟨.t 13,.mov (.p 5),none⟩,⟨.t 14,.idxAddr 6 (.t 12) (.t 13),none⟩,⟨.t 15,.loadN 6 (.t 14),none⟩,⟨.p 16,.callV (.t 11) [.t 15],none⟩]) (.cond (.p 16) (.seq (.reg [⟨.t 17,.mov (.p 5),none⟩,
 ⟨.p 4,.mov (.t 17),none⟩]) (.ret)) (.skip))))) (.reg [⟨.t 18,.bin .add (.p 8) (.c (.int .i64 1)),none⟩,⟨.p 8,.mov (.t 18),none⟩])))
def bd_slices_IndexFunc_api_Token_api_Token : CCode :=
 .seq (.reg [⟨.p 4,.mov (.c (.int .i64 0)),none⟩]) (.seq (.seq (.reg [⟨.t 6,.mov (.p 0),none⟩,⟨.p 7,.lenSl (.t 6),none⟩,⟨.p 8,.mov (.c (.int .i64 0)),none⟩]) (.block 0 [] (.loop [0,1,7,8] lb_slices_IndexFunc_api_Token_api_Token_0))) (.seq (.stuck) (.ret)))
def cf_slices_IndexFunc_api_Token_api_Token : CFunc :=
{ nargs := 2,ps := [0,1,4,5,7,8,9,16],results := [.slot 4],body := bd_slices_IndexFunc_api_Token_api_Token }
def bd_gram_Find_1 : CCode :=
 .seq (.reg [⟨.p 2,.box (.p 0),none⟩,⟨.p 3,.mov (.c (.bool false)),none⟩]) (.seq (.reg [⟨.t 4,.fieldAddr 0 (.p 2),none⟩,⟨.t 5,.load1 (.t 4),none⟩,⟨.t 6,.load1 (.p 1),none⟩,⟨.t 7,.bin .eql (.t 5) (.t 6),none⟩,
 ⟨.p 3,.mov (.t 7),none⟩]) (.ret))
def cf_gram_Find_1 : CFunc :=
{ nargs := 2,ps := [0,1,2,3],results := [.slot 3],body := bd_gram_Find_1 }
def bd_regex_empty : CCode :=
 .seq (.reg [⟨.p 1,.box (.p 0),none⟩,⟨.p 2,.mov (.c (.bool false)),none⟩]) (.seq (.seq (.reg [⟨.t 3,.fieldAddr 0 (.p 1),none⟩,⟨.p 4,.load1 (.t 3),none⟩]) (.block 0 [] (.seq (.seq (.reg [⟨.t 6,.bin .eql (.p 4) (.c (.int .i64 1)),none⟩,
 ⟨.p 5,.mov (.t 6),none⟩]) (.cond (.p 5) (.skip) (.reg [⟨.t 7,.bin .eql (.p 4) (.c (.int .i64 5)),none⟩,⟨.p 5,.mov (.t 7),none⟩]))) (.cond (.p 5) (.seq (.stuck) (.ret)) (.seq (.reg [⟨.t 9,.bin .eql (.p 4) (.c (.int .i64 3)),none⟩,
 ⟨.p 8,.mov (.t 9),none⟩]) (.cond (.p 8) (.seq (.stuck) (.ret)) (.seq (.reg [⟨.t 23,.bin .eql (.p 4) (.c (.int .i64 4)),none⟩,⟨.p 22,.mov (.t 23),none⟩]) (.cond (.p 22) (.seq (.stuck) (.ret)) (.skip))))))))) (.seq (.reg [⟨.p 2,.mov (.c (.bool false)),none⟩]) (.ret)))
def cf_regex_empty : CFunc :=
{ nargs := 1,ps := [0,1,2,4,5,8,22],results := [.slot 2],body := bd_regex_empty }
def bd_strconv_small : CCode :=
 .seq (.reg [⟨.p 2,.mov (.c (.str [])),none⟩]) (.seq (.seq (.reg [⟨.t 3,.mov (.p 0),none⟩,⟨.p 4,.bin .lss (.t 3) (.c (.int .i64 10)),none⟩]) (.cond (.p 4) (.seq (.reg [⟨.t 5,.mov (.p 0),none⟩,
 ⟨.t 6,.mov (.p 0),none⟩,⟨.t 7,.bin .add (.t 6) (.c (.int .i64 1)),none⟩,⟨.t 8,.sliceStr (.c (.str [48,49,50,51,52,53,54,55,56,57,97,98,99,100,101,102,103,104,105,106,107,108,109,110,111,112,113,114,115,116,117,118,119,120,121,122])) (some (.t 5)) (some (.t 7)),none⟩,
 ⟨.p 2,.mov (.t 8),none⟩]) (.ret)) (.skip))) (.seq (.stuck) (.ret)))
def cf_strconv_small : CFunc :=
{ nargs := 1,ps := [0,2,4],results := [.slot 2],body := bd_strconv_small }
def lb_strconv_formatBits_0 : CCode :=
 .seq (.seq (.reg [⟨.t 44,.mov (.p 1),none⟩,⟨.t 45,.mov (.p 15),none⟩,⟨.p 46,.bin .geq (.t 44) (.t 45),none⟩]) (.cond (.p 46) (.skip) (.exit 0))) (.block 1 [0,1,3,4,10,11,12,13,14,15,16] (.seq (.reg [⟨.t 47,.mov (.p 13),none⟩,
 ⟨.t 48,.bin .sub (.t 47) (.c (.int .i64 1)),none⟩,⟨.p 13,.mov (.t 48),none⟩]) (.seq (.reg [⟨.t 49,.mov (.p 13),none⟩,⟨.t 50,.mov (.p 1),none⟩,⟨.t 51,.mov (.p 16),none⟩,⟨.t 52,.bin .and (.t 50) (.t 51),none⟩,
 ⟨.t 53,.idxStr (.c (.str [48,49,50,51,52,53,54,55,56,57,97,98,99,100,101,102,103,104,105,106,107,108,109,110,111,112,113,114,115,116,117,118,119,120,121,122])) (.t 52),none⟩,⟨.t 54,.idxArr 65 1 (.p 12) (.t 49),none⟩,
 ⟨.no,.store 1 (.t 54) (.t 53),none⟩]) (.reg [⟨.t 55,.mov (.p 1),none⟩,⟨.t 56,.mov (.p 14),none⟩,⟨.t 57,.bin .shr (.t 55) (.t 56),none⟩,⟨.p 1,.mov (.t 57),none⟩]))))
def lb_strconv_formatBits_1 : CCode :=
 .seq (.seq (.stuck) (.cond (.p 68) (.skip) (.exit 2))) (.block 3 [0,1,3,4,10,11,12,13,17] (.seq (.stuck) (.seq (.stuck) (.seq (.stuck) (.stuck)))))
def bd_strconv_formatBits : CCode :=
 .seq (.reg [⟨.p 10,.mov (.c (.nils)),none⟩,⟨.p 11,.mov (.c (.str [])),none⟩]) (.seq (.seq (.reg [⟨.t 19,.mov (.p 2),none⟩,⟨.t 20,.bin .lss (.t 19) (.c (.int .i64 2)),none⟩,⟨.t 21,.mov (.t 20),none⟩,
 ⟨.t 22,.mov (.p 2),some (.t 21,false)⟩,⟨.t 23,.bin .eql (.t 22) (.c (.int .i64 10)),some (.t 21,false)⟩,⟨.t 24,.pick (.t 21) (.c (.bool true)) (.t 23),none⟩,⟨.t 25,.mov (.t 24),none⟩,
 ⟨.t 26,.mov (.p 2),some (.t 25,false)⟩,⟨.t 27,.bin .gtr (.t 26) (.c (.int .i64 36)),some (.t 25,false)⟩,⟨.p 28,.pick (.t 25) (.c (.bool true)) (.t 27),none⟩]) (.cond (.p 28) (.stuck) (.skip))) (.seq (.reg [⟨.p 12,.alloc [.int .u8 0,.int .u8 0,.int .u8 0,.int .u8 0,.int .u8 0,.int .u8 0,.int .u8 0,.int .u8 0,.int .u8 0,.int .u8 0,.int .u8 0,.int .u8 0,.int .u8 0,.int .u8 0,.int .u8 0,.int .u8 0,.int .u8 0,.int .u8 0,.int .u8 0,.int .u8 0,.int .u8 0,.int .u8 0,.int .u8 0,.int .u8 0,.int .u8 0,.int .u8 0,.int .u8 0,.int .u8 0,.int .u8 0,.int .u8 0,.int .u8 0,.int .u8 0,.int .u8 0,.int .u8 0,.int .u8 0,.int .u8 0,.int .u8 0,.int .u8 0,.int .u8 0,.int .u8 0,.int .u8 0,.int .u8 0,.int .u8 0,.int .u8 0,.int .u8 0,.int .u8 0,.int .u8 0,.int .u8 0,.int .u8 0,.int .u8 0,.int .u8 0,.int .u8 0,.int .u8 0,.int .u8 0,.int .u8 0,.int .u8 0,.int .u8 0,.int .u8 0,.int .u8 0,.int .u8 0,.int .u8 0,.int .u8 0,.int .u8 0,.int .u8 0,.int .u8 0],none⟩]) (.seq (.reg [⟨.p 13,.mov (.c (.int .i64 65)),none⟩]) (.seq (.seq (.reg [⟨.p 30,.mov (.p 3),none⟩]) (.cond (.p 30) (.stuck) (.skip))) (.seq (.seq (.reg [⟨.t 33,.mov (.p 2),none⟩,⟨.p 34,.call F_strconv_isPowerOfTwo [.t 33],none⟩]) (.cond (.p 34) (.seq (.reg [⟨.t 35,.mov (.p 2),none⟩,⟨.t 36,.convI .u64 (.t 35),none⟩,⟨.t 37,.call F_bits_TrailingZeros [.t 36],none⟩,⟨.t 38,.convI .u64 (.t 37),none⟩,⟨.p 14,.mov (.t 38),none⟩]) (.seq (.reg [⟨.t 39,.mov (.p 2),none⟩,⟨.t 40,.convI .u64 (.t 39),none⟩,⟨.p 15,.mov (.t 40),none⟩]) (.seq (.reg [⟨.t 41,.mov (.p 2),none⟩,⟨.t 42,.convI .u64 (.t 41),none⟩,⟨.t 43,.bin .sub (.t 42) (.c (.int .u64 1)),none⟩,⟨.p 16,.mov (.t 43),none⟩]) (.seq (.block 0 [0,1,3,4,10,11,12,13] (.loop [0,1,3,4,10,11,12,13,14,15,16] lb_strconv_formatBits_0)) (.seq (.reg [⟨.t 58,.mov (.p 13),none⟩,⟨.t 59,.bin .sub (.t 58) (.c (.int .i64 1)),none⟩,⟨.p 13,.mov (.t 59),none⟩]) (.reg [⟨.t 60,.mov (.p 13),none⟩,⟨.t 61,.mov (.p 1),none⟩,⟨.t 62,.idxStr (.c (.str [48,49,50,51,52,53,54,55,56,57,97,98,99,100,101,102,103,104,105,106,107,108,109,110,111,112,113,114,115,116,117,118,119,120,121,122])) (.t 61),none⟩,⟨.t 63,.idxArr 65 1 (.p 12) (.t 60),none⟩,⟨.no,.store 1 (.t 63) (.t 62),none⟩])))))) (.seq (.stuck) (.seq (.block 2 [0,1,3,4,10,11,12,13] (.loop [0,1,3,4,10,11,12,13,17] lb_strconv_formatBits_1)) (.seq (.stuck) (.stuck)))))) (.seq (.seq (.reg [⟨.p 89,.mov (.p 3),none⟩]) (.cond (.p 89) (.seq (.stuck) (.stuck)) (.skip))) (.seq (.seq (.reg [⟨.p 94,.mov (.p 4),none⟩]) (.cond (.p 94) (.seq (.stuck) (.ret)) (.skip))) (.seq (.reg [⟨.t 99,.mov (.p 13),none⟩,⟨.t 100,.sliceArr 65 1 (.p 12) (some (.t 99)) none none,none⟩,⟨.t 101,.bytesStr (.t 100),none⟩,⟨.p 11,.mov (.t 101),none⟩]) (.ret)))))))))
def cf_strconv_formatBits : CFunc :=
{ nargs := 5,ps := [0,1,2,3,4,10,11,12,13,14,15,16,17,18,28,30,34,46,68,89,94],results := [.slot 10,.slot 11],body := bd_strconv_formatBits }
def bd_strings_Builder_grow : CCode :=
 .seq (.dreg [⟨⟨.t 5,.mov (.p 0),none⟩,false,false,[]⟩,⟨⟨.t 6,.nilCheck (.t 5),none⟩,false,false,[]⟩,⟨⟨.t 7,.fieldAddr 1 (.t 6),none⟩,false,false,[]⟩,⟨⟨.t 8,.load1 (.t 7),none⟩,false,false,[]⟩,
 ⟨⟨.t 9,.capSl (.t 8),none⟩,false,false,[]⟩,⟨⟨.t 10,.bin .mul (.c (.int .i64 2)) (.t 9),none⟩,false,false,[]⟩,⟨⟨.t 11,.mov (.p 1),none⟩,false,false,[]⟩,⟨⟨.t 12,.bin .add (.t 10) (.t 11),none⟩,false,false,[]⟩,
 ⟨⟨.t 13,.ext (.mknz T_uint8) [.t 12],none⟩,true,false,[]⟩,⟨⟨.t 14,.mov (.p 0),none⟩,false,false,[]⟩,⟨⟨.t 15,.nilCheck (.t 14),none⟩,false,false,[]⟩,⟨⟨.t 16,.fieldAddr 1 (.t 15),none⟩,false,false,[]⟩,
 ⟨⟨.t 17,.load1 (.t 16),none⟩,false,false,[8]⟩,⟨⟨.t 18,.lenSl (.t 17),none⟩,false,false,[]⟩,⟨⟨.t 19,.sliceSl 1 (.t 13) none (some (.t 18)) none,none⟩,false,false,[]⟩,⟨⟨.p 4,.mov (.t 19),none⟩,false,false,[]⟩]) (.seq (.reg [⟨.t 20,.mov (.p 4),none⟩,
 ⟨.t 21,.mov (.p 0),none⟩,⟨.t 22,.nilCheck (.t 21),none⟩,⟨.t 23,.fieldAddr 1 (.t 22),none⟩,⟨.t 24,.load1 (.t 23),none⟩,⟨.t 25,.ext .copy0 [.t 20,.t 24],none⟩]) (.reg [⟨.t 26,.mov (.p 0),none⟩,
 ⟨.t 27,.mov (.p 4),none⟩,⟨.t 28,.nilCheck (.t 26),none⟩,⟨.t 29,.fieldAddr 1 (.t 28),none⟩,⟨.no,.ext .stT [.t 29,.t 27],none⟩]))
def cf_strings_Builder_grow : CFunc :=
{ nargs := 2,ps := [0,1,4],results := [],body := bd_strings_Builder_grow }
def bd_runes_is : CCode :=
 .seq (.reg [⟨.p 2,.mov (.c (.bool false)),none⟩]) (.seq (.reg [⟨.t 3,.mov (.p 0),none⟩,⟨.t 4,.bin .geq (.t 3) (.c (.int .i32 0)),none⟩,⟨.t 5,.mov (.t 4),none⟩,⟨.t 6,.mov (.p 0),some (.t 5,true)⟩,
 ⟨.t 7,.bin .lss (.t 6) (.c (.int .i32 55296)),some (.t 5,true)⟩,⟨.t 8,.pick (.t 5) (.t 7) (.c (.bool false)),none⟩,⟨.t 9,.mov (.t 8),none⟩,⟨.t 10,.mov (.p 0),some (.t 9,false)⟩,⟨.t 11,.bin .gtr (.t 10) (.c (.int .i32 57343)),some (.t 9,false)⟩,
 ⟨.t 12,.mov (.t 11),some (.t 9,false)⟩,⟨.t 13,.mov (.p 0),some (.t 12,true)⟩,⟨.t 14,.bin .leq (.t 13) (.c (.int .i32 1114111)),some (.t 12,true)⟩,⟨.t 15,.pick (.t 12) (.t 14) (.c (.bool false)),some (.t 9,false)⟩,
 ⟨.t 16,.pick (.t 9) (.c (.bool true)) (.t 15),none⟩,⟨.p 2,.mov (.t 16),none⟩]) (.ret))
def cf_runes_is : CFunc :=
{ nargs := 1,ps := [0,2],results := [.slot 2],body := bd_runes_is }
def lb_slices_pdqsortCmpFunc_runes_span_0 : CCode :=
 .block 1 [0,1,2,3,4,10,11] (.seq (.reg [⟨.t 21,.mov (.p 2),none⟩,⟨.t 22,.mov (.p 1),none⟩,⟨.t 23,.bin .sub (.t 21) (.t 22),none⟩,⟨.p 12,.mov (.t 23),none⟩]) (.seq (.seq (.reg [⟨.t 24,.mov (.p 12),none⟩,
 ⟨.p 25,.bin .leq (.t 24) (.c (.int .i64 12)),none⟩]) (.cond (.p 25) (.seq (.reg [⟨.t 26,.mov (.p 0),none⟩,⟨.t 27,.mov (.p 1),none⟩,⟨.t 28,.mov (.p 2),none⟩,⟨.t 29,.mov (.p 4),none⟩,
 ⟨.t 30,.call F_slices_insertionSortCmpFunc_runes_span [.t 26,.t 27,.t 28,.t 29],none⟩]) (.ret)) (.skip))) (.seq (.seq (.reg [⟨.t 31,.mov (.p 3),none⟩,⟨.p 32,.bin .eql (.t 31) (.c (.int .i64 0)),none⟩]) (.cond (.p 32) (.seq (.reg [⟨.t 33,.mov (.p 0),none⟩,
 ⟨.t 34,.mov (.p 1),none⟩,⟨.t 35,.mov (.p 2),none⟩,⟨.t 36,.mov (.p 4),none⟩,⟨.t 37,.call F_slices_heapSortCmpFunc_runes_span [.t 33,.t 34,.t 35,.t 36],none⟩]) (.ret)) (.skip))) (.seq (.seq (.reg [⟨.t 38,.mov (.p 10),none⟩,
 ⟨.p 39,.un .not (.t 38),none⟩]) (.cond (.p 39) (.seq (.reg [⟨.t 40,.mov (.p 0),none⟩,⟨.t 41,.mov (.p 1),none⟩,⟨.t 42,.mov (.p 2),none⟩,⟨.t 43,.mov (.p 4),none⟩,⟨.t 44,.call F_slices_breakPatternsCmpFunc_runes_span [.t 40,.t 41,.t 42,.t 43],none⟩]) (.reg [⟨.t 45,.mov (.p 3),none⟩,
 ⟨.t 46,.bin .sub (.t 45) (.c (.int .i64 1)),none⟩,⟨.p 3,.mov (.t 46),none⟩])) (.skip))) (.seq (.reg [⟨.t 48,.mov (.p 0),none⟩,⟨.t 49,.mov (.p 1),none⟩,⟨.t 50,.mov (.p 2),none⟩,⟨.t 51,.mov (.p 4),none⟩,
 ⟨.t 52,.call F_slices_choosePivotCmpFunc_runes_span [.t 48,.t 49,.t 50,.t 51],none⟩,⟨.t 47,.mov (.t 52),none⟩,⟨.t 53,.extract (.t 47) 0,none⟩,⟨.t 54,.extract (.t 47) 1,none⟩,⟨.p 13,.mov (.t 53),none⟩,
 ⟨.p 14,.mov (.t 54),none⟩]) (.seq (.seq (.reg [⟨.t 55,.mov (.p 14),none⟩,⟨.p 56,.bin .eql (.t 55) (.c (.int .i64 2)),none⟩]) (.cond (.p 56) (.seq (.reg [⟨.t 57,.mov (.p 0),none⟩,⟨.t 58,.mov (.p 1),none⟩,
 ⟨.t 59,.mov (.p 2),none⟩,⟨.t 60,.mov (.p 4),none⟩,⟨.t 61,.call F_slices_reverseRangeCmpFunc_runes_span [.t 57,.t 58,.t 59,.t 60],none⟩]) (.seq (.reg [⟨.t 62,.mov (.p 2),none⟩,⟨.t 63,.bin .sub (.t 62) (.c (.int .i64 1)),none⟩,
 ⟨.t 64,.mov (.p 13),none⟩,⟨.t 65,.mov (.p 1),none⟩,⟨.t 66,.bin .sub (.t 64) (.t 65),none⟩,⟨.t 67,.bin .sub (.t 63) (.t 66),none⟩,⟨.p 13,.mov (.t 67),none⟩]) (.reg [⟨.p 14,.mov (.c (.int .i64 1)),none⟩]))) (.skip))) (.seq (.seq (.reg [⟨.t 68,.mov (.p 10),none⟩,
 ⟨.t 69,.mov (.t 68),none⟩,⟨.t 70,.mov (.p 11),some (.t 69,true)⟩,⟨.t 71,.pick (.t 69) (.t 70) (.c (.bool false)),none⟩,⟨.t 72,.mov (.t 71),none⟩,⟨.t 73,.mov (.p 14),some (.t 72,true)⟩,
 ⟨.t 74,.bin .eql (.t 73) (.c (.int .i64 1)),some (.t 72,true)⟩,⟨.p 75,.pick (.t 72) (.t 74) (.c (.bool false)),none⟩]) (.cond (.p 75) (.seq (.reg [⟨.t 76,.mov (.p 0),none⟩,⟨.t 77,.mov (.p 1),none⟩,
 ⟨.t 78,.mov (.p 2),none⟩,⟨.t 79,.mov (.p 4),none⟩,⟨.p 80,.call F_slices_partialInsertionSortCmpFunc_runes_span [.t 76,.t 77,.t 78,.t 79],none⟩]) (.cond (.p 80) (.ret) (.skip))) (.skip))) (.seq (.seq (.dreg [⟨⟨.t 81,.mov (.p 1),none⟩,false,false,[]⟩,
 ⟨⟨.t 82,.bin .gtr (.t 81) (.c (.int .i64 0)),none⟩,false,false,[]⟩,⟨⟨.t 83,.mov (.t 82),none⟩,false,false,[]⟩,⟨⟨.t 84,.mov (.p 4),some (.t 83,true)⟩,false,false,[]⟩,⟨⟨.t 85,.mov (.p 0),some (.t 83,true)⟩,false,false,[]⟩,
 ⟨⟨.t 86,.mov (.p 1),some (.t 83,true)⟩,false,false,[]⟩,⟨⟨.t 87,.bin .sub (.t 86) (.c (.int .i64 1)),some (.t 83,true)⟩,false,false,[]⟩,⟨⟨.t 88,.idxAddr 2 (.t 85) (.t 87),some (.t 83,true)⟩,false,false,[]⟩,
 ⟨⟨.t 89,.loadN 2 (.t 88),some (.t 83,true)⟩,false,false,[]⟩,⟨⟨.t 90,.mov (.p 0),some (.t 83,true)⟩,false,false,[]⟩,⟨⟨.t 91,.mov (.p 13),some (.t 83,true)⟩,false,false,[]⟩,⟨⟨.t 92,.idxAddr 2 (.t 90) (.t 91),some (.t 83,true)⟩,false,false,[]⟩,
 ⟨⟨.t 93,.loadN 2 (.t 92),some (.t 83,true)⟩,false,false,[]⟩,⟨⟨.t 94,.callV (.t 84) [.t 89,.t 93],some (.t 83,true)⟩,false,false,[]⟩,⟨⟨.t 95,.bin .lss (.t 94) (.c (.int .i64 0)),some (.t 83,true)⟩,false,false,[]⟩,
 ⟨⟨.t 96,.un .not (.t 95),some (.t 83,true)⟩,false,false,[]⟩,⟨⟨.p 97,.pick (.t 83) (.t 96) (.c (.bool false)),none⟩,false,false,[]⟩]) (.cond (.p 97) (.seq (.reg [⟨.t 98,.mov (.p 0),none⟩,
 ⟨.t 99,.mov (.p 1),none⟩,⟨.t 100,.mov (.p 2),none⟩,⟨.t 101,.mov (.p 13),none⟩,⟨.t 102,.mov (.p 4),none⟩,⟨.t 103,.call F_slices_partitionEqualCmpFunc_runes_span [.t 98,.t 99,.t 100,.t 101,.t 102],none⟩,
 ⟨.p 15,.mov (.t 103),none⟩]) (.seq (.reg [⟨.t 104,.mov (.p 15),none⟩,⟨.p 1,.mov (.t 104),none⟩]) (.exit 1))) (.skip))) (.seq (.reg [⟨.t 106,.mov (.p 0),none⟩,⟨.t 107,.mov (.p 1),none⟩,
 ⟨.t 108,.mov (.p 2),none⟩,⟨.t 109,.mov (.p 13),none⟩,⟨.t 110,.mov (.p 4),none⟩,⟨.t 111,.call F_slices_partitionCmpFunc_runes_span [.t 106,.t 107,.t 108,.t 109,.t 110],none⟩,⟨.t 105,.mov (.t 111),none⟩,
 ⟨.t 112,.extract (.t 105) 0,none⟩,⟨.t 113,.extract (.t 105) 1,none⟩,⟨.p 16,.mov (.t 112),none⟩,⟨.p 17,.mov (.t 113),none⟩]) (.seq (.reg [⟨.t 114,.mov (.p 17),none⟩,⟨.p 11,.mov (.t 114),none⟩]) (.seq (.reg [⟨.t 115,.mov (.p 16),none⟩,
 ⟨.t 116,.mov (.p 1),none⟩,⟨.t 117,.bin .sub (.t 115) (.t 116),none⟩,⟨.t 118,.mov (.p 2),none⟩,⟨.t 119,.mov (.p 16),none⟩,⟨.t 120,.bin .sub (.t 118) (.t 119),none⟩,⟨.p 18,.mov (.t 117),none⟩,
 ⟨.p 19,.mov (.t 120),none⟩]) (.seq (.reg [⟨.t 121,.mov (.p 12),none⟩,⟨.t 122,.bin .quo (.t 121) (.c (.int .i64 8)),none⟩,⟨.p 20,.mov (.t 122),none⟩]) (.seq (.reg [⟨.t 123,.mov (.p 18),none⟩,
 ⟨.t 124,.mov (.p 19),none⟩,⟨.p 125,.bin .lss (.t 123) (.t 124),none⟩]) (.cond (.p 125) (.seq (.reg [⟨.t 126,.mov (.p 18),none⟩,⟨.t 127,.mov (.p 20),none⟩,⟨.t 128,.bin .geq (.t 126) (.t 127),none⟩,
 ⟨.p 10,.mov (.t 128),none⟩]) (.seq (.reg [⟨.t 129,.mov (.p 0),none⟩,⟨.t 130,.mov (.p 1),none⟩,⟨.t 131,.mov (.p 16),none⟩,⟨.t 132,.mov (.p 3),none⟩,⟨.t 133,.mov (.p 4),none⟩,⟨.t 134,.call F_slices_pdqsortCmpFunc_runes_span [.t 129,.t 130,.t 131,.t 132,.t 133],none⟩]) (.reg [⟨.t 135,.mov (.p 16),none⟩,
 ⟨.t 136,.bin .add (.t 135) (.c (.int .i64 1)),none⟩,⟨.p 1,.mov (.t 136),none⟩]))) (.seq (.reg [⟨.t 137,.mov (.p 19),none⟩,⟨.t 138,.mov (.p 20),none⟩,⟨.t 139,.bin .geq (.t 137) (.t 138),none⟩,
 ⟨.p 10,.mov (.t 139),none⟩]) (.seq (.reg [⟨.t 140,.mov (.p 0),none⟩,⟨.t 141,.mov (.p 16),none⟩,⟨.t 142,.bin .add (.t 141) (.c (.int .i64 1)),none⟩,⟨.t 143,.mov (.p 2),none⟩,⟨.t 144,.mov (.p 3),none⟩,
 ⟨.t 145,.mov (.p 4),none⟩,⟨.t 146,.call F_slices_pdqsortCmpFunc_runes_span [.t 140,.t 142,.t 143,.t 144,.t 145],none⟩]) (.reg [⟨.t 147,.mov (.p 16),none⟩,⟨.p 2,.mov (.t 147),none⟩])))))))))))))))))
def bd_slices_pdqsortCmpFunc_runes_span : CCode :=
 .seq (.reg [⟨.p 10,.mov (.c (.bool true)),none⟩]) (.seq (.reg [⟨.p 11,.mov (.c (.bool true)),none⟩]) (.block 0 [] (.loop [0,1,2,3,4,10,11] lb_slices_pdqsortCmpFunc_runes_span_0)))
def cf_slices_pdqsortCmpFunc_runes_span : CFunc :=
{ nargs := 5,ps := [0,1,2,3,4,10,11,12,13,14,15,16,17,18,19,20,25,32,39,56,75,80,97,125],results := [],body := bd_slices_pdqsortCmpFunc_runes_span }
def bd_bits_Len : CCode :=
 .seq (.reg [⟨.p 2,.mov (.c (.int .i64 0)),none⟩]) (.seq (.cond (.c (.bool false)) (.seq (.reg [⟨.t 3,.mov (.p 0),none⟩,⟨.t 4,.convI .u32 (.t 3),none⟩,⟨.t 5,.call F_bits_Len32 [.t 4],none⟩,
 ⟨.p 2,.mov (.t 5),none⟩]) (.ret)) (.skip)) (.seq (.reg [⟨.t 6,.mov (.p 0),none⟩,⟨.t 7,.call F_bits_Len64 [.t 6],none⟩,⟨.p 2,.mov (.t 7),none⟩]) (.ret)))
def cf_bits_Len : CFunc :=
{ nargs := 1,ps := [0,2],results := [.slot 2],body := bd_bits_Len }
def bd_cmp_isNaN_int : CCode :=
 .seq (.reg [⟨.p 2,.mov (.c (.bool false)),none⟩]) (.seq (.reg [⟨.t 3,.mov (.p 0),none⟩,⟨.t 4,.mov (.p 0),none⟩,⟨.t 5,.bin .neq (.t 3) (.t 4),none⟩,⟨.p 2,.mov (.t 5),none⟩]) (.ret))
def cf_cmp_isNaN_int : CFunc :=
{ nargs := 1,ps := [0,2],results := [.slot 2],body := bd_cmp_isNaN_int }
def lb_goboref3_cuts_0 : CCode :=
 .seq (.seq (.reg [⟨.t 30,.mov (.p 6),none⟩,⟨.t 31,.mov (.p 3),none⟩,⟨.t 32,.lenSl (.t 31),none⟩,⟨.t 33,.bin .lss (.t 30) (.t 32),none⟩,⟨.t 34,.mov (.t 33),none⟩,⟨.t 35,.mov (.p 3),some (.t 34,true)⟩,
 ⟨.t 36,.mov (.p 6),some (.t 34,true)⟩,⟨.t 37,.idxAddr 1 (.t 35) (.t 36),some (.t 34,true)⟩,⟨.t 38,.load1 (.t 37),some (.t 34,true)⟩,⟨.t 39,.mov (.p 5),some (.t 34,true)⟩,⟨.t 40,.bin .lss (.t 38) (.t 39),some (.t 34,true)⟩,
 ⟨.p 41,.pick (.t 34) (.t 40) (.c (.bool false)),none⟩]) (.cond (.p 41) (.skip) (.exit 2))) (.block 3 [0,3,4,5,6] (.reg [⟨.t 42,.mov (.p 6),none⟩,⟨.t 43,.bin .add (.t 42) (.c (.int .i64 1)),none⟩,
 ⟨.p 6,.mov (.t 43),none⟩]))
def lb_goboref3_cuts_1 : CCode :=
 .seq (.seq (.reg [⟨.t 8,.mov (.p 4),none⟩,⟨.t 9,.mov (.p 0),none⟩,⟨.t 10,.lenSl (.t 9),none⟩,⟨.t 11,.bin .mul (.c (.int .i64 2)) (.t 10),none⟩,⟨.p 12,.bin .lss (.t 8) (.t 11),none⟩]) (.cond (.p 12) (.skip) (.exit 0))) (.seq (.block 1 [0,3,4] (.seq (.reg [⟨.t 15,.mov (.p 0),none⟩,
 ⟨.t 16,.mov (.p 4),none⟩,⟨.t 17,.bin .quo (.t 16) (.c (.int .i64 2)),none⟩,⟨.t 18,.idxAddr 2 (.t 15) (.t 17),none⟩,⟨.t 19,.fieldAddr 0 (.t 18),none⟩,⟨.t 20,.load1 (.t 19),none⟩,⟨.p 5,.mov (.t 20),none⟩]) (.seq (.seq (.reg [⟨.t 21,.mov (.p 4),none⟩,
 ⟨.t 22,.bin .rem (.t 21) (.c (.int .i64 2)),none⟩,⟨.p 23,.bin .eql (.t 22) (.c (.int .i64 1)),none⟩]) (.cond (.p 23) (.reg [⟨.t 24,.mov (.p 0),none⟩,⟨.t 25,.mov (.p 4),none⟩,⟨.t 26,.bin .quo (.t 25) (.c (.int .i64 2)),none⟩,
 ⟨.t 27,.idxAddr 2 (.t 24) (.t 26),none⟩,⟨.t 28,.fieldAddr 1 (.t 27),none⟩,⟨.t 29,.load1 (.t 28),none⟩,⟨.p 5,.mov (.t 29),none⟩]) (.skip))) (.seq (.reg [⟨.p 6,.mov (.c (.int .i64 0)),none⟩]) (.seq (.block 2 [0,3,4,5,6] (.loop [0,3,4,5,6] lb_goboref3_cuts_0)) (.seq (.seq (.reg [⟨.t 44,.mov (.p 6),none⟩,
 ⟨.t 45,.mov (.p 3),none⟩,⟨.t 46,.lenSl (.t 45),none⟩,⟨.t 47,.bin .lss (.t 44) (.t 46),none⟩,⟨.t 48,.mov (.t 47),none⟩,⟨.t 49,.mov (.p 3),some (.t 48,true)⟩,⟨.t 50,.mov (.p 6),some (.t 48,true)⟩,
 ⟨.t 51,.idxAddr 1 (.t 49) (.t 50),some (.t 48,true)⟩,⟨.t 52,.load1 (.t 51),some (.t 48,true)⟩,⟨.t 53,.mov (.p 5),some (.t 48,true)⟩,⟨.t 54,.bin .eql (.t 52) (.t 53),some (.t 48,true)⟩,
 ⟨.p 55,.pick (.t 48) (.t 54) (.c (.bool false)),none⟩]) (.cond (.p 55) (.exit 1) (.skip))) (.seq (.reg [⟨.t 56,.lit [] 0 [],none⟩,⟨.t 57,.mov (.p 3),none⟩,⟨.t 58,.mov (.p 6),none⟩,
 ⟨.t 59,.sliceSl 1 (.t 57) none (some (.t 58)) none,none⟩,⟨.t 60,.append 1 8 (.t 56) (.t 59),none⟩,⟨.p 7,.mov (.t 60),none⟩]) (.dreg [⟨⟨.t 61,.mov (.p 7),none⟩,false,false,[]⟩,⟨⟨.t 62,.mov (.p 5),none⟩,false,false,[]⟩,
 ⟨⟨.t 63,.lit [.int .i64 0] 1 [(0,1,.t 62)],none⟩,false,false,[]⟩,⟨⟨.t 64,.append 1 8 (.t 61) (.t 63),none⟩,false,false,[]⟩,⟨⟨.t 65,.mov (.p 3),none⟩,false,false,[]⟩,⟨⟨.t 66,.mov (.p 6),none⟩,false,false,[]⟩,
 ⟨⟨.t 67,.sliceSl 1 (.t 65) (some (.t 66)) none none,none⟩,false,false,[]⟩,⟨⟨.t 68,.append 1 8 (.t 64) (.t 67),none⟩,false,false,[]⟩,⟨⟨.p 3,.mov (.t 68),none⟩,false,false,[]⟩])))))))) (.reg [⟨.t 13,.mov (.p 4),none⟩,
 ⟨.t 14,.bin .add (.t 13) (.c (.int .i64 1)),none⟩,⟨.p 4,.mov (.t 14),none⟩]))
def bd_goboref3_cuts : CCode :=
 .seq (.reg [⟨.p 2,.mov (.c (.nils)),none⟩]) (.seq (.reg [⟨.p 3,.mov (.c (.nils)),none⟩]) (.seq (.seq (.reg [⟨.p 4,.mov (.c (.int .i64 0)),none⟩]) (.block 0 [3] (.loop [0,3,4] lb_goboref3_cuts_1))) (.seq (.reg [⟨.t 69,.mov (.p 3),none⟩,
 ⟨.p 2,.mov (.t 69),none⟩]) (.ret))))
def cf_goboref3_cuts : CFunc :=
{ nargs := 1,ps := [0,2,3,4,5,6,7,12,23,41,55],results := [.slot 2],body := bd_goboref3_cuts }
def lb_goboref3_in_0 : CCode :=
 .seq (.seq (.reg [⟨.t 6,.mov (.p 5),none⟩,⟨.t 7,.mov (.p 0),none⟩,⟨.t 8,.lenSl (.t 7),none⟩,⟨.p 9,.bin .lss (.t 6) (.t 8),none⟩]) (.cond (.p 9) (.skip) (.exit 0))) (.seq (.block 1 [0,1,5] (.seq (.reg [⟨.t 12,.mov (.p 0),none⟩,
 ⟨.t 13,.mov (.p 5),none⟩,⟨.t 14,.idxAddr 2 (.t 12) (.t 13),none⟩,⟨.t 15,.fieldAddr 0 (.t 14),none⟩,⟨.t 16,.load1 (.t 15),none⟩,⟨.t 17,.mov (.p 1),none⟩,⟨.t 18,.bin .leq (.t 16) (.t 17),none⟩,
 ⟨.t 19,.mov (.t 18),none⟩,⟨.t 20,.mov (.p 1),some (.t 19,true)⟩,⟨.t 21,.mov (.p 0),some (.t 19,true)⟩,⟨.t 22,.mov (.p 5),some (.t 19,true)⟩,⟨.t 23,.idxAddr 2 (.t 21) (.t 22),some (.t 19,true)⟩,
 ⟨.t 24,.fieldAddr 1 (.t 23),some (.t 19,true)⟩,⟨.t 25,.load1 (.t 24),some (.t 19,true)⟩,⟨.t 26,.bin .lss (.t 20) (.t 25),some (.t 19,true)⟩,⟨.p 27,.pick (.t 19) (.t 26) (.c (.bool false)),none⟩]) (.cond (.p 27) (.seq (.reg [⟨.p 4,.mov (.c (.bool true)),none⟩]) (.ret)) (.skip)))) (.reg [⟨.t 10,.mov (.p 5),none⟩,
 ⟨.t 11,.bin .add (.t 10) (.c (.int .i64 1)),none⟩,⟨.p 5,.mov (.t 11),none⟩]))
def bd_goboref3_in : CCode :=
 .seq (.reg [⟨.p 4,.mov (.c (.bool false)),none⟩]) (.seq (.seq (.reg [⟨.p 5,.mov (.c (.int .i64 0)),none⟩]) (.block 0 [] (.loop [0,1,5] lb_goboref3_in_0))) (.seq (.reg [⟨.p 4,.mov (.c (.bool false)),none⟩]) (.ret)))
def cf_goboref3_in : CFunc :=
{ nargs := 2,ps := [0,1,4,5,9,27],results := [.slot 4],body := bd_goboref3_in }
def bd_goboref3_at : CCode :=
 .seq (.reg [⟨.p 2,.mov (.c (.int .i32 0)),none⟩]) (.seq (.seq (.reg [⟨.t 3,.mov (.p 0),none⟩,⟨.p 4,.bin .geq (.t 3) (.c (.int .i64 55296)),none⟩]) (.cond (.p 4) (.seq (.reg [⟨.t 5,.mov (.p 0),none⟩,
 ⟨.t 6,.bin .add (.t 5) (.c (.int .i64 2048)),none⟩,⟨.t 7,.convI .i32 (.t 6),none⟩,⟨.p 2,.mov (.t 7),none⟩]) (.ret)) (.skip))) (.seq (.reg [⟨.t 8,.mov (.p 0),none⟩,⟨.t 9,.convI .i32 (.t 8),none⟩,
 ⟨.p 2,.mov (.t 9),none⟩]) (.ret)))
def cf_goboref3_at : CFunc :=
{ nargs := 1,ps := [0,2,4],results := [.slot 2],body := bd_goboref3_at }
def bd_goboref3_place : CCode :=
 .seq (.reg [⟨.p 4,.mov (.c (.int .i64 0)),none⟩]) (.seq (.block 0 [0] (.seq (.reg [⟨.t 6,.mov (.p 0),none⟩,⟨.t 7,.bin .lss (.t 6) (.c (.int .i64 0)),none⟩,⟨.p 5,.mov (.t 7),none⟩]) (.cond (.p 5) (.seq (.reg [⟨.p 4,.mov (.c (.int .i64 0)),none⟩]) (.ret)) (.seq (.reg [⟨.t 9,.mov (.p 0),none⟩,
 ⟨.t 10,.bin .lss (.t 9) (.c (.int .i64 55296)),none⟩,⟨.p 8,.mov (.t 10),none⟩]) (.cond (.p 8) (.seq (.reg [⟨.t 11,.mov (.p 0),none⟩,⟨.p 4,.mov (.t 11),none⟩]) (.ret)) (.seq (.reg [⟨.t 13,.mov (.p 0),none⟩,
 ⟨.t 14,.bin .leq (.t 13) (.c (.int .i64 57343)),none⟩,⟨.t 15,.mov (.t 14),none⟩,⟨.t 16,.mov (.p 1),some (.t 15,true)⟩,⟨.t 17,.pick (.t 15) (.t 16) (.c (.bool false)),none⟩,⟨.p 12,.mov (.t 17),none⟩]) (.cond (.p 12) (.seq (.reg [⟨.p 4,.mov (.c (.int .i64 55296)),none⟩]) (.ret)) (.seq (.reg [⟨.t 19,.mov (.p 0),none⟩,
 ⟨.t 20,.bin .leq (.t 19) (.c (.int .i64 57343)),none⟩,⟨.p 18,.mov (.t 20),none⟩]) (.cond (.p 18) (.seq (.reg [⟨.p 4,.mov (.c (.int .i64 55295)),none⟩]) (.ret)) (.seq (.reg [⟨.t 22,.mov (.p 0),none⟩,
 ⟨.t 23,.bin .gtr (.t 22) (.c (.int .i64 1114111)),none⟩,⟨.p 21,.mov (.t 23),none⟩]) (.cond (.p 21) (.seq (.seq (.reg [⟨.p 24,.mov (.p 1),none⟩]) (.cond (.p 24) (.seq (.reg [⟨.p 4,.mov (.c (.int .i64 1112064)),none⟩]) (.ret)) (.skip))) (.seq (.reg [⟨.p 4,.mov (.c (.int .i64 1112063)),none⟩]) (.ret))) (.skip)))))))))))) (.seq (.reg [⟨.t 25,.mov (.p 0),none⟩,
 ⟨.t 26,.bin .sub (.t 25) (.c (.int .i64 2048)),none⟩,⟨.p 4,.mov (.t 26),none⟩]) (.ret)))
def cf_goboref3_place : CFunc :=
{ nargs := 2,ps := [0,1,4,5,8,12,18,21,24],results := [.slot 4],body := bd_goboref3_place }
def bd_runes_value : CCode :=
 .seq (.reg [⟨.p 2,.mov (.c (.int .i32 0)),none⟩]) (.seq (.seq (.reg [⟨.t 3,.mov (.p 0),none⟩,⟨.p 4,.bin .lss (.t 3) (.c (.int .i64 55296)),none⟩]) (.cond (.p 4) (.seq (.reg [⟨.t 5,.mov (.p 0),none⟩,
 ⟨.t 6,.convI .i32 (.t 5),none⟩,⟨.p 2,.mov (.t 6),none⟩]) (.ret)) (.skip))) (.seq (.reg [⟨.t 7,.mov (.p 0),none⟩,⟨.t 8,.bin .add (.t 7) (.c (.int .i64 2048)),none⟩,⟨.t 9,.convI .i32 (.t 8),none⟩,
 ⟨.p 2,.mov (.t 9),none⟩]) (.ret)))
def cf_runes_value : CFunc :=
{ nargs := 1,ps := [0,2,4],results := [.slot 2],body := bd_runes_value }
def bd_decode_Dec_more_1 : CCode :=
 .seq (.reg [⟨.t 4,.recover,none⟩,⟨.p 1,.mov (.t 4),none⟩]) (.seq (.reg [⟨.t 5,.mov (.p 1),none⟩,⟨.p 6,.eqv true .iface (.t 5) (.c (.nili)),none⟩]) (.cond (.p 6) (.seq (.seq (.reg [⟨.t 8,.mov (.p 1),none⟩,
 ⟨.t 9,.assert T_decode_wrong (some (.agg [])) (.t 8),none⟩,⟨.t 7,.mov (.t 9),none⟩,⟨.t 10,.extract (.t 7) 0,none⟩,⟨.t 11,.extract (.t 7) 1,none⟩,⟨.t 2,.alloc [],none⟩,⟨.no,.store 0 (.t 2) (.t 10),none⟩,
 ⟨.p 3,.mov (.t 11),none⟩]) (.seq (.reg [⟨.t 12,.mov (.p 3),none⟩,⟨.p 13,.un .not (.t 12),none⟩]) (.cond (.p 13) (.reg [⟨.t 14,.mov (.p 1),none⟩,⟨.no,.panic (.t 14),none⟩]) (.skip)))) (.reg [⟨.no,.store 1 (.p 0) (.c (.bool false)),none⟩])) (.skip)))
def cf_decode_Dec_more_1 : CFunc :=
{ nargs := 1,ps := [0,1,3,6,13],results := [],body := bd_decode_Dec_more_1 }
def bd_decode_grow : CCode :=
 .seq (.reg [⟨.p 4,.mov (.c (.nils)),none⟩]) (.seq (.reg [⟨.p 5,.mov (.c (.int .u8 128)),none⟩,⟨.p 6,.mov (.c (.int .u8 191)),none⟩]) (.seq (.seq (.reg [⟨.t 7,.mov (.p 0),none⟩,⟨.t 8,.lenSl (.t 7),none⟩,
 ⟨.p 9,.bin .eql (.t 8) (.c (.int .i64 1)),none⟩]) (.cond (.p 9) (.reg [⟨.t 11,.mov (.p 0),none⟩,⟨.t 12,.idxAddr 1 (.t 11) (.c (.int .i64 0)),none⟩,⟨.t 13,.load1 (.t 12),none⟩,⟨.t 14,.call F_decode_second [.t 13],none⟩,
 ⟨.t 10,.mov (.t 14),none⟩,⟨.t 15,.extract (.t 10) 0,none⟩,⟨.t 16,.extract (.t 10) 1,none⟩,⟨.p 5,.mov (.t 15),none⟩,⟨.p 6,.mov (.t 16),none⟩]) (.skip))) (.seq (.seq (.reg [⟨.t 17,.mov (.p 0),none⟩,
 ⟨.t 18,.lenSl (.t 17),none⟩,⟨.t 19,.bin .eql (.t 18) (.c (.int .i64 0)),none⟩,⟨.t 20,.mov (.t 19),none⟩,⟨.t 21,.mov (.p 1),some (.t 20,true)⟩,⟨.t 22,.call F_decode_long [.t 21],some (.t 20,true)⟩,
 ⟨.t 23,.bin .eql (.t 22) (.c (.int .i64 0)),some (.t 20,true)⟩,⟨.t 24,.pick (.t 20) (.t 23) (.c (.bool false)),none⟩,⟨.t 25,.mov (.t 24),none⟩,⟨.t 26,.mov (.p 0),some (.t 25,false)⟩,
 ⟨.t 27,.lenSl (.t 26),some (.t 25,false)⟩,⟨.t 28,.bin .gtr (.t 27) (.c (.int .i64 0)),some (.t 25,false)⟩,⟨.t 29,.mov (.t 28),some (.t 25,false)⟩,⟨.t 30,.mov (.p 1),some (.t 29,true)⟩,
 ⟨.t 31,.mov (.p 5),some (.t 29,true)⟩,⟨.t 32,.bin .lss (.t 30) (.t 31),some (.t 29,true)⟩,⟨.t 33,.mov (.t 32),some (.t 29,true)⟩,⟨.t 34,.mov (.p 1),some (.t 33,false)⟩,⟨.t 35,.mov (.p 6),some (.t 33,false)⟩,
 ⟨.t 36,.bin .gtr (.t 34) (.t 35),some (.t 33,false)⟩,⟨.t 37,.pick (.t 33) (.c (.bool true)) (.t 36),some (.t 29,true)⟩,⟨.t 38,.pick (.t 29) (.t 37) (.c (.bool false)),some (.t 25,false)⟩,
 ⟨.p 39,.pick (.t 25) (.c (.bool true)) (.t 38),none⟩]) (.cond (.p 39) (.reg [⟨.t 40,.build [] [],none⟩,⟨.t 41,.mkIface T_decode_wrong (.t 40),none⟩,⟨.no,.panic (.t 41),none⟩]) (.skip))) (.seq (.reg [⟨.t 42,.mov (.p 0),none⟩,
 ⟨.t 43,.call F_slices_Clone_byte_byte [.t 42],none⟩,⟨.t 44,.mov (.p 1),none⟩,⟨.t 45,.lit [.int .u8 0] 1 [(0,1,.t 44)],none⟩,⟨.t 46,.append 1 1 (.t 43) (.t 45),none⟩,⟨.p 4,.mov (.t 46),none⟩]) (.ret)))))
def cf_decode_grow : CFunc :=
{ nargs := 2,ps := [0,1,4,5,6,9,39],results := [.slot 4],body := bd_decode_grow }
def bd_decode_long : CCode :=
 .seq (.reg [⟨.p 2,.mov (.c (.int .i64 0)),none⟩]) (.seq (.block 0 [] (.seq (.reg [⟨.t 4,.mov (.p 0),none⟩,⟨.t 5,.bin .lss (.t 4) (.c (.int .u8 128)),none⟩,⟨.p 3,.mov (.t 5),none⟩]) (.cond (.p 3) (.seq (.reg [⟨.p 2,.mov (.c (.int .i64 1)),none⟩]) (.ret)) (.seq (.reg [⟨.t 7,.mov (.p 0),none⟩,
 ⟨.t 8,.bin .geq (.t 7) (.c (.int .u8 194)),none⟩,⟨.t 9,.mov (.t 8),none⟩,⟨.t 10,.mov (.p 0),some (.t 9,true)⟩,⟨.t 11,.bin .leq (.t 10) (.c (.int .u8 223)),some (.t 9,true)⟩,⟨.t 12,.pick (.t 9) (.t 11) (.c (.bool false)),none⟩,
 ⟨.p 6,.mov (.t 12),none⟩]) (.cond (.p 6) (.seq (.reg [⟨.p 2,.mov (.c (.int .i64 2)),none⟩]) (.ret)) (.seq (.reg [⟨.t 14,.mov (.p 0),none⟩,⟨.t 15,.bin .geq (.t 14) (.c (.int .u8 224)),none⟩,
 ⟨.t 16,.mov (.t 15),none⟩,⟨.t 17,.mov (.p 0),some (.t 16,true)⟩,⟨.t 18,.bin .leq (.t 17) (.c (.int .u8 239)),some (.t 16,true)⟩,⟨.t 19,.pick (.t 16) (.t 18) (.c (.bool false)),none⟩,
 ⟨.p 13,.mov (.t 19),none⟩]) (.cond (.p 13) (.seq (.reg [⟨.p 2,.mov (.c (.int .i64 3)),none⟩]) (.ret)) (.seq (.reg [⟨.t 21,.mov (.p 0),none⟩,⟨.t 22,.bin .geq (.t 21) (.c (.int .u8 240)),none⟩,
 ⟨.t 23,.mov (.t 22),none⟩,⟨.t 24,.mov (.p 0),some (.t 23,true)⟩,⟨.t 25,.bin .leq (.t 24) (.c (.int .u8 244)),some (.t 23,true)⟩,⟨.t 26,.pick (.t 23) (.t 25) (.c (.bool false)),none⟩,
 ⟨.p 20,.mov (.t 26),none⟩]) (.cond (.p 20) (.seq (.reg [⟨.p 2,.mov (.c (.int .i64 4)),none⟩]) (.ret)) (.skip)))))))))) (.seq (.reg [⟨.p 2,.mov (.c (.int .i64 0)),none⟩]) (.ret)))
def cf_decode_long : CFunc :=
{ nargs := 1,ps := [0,2,3,6,13,20],results := [.slot 2],body := bd_decode_long }
def bd_utf8_decodeRuneSlow : CCode :=
 .seq (.reg [⟨.p 2,.mov (.c (.int .i32 0)),none⟩,⟨.p 3,.mov (.c (.int .i64 0)),none⟩]) (.seq (.reg [⟨.t 13,.mov (.p 0),none⟩,⟨.t 14,.lenSl (.t 13),none⟩,⟨.p 4,.mov (.t 14),none⟩]) (.seq (.seq (.reg [⟨.t 15,.mov (.p 4),none⟩,
 ⟨.p 16,.bin .lss (.t 15) (.c (.int .i64 1)),none⟩]) (.cond (.p 16) (.seq (.reg [⟨.p 2,.mov (.c (.int .i32 65533)),none⟩,⟨.p 3,.mov (.c (.int .i64 0)),none⟩]) (.ret)) (.skip))) (.seq (.reg [⟨.t 17,.mov (.p 0),none⟩,
 ⟨.t 18,.idxAddr 1 (.t 17) (.c (.int .i64 0)),none⟩,⟨.t 19,.load1 (.t 18),none⟩,⟨.p 5,.mov (.t 19),none⟩]) (.seq (.reg [⟨.t 20,.mov (.p 5),none⟩,⟨.t 21,.idxArr 256 1 (.g G_utf8_first) (.t 20),none⟩,
 ⟨.t 22,.load1 (.t 21),none⟩,⟨.p 6,.mov (.t 22),none⟩]) (.seq (.seq (.reg [⟨.t 23,.mov (.p 6),none⟩,⟨.p 24,.bin .geq (.t 23) (.c (.int .u8 240)),none⟩]) (.cond (.p 24) (.seq (.reg [⟨.t 25,.mov (.p 6),none⟩,
 ⟨.t 26,.convI .i32 (.t 25),none⟩,⟨.t 27,.bin .shl (.t 26) (.c (.int .u64 31)),none⟩,⟨.t 28,.bin .shr (.t 27) (.c (.int .u64 31)),none⟩,⟨.p 7,.mov (.t 28),none⟩]) (.seq (.reg [⟨.t 29,.mov (.p 0),none⟩,
 ⟨.t 30,.idxAddr 1 (.t 29) (.c (.int .i64 0)),none⟩,⟨.t 31,.load1 (.t 30),none⟩,⟨.t 32,.convI .i32 (.t 31),none⟩,⟨.t 33,.mov (.p 7),none⟩,⟨.t 34,.bin .andNot (.t 32) (.t 33),none⟩,⟨.t 35,.mov (.p 7),none⟩,
 ⟨.t 36,.bin .and (.c (.int .i32 65533)) (.t 35),none⟩,⟨.t 37,.bin .or (.t 34) (.t 36),none⟩,⟨.p 2,.mov (.t 37),none⟩,⟨.p 3,.mov (.c (.int .i64 1)),none⟩]) (.ret))) (.skip))) (.seq (.reg [⟨.t 38,.mov (.p 6),none⟩,
 ⟨.t 39,.bin .and (.t 38) (.c (.int .u8 7)),none⟩,⟨.t 40,.convI .i64 (.t 39),none⟩,⟨.p 8,.mov (.t 40),none⟩]) (.seq (.reg [⟨.t 41,.mov (.p 6),none⟩,⟨.t 42,.bin .shr (.t 41) (.c (.int .u64 4)),none⟩,
 ⟨.t 43,.idxArr 16 2 (.g G_utf8_acceptRanges) (.t 42),none⟩,⟨.t 44,.loadN 2 (.t 43),none⟩,⟨.p 9,.alloc [.int .u8 0,.int .u8 0],none⟩,⟨.no,.store 2 (.p 9) (.t 44),none⟩]) (.seq (.seq (.reg [⟨.t 45,.mov (.p 4),none⟩,
 ⟨.t 46,.mov (.p 8),none⟩,⟨.p 47,.bin .lss (.t 45) (.t 46),none⟩]) (.cond (.p 47) (.seq (.reg [⟨.p 2,.mov (.c (.int .i32 65533)),none⟩,⟨.p 3,.mov (.c (.int .i64 1)),none⟩]) (.ret)) (.skip))) (.seq (.reg [⟨.t 48,.mov (.p 0),none⟩,
 ⟨.t 49,.idxAddr 1 (.t 48) (.c (.int .i64 1)),none⟩,⟨.t 50,.load1 (.t 49),none⟩,⟨.p 10,.mov (.t 50),none⟩]) (.seq (.seq (.reg [⟨.t 51,.mov (.p 10),none⟩,⟨.t 52,.fieldAddr 0 (.p 9),none⟩,
 ⟨.t 53,.load1 (.t 52),none⟩,⟨.t 54,.bin .lss (.t 51) (.t 53),none⟩,⟨.t 55,.mov (.t 54),none⟩,⟨.t 56,.fieldAddr 1 (.p 9),some (.t 55,false)⟩,⟨.t 57,.load1 (.t 56),some (.t 55,false)⟩,
 ⟨.t 58,.mov (.p 10),some (.t 55,false)⟩,⟨.t 59,.bin .lss (.t 57) (.t 58),some (.t 55,false)⟩,⟨.p 60,.pick (.t 55) (.c (.bool true)) (.t 59),none⟩]) (.cond (.p 60) (.seq (.reg [⟨.p 2,.mov (.c (.int .i32 65533)),none⟩,
 ⟨.p 3,.mov (.c (.int .i64 1)),none⟩]) (.ret)) (.skip))) (.seq (.seq (.reg [⟨.t 61,.mov (.p 8),none⟩,⟨.p 62,.bin .leq (.t 61) (.c (.int .i64 2)),none⟩]) (.cond (.p 62) (.seq (.reg [⟨.t 63,.mov (.p 5),none⟩,
 ⟨.t 64,.bin .and (.t 63) (.c (.int .u8 31)),none⟩,⟨.t 65,.convI .i32 (.t 64),none⟩,⟨.t 66,.bin .shl (.t 65) (.c (.int .u64 6)),none⟩,⟨.t 67,.mov (.p 10),none⟩,⟨.t 68,.bin .and (.t 67) (.c (.int .u8 63)),none⟩,
 ⟨.t 69,.convI .i32 (.t 68),none⟩,⟨.t 70,.bin .or (.t 66) (.t 69),none⟩,⟨.p 2,.mov (.t 70),none⟩,⟨.p 3,.mov (.c (.int .i64 2)),none⟩]) (.ret)) (.skip))) (.seq (.reg [⟨.t 71,.mov (.p 0),none⟩,
 ⟨.t 72,.idxAddr 1 (.t 71) (.c (.int .i64 2)),none⟩,⟨.t 73,.load1 (.t 72),none⟩,⟨.p 11,.mov (.t 73),none⟩]) (.seq (.seq (.reg [⟨.t 74,.mov (.p 11),none⟩,⟨.t 75,.bin .lss (.t 74) (.c (.int .u8 128)),none⟩,
 ⟨.t 76,.mov (.t 75),none⟩,⟨.t 77,.mov (.p 11),some (.t 76,false)⟩,⟨.t 78,.bin .lss (.c (.int .u8 191)) (.t 77),some (.t 76,false)⟩,⟨.p 79,.pick (.t 76) (.c (.bool true)) (.t 78),none⟩]) (.cond (.p 79) (.seq (.reg [⟨.p 2,.mov (.c (.int .i32 65533)),none⟩,
 ⟨.p 3,.mov (.c (.int .i64 1)),none⟩]) (.ret)) (.skip))) (.seq (.seq (.reg [⟨.t 80,.mov (.p 8),none⟩,⟨.p 81,.bin .leq (.t 80) (.c (.int .i64 3)),none⟩]) (.cond (.p 81) (.seq (.reg [⟨.t 82,.mov (.p 5),none⟩,
 ⟨.t 83,.bin .and (.t 82) (.c (.int .u8 15)),none⟩,⟨.t 84,.convI .i32 (.t 83),none⟩,⟨.t 85,.bin .shl (.t 84) (.c (.int .u64 12)),none⟩,⟨.t 86,.mov (.p 10),none⟩,⟨.t 87,.bin .and (.t 86) (.c (.int .u8 63)),none⟩,
 ⟨.t 88,.convI .i32 (.t 87),none⟩,⟨.t 89,.bin .shl (.t 88) (.c (.int .u64 6)),none⟩,⟨.t 90,.bin .or (.t 85) (.t 89),none⟩,⟨.t 91,.mov (.p 11),none⟩,⟨.t 92,.bin .and (.t 91) (.c (.int .u8 63)),none⟩,
 ⟨.t 93,.convI .i32 (.t 92),none⟩,⟨.t 94,.bin .or (.t 90) (.t 93),none⟩,⟨.p 2,.mov (.t 94),none⟩,⟨.p 3,.mov (.c (.int .i64 3)),none⟩]) (.ret)) (.skip))) (.seq (.reg [⟨.t 95,.mov (.p 0),none⟩,
 ⟨.t 96,.idxAddr 1 (.t 95) (.c (.int .i64 3)),none⟩,⟨.t 97,.load1 (.t 96),none⟩,⟨.p 12,.mov (.t 97),none⟩]) (.seq (.seq (.reg [⟨.t 98,.mov (.p 12),none⟩,⟨.t 99,.bin .lss (.t 98) (.c (.int .u8 128)),none⟩,
 ⟨.t 100,.mov (.t 99),none⟩,⟨.t 101,.mov (.p 12),some (.t 100,false)⟩,⟨.t 102,.bin .lss (.c (.int .u8 191)) (.t 101),some (.t 100,false)⟩,⟨.p 103,.pick (.t 100) (.c (.bool true)) (.t 102),none⟩]) (.cond (.p 103) (.seq (.reg [⟨.p 2,.mov (.c (.int .i32 65533)),none⟩,
 ⟨.p 3,.mov (.c (.int .i64 1)),none⟩]) (.ret)) (.skip))) (.seq (.reg [⟨.t 104,.mov (.p 5),none⟩,⟨.t 105,.bin .and (.t 104) (.c (.int .u8 7)),none⟩,⟨.t 106,.convI .i32 (.t 105),none⟩,
 ⟨.t 107,.bin .shl (.t 106) (.c (.int .u64 18)),none⟩,⟨.t 108,.mov (.p 10),none⟩,⟨.t 109,.bin .and (.t 108) (.c (.int .u8 63)),none⟩,⟨.t 110,.convI .i32 (.t 109),none⟩,⟨.t 111,.bin .shl (.t 110) (.c (.int .u64 12)),none⟩,
 ⟨.t 112,.bin .or (.t 107) (.t 111),none⟩,⟨.t 113,.mov (.p 11),none⟩,⟨.t 114,.bin .and (.t 113) (.c (.int .u8 63)),none⟩,⟨.t 115,.convI .i32 (.t 114),none⟩,⟨.t 116,.bin .shl (.t 115) (.c (.int .u64 6)),none⟩,
 ⟨.t 117,.bin .or (.t 112) (.t 116),none⟩,⟨.t 118,.mov (.p 12),none⟩,⟨.t 119,.bin .and (.t 118) (.c (.int .u8 63)),none⟩,⟨.t 120,.convI .i32 (.t 119),none⟩,⟨.t 121,.bin .or (.t 117) (.t 120),none⟩,
 ⟨.p 2,.mov (.t 121),none⟩,⟨.p 3,.mov (.c (.int .i64 4)),none⟩]) (.ret))))))))))))))))))
def cf_utf8_decodeRuneSlow : CFunc :=
{ nargs := 1,ps := [0,2,3,4,5,6,7,8,9,10,11,12,16,24,47,60,62,79,81,103],results := [.slot 2,.slot 3],body := bd_utf8_decodeRuneSlow }
def bd_word_hex : CCode :=
 .seq (.reg [⟨.p 2,.mov (.c (.int .i32 0)),none⟩]) (.seq (.block 0 [] (.seq (.reg [⟨.t 4,.mov (.p 0),none⟩,⟨.t 5,.bin .geq (.t 4) (.c (.int .i32 48)),none⟩,⟨.t 6,.mov (.t 5),none⟩,⟨.t 7,.mov (.p 0),some (.t 6,true)⟩,
 ⟨.t 8,.bin .leq (.t 7) (.c (.int .i32 57)),some (.t 6,true)⟩,⟨.t 9,.pick (.t 6) (.t 8) (.c (.bool false)),none⟩,⟨.p 3,.mov (.t 9),none⟩]) (.cond (.p 3) (.seq (.reg [⟨.t 10,.mov (.p 0),none⟩,
 ⟨.t 11,.bin .sub (.t 10) (.c (.int .i32 48)),none⟩,⟨.p 2,.mov (.t 11),none⟩]) (.ret)) (.seq (.reg [⟨.t 13,.mov (.p 0),none⟩,⟨.t 14,.bin .geq (.t 13) (.c (.int .i32 65)),none⟩,⟨.t 15,.mov (.t 14),none⟩,
 ⟨.t 16,.mov (.p 0),some (.t 15,true)⟩,⟨.t 17,.bin .leq (.t 16) (.c (.int .i32 70)),some (.t 15,true)⟩,⟨.t 18,.pick (.t 15) (.t 17) (.c (.bool false)),none⟩,⟨.p 12,.mov (.t 18),none⟩]) (.cond (.p 12) (.seq (.reg [⟨.t 19,.mov (.p 0),none⟩,
 ⟨.t 20,.bin .sub (.t 19) (.c (.int .i32 65)),none⟩,⟨.t 21,.bin .add (.t 20) (.c (.int .i32 10)),none⟩,⟨.p 2,.mov (.t 21),none⟩]) (.ret)) (.skip)))))) (.seq (.reg [⟨.p 2,.mov (.c (.int .i32 (-1))),none⟩]) (.ret)))
def cf_word_hex : CFunc :=
{ nargs := 1,ps := [0,2,3,12],results := [.slot 2],body := bd_word_hex }
def lb_slices_Index_string_string_0 : CCode :=
 .seq (.reg [⟨.p 9,.bin .lss (.p 8) (.p 7),none⟩]) (.seq (.cond (.p 9) (.skip) (.exit 0)) (.seq (.block 1 [0,1,7,8] (.seq (.reg [⟨.t 10,.mov (.p 8),none⟩,⟨.p 5,.mov (.t 10),none⟩]) (.seq (.reg [⟨.t 11,.mov (.p 1),none⟩,
 ⟨.t 12,.mov (.p 0),none⟩,⟨.t 13,.mov (.p 5),none⟩,⟨.t 14,.idxAddr 1 (.t 12) (.t 13),none⟩,⟨.t 15,.load1 (.t 14),none⟩,⟨.p 16,.bin .eql (.t 11) (.t 15),none⟩]) (.cond (.p 16) (.seq (.stuck) (.ret)) (.skip))))) (.reg [⟨.t 18,.bin .add (.p 8) (.c (.int .i64 1)),none⟩,
 ⟨.p 8,.mov (.t 18),none⟩])))
def bd_slices_Index_string_string : CCode :=
 .seq (.reg [⟨.p 4,.mov (.c (.int .i64 0)),none⟩]) (.seq (.seq (.reg [⟨.t 6,.mov (.p 0),none⟩,⟨.p 7,.lenSl (.t 6),none⟩,⟨.p 8,.mov (.c (.int .i64 0)),none⟩]) (.block 0 [] (.loop [0,1,7,8] lb_slices_Index_string_string_0))) (.seq (.reg [⟨.p 4,.mov (.c (.int .i64 (-1))),none⟩]) (.ret)))
def cf_slices_Index_string_string : CFunc :=
{ nargs := 2,ps := [0,1,4,5,7,8,9,16],results := [.slot 4],body := bd_slices_Index_string_string }
def bd_bits_Len64 : CCode :=
 .seq (.reg [⟨.p 2,.mov (.c (.int .i64 0)),none⟩]) (.seq (.seq (.reg [⟨.t 3,.mov (.p 0),none⟩,⟨.p 4,.bin .geq (.t 3) (.c (.int .u64 4294967296)),none⟩]) (.cond (.p 4) (.seq (.reg [⟨.t 5,.mov (.p 0),none⟩,
 ⟨.t 6,.bin .shr (.t 5) (.c (.int .u64 32)),none⟩,⟨.p 0,.mov (.t 6),none⟩]) (.reg [⟨.p 2,.mov (.c (.int .i64 32)),none⟩])) (.skip))) (.seq (.seq (.reg [⟨.t 7,.mov (.p 0),none⟩,⟨.p 8,.bin .geq (.t 7) (.c (.int .u64 65536)),none⟩]) (.cond (.p 8) (.seq (.reg [⟨.t 9,.mov (.p 0),none⟩,
 ⟨.t 10,.bin .shr (.t 9) (.c (.int .u64 16)),none⟩,⟨.p 0,.mov (.t 10),none⟩]) (.reg [⟨.t 11,.mov (.p 2),none⟩,⟨.t 12,.bin .add (.t 11) (.c (.int .i64 16)),none⟩,⟨.p 2,.mov (.t 12),none⟩])) (.skip))) (.seq (.seq (.reg [⟨.t 13,.mov (.p 0),none⟩,
 ⟨.p 14,.bin .geq (.t 13) (.c (.int .u64 256)),none⟩]) (.cond (.p 14) (.seq (.reg [⟨.t 15,.mov (.p 0),none⟩,⟨.t 16,.bin .shr (.t 15) (.c (.int .u64 8)),none⟩,⟨.p 0,.mov (.t 16),none⟩]) (.reg [⟨.t 17,.mov (.p 2),none⟩,
 ⟨.t 18,.bin .add (.t 17) (.c (.int .i64 8)),none⟩,⟨.p 2,.mov (.t 18),none⟩])) (.skip))) (.seq (.reg [⟨.t 19,.mov (.p 2),none⟩,⟨.t 20,.mov (.p 0),none⟩,⟨.t 21,.convI .u8 (.t 20),none⟩,
 ⟨.t 22,.idxStr (.c (.str [0,1,2,2,3,3,3,3,4,4,4,4,4,4,4,4,5,5,5,5,5,5,5,5,5,5,5,5,5,5,5,5,6,6,6,6,6,6,6,6,6,6,6,6,6,6,6,6,6,6,6,6,6,6,6,6,6,6,6,6,6,6,6,6,7,7,7,7,7,7,7,7,7,7,7,7,7,7,7,7,7,7,7,7,7,7,7,7,7,7,7,7,7,7,7,7,7,7,7,7,7,7,7,7,7,7,7,7,7,7,7,7,7,7,7,7,7,7,7,7,7,7,7,7,7,7,7,7,8,8,8,8,8,8,8,8,8,8,8,8,8,8,8,8,8,8,8,8,8,8,8,8,8,8,8,8,8,8,8,8,8,8,8,8,8,8,8,8,8,8,8,8,8,8,8,8,8,8,8,8,8,8,8,8,8,8,8,8,8,8,8,8,8,8,8,8,8,8,8,8,8,8,8,8,8,8,8,8,8,8,8,8,8,8,8,8,8,8,8,8,8,8,8,8,8,8,8,8,8,8,8,8,8,8,8,8,8,8,8,8,8,8,8,8,8,8,8,8,8,8,8,8,8,8,8,8])) (.t 21),none⟩,
 ⟨.t 23,.convI .i64 (.t 22),none⟩,⟨.t 24,.bin .add (.t 19) (.t 23),none⟩,⟨.p 2,.mov (.t 24),none⟩]) (.ret)))))
def cf_bits_Len64 : CFunc :=
{ nargs := 1,ps := [0,2,4,8,14],results := [.slot 2],body := bd_bits_Len64 }
def bd_strconv_isPowerOfTwo : CCode :=
 .seq (.reg [⟨.p 2,.mov (.c (.bool false)),none⟩]) (.seq (.reg [⟨.t 3,.mov (.p 0),none⟩,⟨.t 4,.mov (.p 0),none⟩,⟨.t 5,.bin .sub (.t 4) (.c (.int .i64 1)),none⟩,⟨.t 6,.bin .and (.t 3) (.t 5),none⟩,
 ⟨.t 7,.bin .eql (.t 6) (.c (.int .i64 0)),none⟩,⟨.p 2,.mov (.t 7),none⟩]) (.ret))
def cf_strconv_isPowerOfTwo : CFunc :=
{ nargs := 1,ps := [0,2],results := [.slot 2],body := bd_strconv_isPowerOfTwo }
def bd_bits_TrailingZeros : CCode :=
 .seq (.reg [⟨.p 2,.mov (.c (.int .i64 0)),none⟩]) (.seq (.cond (.c (.bool false)) (.seq (.stuck) (.ret)) (.skip)) (.seq (.reg [⟨.t 6,.mov (.p 0),none⟩,⟨.t 7,.call F_bits_TrailingZeros64 [.t 6],none⟩,
 ⟨.p 2,.mov (.t 7),none⟩]) (.ret)))
def cf_bits_TrailingZeros : CFunc :=
{ nargs := 1,ps := [0,2],results := [.slot 2],body := bd_bits_TrailingZeros }
def lb_slices_insertionSortCmpFunc_runes_span_0 : CCode :=
 .seq (.seq (.dreg [⟨⟨.t 18,.mov (.p 9),none⟩,false,false,[]⟩,⟨⟨.t 19,.mov (.p 1),none⟩,false,false,[]⟩,⟨⟨.t 20,.bin .gtr (.t 18) (.t 19),none⟩,false,false,[]⟩,⟨⟨.t 21,.mov (.t 20),none⟩,false,false,[]⟩,
 ⟨⟨.t 22,.mov (.p 3),some (.t 21,true)⟩,false,false,[]⟩,⟨⟨.t 23,.mov (.p 0),some (.t 21,true)⟩,false,false,[]⟩,⟨⟨.t 24,.mov (.p 9),some (.t 21,true)⟩,false,false,[]⟩,⟨⟨.t 25,.idxAddr 2 (.t 23) (.t 24),some (.t 21,true)⟩,false,false,[]⟩,
 ⟨⟨.t 26,.loadN 2 (.t 25),some (.t 21,true)⟩,false,false,[]⟩,⟨⟨.t 27,.mov (.p 0),some (.t 21,true)⟩,false,false,[]⟩,⟨⟨.t 28,.mov (.p 9),some (.t 21,true)⟩,false,false,[]⟩,⟨⟨.t 29,.bin .sub (.t 28) (.c (.int .i64 1)),some (.t 21,true)⟩,false,false,[]⟩,
 ⟨⟨.t 30,.idxAddr 2 (.t 27) (.t 29),some (.t 21,true)⟩,false,false,[]⟩,⟨⟨.t 31,.loadN 2 (.t 30),some (.t 21,true)⟩,false,false,[]⟩,⟨⟨.t 32,.callV (.t 22) [.t 26,.t 31],some (.t 21,true)⟩,false,false,[]⟩,
 ⟨⟨.t 33,.bin .lss (.t 32) (.c (.int .i64 0)),some (.t 21,true)⟩,false,false,[]⟩,⟨⟨.p 34,.pick (.t 21) (.t 33) (.c (.bool false)),none⟩,false,false,[]⟩]) (.cond (.p 34) (.skip) (.exit 2))) (.seq (.block 3 [0,1,2,3,8,9] (.dreg [⟨⟨.t 37,.mov (.p 0),none⟩,false,false,[]⟩,
 ⟨⟨.t 38,.mov (.p 9),none⟩,false,false,[]⟩,⟨⟨.t 39,.mov (.p 0),none⟩,false,false,[]⟩,⟨⟨.t 40,.mov (.p 9),none⟩,false,false,[]⟩,⟨⟨.t 41,.bin .sub (.t 40) (.c (.int .i64 1)),none⟩,false,false,[]⟩,
 ⟨⟨.t 42,.mov (.p 0),none⟩,false,false,[]⟩,⟨⟨.t 43,.mov (.p 9),none⟩,false,false,[]⟩,⟨⟨.t 44,.bin .sub (.t 43) (.c (.int .i64 1)),none⟩,false,false,[]⟩,⟨⟨.t 45,.idxAddr 2 (.t 42) (.t 44),none⟩,false,false,[]⟩,
 ⟨⟨.t 46,.loadN 2 (.t 45),none⟩,false,false,[]⟩,⟨⟨.t 47,.mov (.p 0),none⟩,false,false,[]⟩,⟨⟨.t 48,.mov (.p 9),none⟩,false,false,[]⟩,⟨⟨.t 49,.idxAddr 2 (.t 47) (.t 48),none⟩,false,false,[]⟩,
 ⟨⟨.t 50,.loadN 2 (.t 49),none⟩,false,false,[]⟩,⟨⟨.t 51,.idxAddr 2 (.t 37) (.t 38),none⟩,false,false,[]⟩,⟨⟨.no,.store 2 (.t 51) (.t 46),none⟩,false,false,[]⟩,⟨⟨.t 52,.idxAddr 2 (.t 39) (.t 41),none⟩,false,false,[]⟩,
 ⟨⟨.no,.store 2 (.t 52) (.t 50),none⟩,false,false,[]⟩])) (.reg [⟨.t 35,.mov (.p 9),none⟩,⟨.t 36,.bin .sub (.t 35) (.c (.int .i64 1)),none⟩,⟨.p 9,.mov (.t 36),none⟩]))
def lb_slices_insertionSortCmpFunc_runes_span_1 : CCode :=
 .seq (.seq (.reg [⟨.t 12,.mov (.p 8),none⟩,⟨.t 13,.mov (.p 2),none⟩,⟨.p 14,.bin .lss (.t 12) (.t 13),none⟩]) (.cond (.p 14) (.skip) (.exit 0))) (.seq (.block 1 [0,1,2,3,8] (.seq (.reg [⟨.t 17,.mov (.p 8),none⟩,
 ⟨.p 9,.mov (.t 17),none⟩]) (.block 2 [0,1,2,3,8] (.loop [0,1,2,3,8,9] lb_slices_insertionSortCmpFunc_runes_span_0)))) (.reg [⟨.t 15,.mov (.p 8),none⟩,⟨.t 16,.bin .add (.t 15) (.c (.int .i64 1)),none⟩,
 ⟨.p 8,.mov (.t 16),none⟩]))
def bd_slices_insertionSortCmpFunc_runes_span : CCode :=
 .seq (.reg [⟨.t 10,.mov (.p 1),none⟩,⟨.t 11,.bin .add (.t 10) (.c (.int .i64 1)),none⟩,⟨.p 8,.mov (.t 11),none⟩]) (.block 0 [] (.loop [0,1,2,3,8] lb_slices_insertionSortCmpFunc_runes_span_1))
def cf_slices_insertionSortCmpFunc_runes_span : CFunc :=
{ nargs := 4,ps := [0,1,2,3,8,9,14,34],results := [],body := bd_slices_insertionSortCmpFunc_runes_span }
def bd_decode_second : CCode :=
 .seq (.reg [⟨.p 2,.mov (.c (.int .u8 0)),none⟩,⟨.p 3,.mov (.c (.int .u8 0)),none⟩]) (.seq (.seq (.reg [⟨.p 4,.mov (.p 0),none⟩]) (.block 0 [] (.seq (.reg [⟨.t 6,.bin .eql (.p 4) (.c (.int .u8 224)),none⟩,
 ⟨.p 5,.mov (.t 6),none⟩]) (.cond (.p 5) (.seq (.reg [⟨.p 2,.mov (.c (.int .u8 160)),none⟩,⟨.p 3,.mov (.c (.int .u8 191)),none⟩]) (.ret)) (.seq (.reg [⟨.t 8,.bin .eql (.p 4) (.c (.int .u8 237)),none⟩,
 ⟨.p 7,.mov (.t 8),none⟩]) (.cond (.p 7) (.seq (.reg [⟨.p 2,.mov (.c (.int .u8 128)),none⟩,⟨.p 3,.mov (.c (.int .u8 159)),none⟩]) (.ret)) (.seq (.reg [⟨.t 10,.bin .eql (.p 4) (.c (.int .u8 240)),none⟩,
 ⟨.p 9,.mov (.t 10),none⟩]) (.cond (.p 9) (.seq (.reg [⟨.p 2,.mov (.c (.int .u8 144)),none⟩,⟨.p 3,.mov (.c (.int .u8 191)),none⟩]) (.ret)) (.seq (.reg [⟨.t 12,.bin .eql (.p 4) (.c (.int .u8 244)),none⟩,
 ⟨.p 11,.mov (.t 12),none⟩]) (.cond (.p 11) (.seq (.reg [⟨.p 2,.mov (.c (.int .u8 128)),none⟩,⟨.p 3,.mov (.c (.int .u8 143)),none⟩]) (.ret)) (.skip))))))))))) (.seq (.reg [⟨.p 2,.mov (.c (.int .u8 128)),none⟩,
 ⟨.p 3,.mov (.c (.int .u8 191)),none⟩]) (.ret)))
def cf_decode_second : CFunc :=
{ nargs := 1,ps := [0,2,3,4,5,7,9,11],results := [.slot 2,.slot 3],body := bd_decode_second }
def bd_slices_Clone_byte_byte : CCode :=
 .seq (.reg [⟨.p 2,.mov (.c (.nils)),none⟩]) (.seq (.seq (.reg [⟨.t 3,.mov (.p 0),none⟩,⟨.p 4,.eqv false .slice (.t 3) (.c (.nils)),none⟩]) (.cond (.p 4) (.seq (.reg [⟨.p 2,.mov (.c (.nils)),none⟩]) (.ret)) (.skip))) (.seq (.reg [⟨.t 5,.lit [] 0 [],none⟩,
 ⟨.t 6,.mov (.p 0),none⟩,⟨.t 7,.append 1 1 (.t 5) (.t 6),none⟩,⟨.p 2,.mov (.t 7),none⟩]) (.ret)))
def cf_slices_Clone_byte_byte : CFunc :=
{ nargs := 1,ps := [0,2,4],results := [.slot 2],body := bd_slices_Clone_byte_byte }
def bd_bits_TrailingZeros64 : CCode :=
 .seq (.reg [⟨.p 2,.mov (.c (.int .i64 0)),none⟩]) (.seq (.seq (.reg [⟨.t 3,.mov (.p 0),none⟩,⟨.p 4,.bin .eql (.t 3) (.c (.int .u64 0)),none⟩]) (.cond (.p 4) (.seq (.stuck) (.ret)) (.skip))) (.seq (.reg [⟨.t 5,.mov (.p 0),none⟩,
 ⟨.t 6,.mov (.p 0),none⟩,⟨.t 7,.un .neg (.t 6),none⟩,⟨.t 8,.bin .and (.t 5) (.t 7),none⟩,⟨.t 9,.bin .mul (.t 8) (.c (.int .u64 285870213051353865)),none⟩,⟨.t 10,.bin .shr (.t 9) (.c (.int .u64 58)),none⟩,
 ⟨.t 11,.idxArr 64 1 (.g G_bits_deBruijn64tab) (.t 10),none⟩,⟨.t 12,.load1 (.t 11),none⟩,⟨.t 13,.convI .i64 (.t 12),none⟩,⟨.p 2,.mov (.t 13),none⟩]) (.ret)))
def cf_bits_TrailingZeros64 : CFunc :=
{ nargs := 1,ps := [0,2,4],results := [.slot 2],body := bd_bits_TrailingZeros64 }
end Go.Ev
