/- Functions of the program, printed by gen.py. -/
import Derived.Test.YtfkdecamhepibaaGreatDoorT02
set_option linter.unusedSimpArgs false
set_option linter.unusedVariables false
namespace Go.Ev
open Go
def lb_goboref11_among_0 : CCode :=
 .seq (.seq (.reg [⟨.t 6,.mov (.p 5),none⟩,⟨.t 7,.mov (.p 0),none⟩,⟨.t 8,.lenStr (.t 7),none⟩,⟨.p 9,.bin .lss (.t 6) (.t 8),none⟩]) (.cond (.p 9) (.skip) (.exit 0))) (.seq (.block 1 [0,1,5] (.seq (.reg [⟨.t 12,.mov (.p 0),none⟩,
 ⟨.t 13,.mov (.p 5),none⟩,⟨.t 14,.idxStr (.t 12) (.t 13),none⟩,⟨.t 15,.convI .i32 (.t 14),none⟩,⟨.t 16,.mov (.p 1),none⟩,⟨.p 17,.bin .eql (.t 15) (.t 16),none⟩]) (.cond (.p 17) (.seq (.reg [⟨.p 4,.mov (.c (.bool true)),none⟩]) (.ret)) (.skip)))) (.reg [⟨.t 10,.mov (.p 5),none⟩,
 ⟨.t 11,.bin .add (.t 10) (.c (.int .i64 1)),none⟩,⟨.p 5,.mov (.t 11),none⟩]))
def bd_goboref11_among : CCode :=
 .seq (.reg [⟨.p 4,.mov (.c (.bool false)),none⟩]) (.seq (.seq (.reg [⟨.p 5,.mov (.c (.int .i64 0)),none⟩]) (.block 0 [] (.loop [0,1,5] lb_goboref11_among_0))) (.seq (.reg [⟨.p 4,.mov (.c (.bool false)),none⟩]) (.ret)))
def cf_goboref11_among : CFunc :=
{ nargs := 2,ps := [0,1,4,5,9,17],results := [.slot 4],body := bd_goboref11_among }
def lb_goboref3_pick_0 : CCode :=
 .seq (.seq (.reg [⟨.t 23,.mov (.p 11),none⟩,⟨.t 24,.bin .add (.t 23) (.c (.int .i64 1)),none⟩,⟨.t 25,.mov (.p 8),none⟩,⟨.t 26,.lenSl (.t 25),none⟩,⟨.p 27,.bin .lss (.t 24) (.t 26),none⟩]) (.cond (.p 27) (.skip) (.exit 0))) (.seq (.block 1 [0,1,2,8,9,10,11] (.seq (.dreg [⟨⟨.t 30,.mov (.p 0),none⟩,false,false,[]⟩,
 ⟨⟨.t 31,.mov (.p 8),none⟩,false,false,[]⟩,⟨⟨.t 32,.mov (.p 11),none⟩,false,false,[]⟩,⟨⟨.t 33,.idxAddr 1 (.t 31) (.t 32),none⟩,false,false,[]⟩,⟨⟨.t 34,.load1 (.t 33),none⟩,false,false,[]⟩,
 ⟨⟨.t 35,.call F_goboref3_in [.t 30,.t 34],none⟩,true,false,[]⟩,⟨⟨.t 36,.mov (.p 1),none⟩,false,false,[]⟩,⟨⟨.t 37,.mov (.p 8),none⟩,false,false,[]⟩,⟨⟨.t 38,.mov (.p 11),none⟩,false,false,[]⟩,
 ⟨⟨.t 39,.idxAddr 1 (.t 37) (.t 38),none⟩,false,false,[]⟩,⟨⟨.t 40,.load1 (.t 39),none⟩,false,false,[5]⟩,⟨⟨.t 41,.call F_goboref3_in [.t 36,.t 40],none⟩,false,false,[]⟩,⟨⟨.p 12,.mov (.t 35),none⟩,false,false,[]⟩,
 ⟨⟨.p 13,.mov (.t 41),none⟩,false,false,[]⟩]) (.seq (.reg [⟨.t 42,.mov (.p 2),none⟩,⟨.t 43,.bin .eql (.t 42) (.c (.int .i64 1)),none⟩,⟨.t 44,.mov (.t 43),none⟩,⟨.t 45,.mov (.p 12),some (.t 44,true)⟩,
 ⟨.t 46,.pick (.t 44) (.t 45) (.c (.bool false)),none⟩,⟨.t 47,.mov (.t 46),none⟩,⟨.t 48,.mov (.p 2),some (.t 47,false)⟩,⟨.t 49,.bin .eql (.t 48) (.c (.int .i64 2)),some (.t 47,false)⟩,
 ⟨.t 50,.mov (.t 49),some (.t 47,false)⟩,⟨.t 51,.mov (.p 13),some (.t 50,true)⟩,⟨.t 52,.pick (.t 50) (.t 51) (.c (.bool false)),some (.t 47,false)⟩,⟨.t 53,.pick (.t 47) (.c (.bool true)) (.t 52),none⟩,
 ⟨.t 54,.mov (.t 53),none⟩,⟨.t 55,.mov (.p 2),some (.t 54,false)⟩,⟨.t 56,.bin .eql (.t 55) (.c (.int .i64 3)),some (.t 54,false)⟩,⟨.t 57,.mov (.t 56),some (.t 54,false)⟩,⟨.t 58,.mov (.p 12),some (.t 57,true)⟩,
 ⟨.t 59,.mov (.t 58),some (.t 57,true)⟩,⟨.t 60,.mov (.p 13),some (.t 59,false)⟩,⟨.t 61,.pick (.t 59) (.c (.bool true)) (.t 60),some (.t 57,true)⟩,⟨.t 62,.pick (.t 57) (.t 61) (.c (.bool false)),some (.t 54,false)⟩,
 ⟨.t 63,.pick (.t 54) (.c (.bool true)) (.t 62),none⟩,⟨.t 64,.mov (.t 63),none⟩,⟨.t 65,.mov (.p 2),some (.t 64,false)⟩,⟨.t 66,.bin .eql (.t 65) (.c (.int .i64 4)),some (.t 64,false)⟩,
 ⟨.t 67,.mov (.t 66),some (.t 64,false)⟩,⟨.t 68,.mov (.p 12),some (.t 67,true)⟩,⟨.t 69,.pick (.t 67) (.t 68) (.c (.bool false)),some (.t 64,false)⟩,⟨.t 70,.mov (.t 69),some (.t 64,false)⟩,
 ⟨.t 71,.mov (.p 13),some (.t 70,true)⟩,⟨.t 72,.pick (.t 70) (.t 71) (.c (.bool false)),some (.t 64,false)⟩,⟨.t 73,.pick (.t 64) (.c (.bool true)) (.t 72),none⟩,⟨.t 74,.mov (.t 73),none⟩,
 ⟨.t 75,.mov (.p 2),some (.t 74,false)⟩,⟨.t 76,.bin .eql (.t 75) (.c (.int .i64 5)),some (.t 74,false)⟩,⟨.t 77,.mov (.t 76),some (.t 74,false)⟩,⟨.t 78,.mov (.p 12),some (.t 77,true)⟩,
 ⟨.t 79,.un .not (.t 78),some (.t 77,true)⟩,⟨.t 80,.pick (.t 77) (.t 79) (.c (.bool false)),some (.t 74,false)⟩,⟨.t 81,.pick (.t 74) (.c (.bool true)) (.t 80),none⟩,⟨.p 14,.mov (.t 81),none⟩]) (.seq (.seq (.reg [⟨.t 82,.mov (.p 14),none⟩,
 ⟨.t 83,.mov (.t 82),none⟩,⟨.t 84,.mov (.p 10),some (.t 83,true)⟩,⟨.t 85,.un .not (.t 84),some (.t 83,true)⟩,⟨.p 86,.pick (.t 83) (.t 85) (.c (.bool false)),none⟩]) (.cond (.p 86) (.reg [⟨.t 87,.mov (.p 9),none⟩,
 ⟨.t 88,.mov (.p 8),none⟩,⟨.t 89,.mov (.p 11),none⟩,⟨.t 90,.idxAddr 1 (.t 88) (.t 89),none⟩,⟨.t 91,.load1 (.t 90),none⟩,⟨.t 92,.call F_goboref3_at [.t 91],none⟩,⟨.t 93,.build [.int .i32 0,.int .i32 0] [(0,1,.t 92)],none⟩,
 ⟨.t 94,.lit [.int .i32 0,.int .i32 0] 1 [(0,2,.t 93)],none⟩,⟨.t 95,.append 2 8 (.t 87) (.t 94),none⟩,⟨.p 9,.mov (.t 95),none⟩]) (.skip))) (.seq (.seq (.reg [⟨.p 96,.mov (.p 14),none⟩]) (.cond (.p 96) (.reg [⟨.t 97,.mov (.p 9),none⟩,
 ⟨.t 98,.mov (.p 9),none⟩,⟨.t 99,.lenSl (.t 98),none⟩,⟨.t 100,.bin .sub (.t 99) (.c (.int .i64 1)),none⟩,⟨.t 101,.mov (.p 8),none⟩,⟨.t 102,.mov (.p 11),none⟩,⟨.t 103,.bin .add (.t 102) (.c (.int .i64 1)),none⟩,
 ⟨.t 104,.idxAddr 1 (.t 101) (.t 103),none⟩,⟨.t 105,.load1 (.t 104),none⟩,⟨.t 106,.bin .sub (.t 105) (.c (.int .i64 1)),none⟩,⟨.t 107,.call F_goboref3_at [.t 106],none⟩,⟨.t 108,.idxAddr 2 (.t 97) (.t 100),none⟩,
 ⟨.t 109,.fieldAddr 1 (.t 108),none⟩,⟨.no,.store 1 (.t 109) (.t 107),none⟩]) (.skip))) (.reg [⟨.t 110,.mov (.p 14),none⟩,⟨.p 10,.mov (.t 110),none⟩])))))) (.reg [⟨.t 28,.mov (.p 11),none⟩,
 ⟨.t 29,.bin .add (.t 28) (.c (.int .i64 1)),none⟩,⟨.p 11,.mov (.t 29),none⟩]))
def bd_goboref3_pick : CCode :=
 .seq (.reg [⟨.p 6,.mov (.c (.nils)),none⟩]) (.seq (.reg [⟨.t 15,.build [.int .i64 0,.int .i64 0] [(0,1,.c (.int .i64 0)),(1,1,.c (.int .i64 1112064))],none⟩,⟨.t 16,.lit [.int .i64 0,.int .i64 0] 1 [(0,2,.t 15)],none⟩,
 ⟨.t 17,.mov (.p 0),none⟩,⟨.t 18,.append 2 16 (.t 16) (.t 17),none⟩,⟨.t 19,.mov (.p 1),none⟩,⟨.t 20,.append 2 16 (.t 18) (.t 19),none⟩,⟨.p 7,.mov (.t 20),none⟩]) (.seq (.reg [⟨.t 21,.mov (.p 7),none⟩,
 ⟨.t 22,.call F_goboref3_cuts [.t 21],none⟩,⟨.p 8,.mov (.t 22),none⟩]) (.seq (.reg [⟨.p 9,.mov (.c (.nils)),none⟩]) (.seq (.reg [⟨.p 10,.mov (.c (.bool false)),none⟩]) (.seq (.seq (.reg [⟨.p 11,.mov (.c (.int .i64 0)),none⟩]) (.block 0 [9] (.loop [0,1,2,8,9,10,11] lb_goboref3_pick_0))) (.seq (.reg [⟨.t 111,.mov (.p 9),none⟩,
 ⟨.p 6,.mov (.t 111),none⟩]) (.ret)))))))
def cf_goboref3_pick : CFunc :=
{ nargs := 3,ps := [0,1,2,6,7,8,9,10,11,12,13,14,27,86,96],results := [.slot 6],body := bd_goboref3_pick }
def lb_goboref3_cells_0 : CCode :=
 .seq (.seq (.reg [⟨.t 7,.mov (.p 4),none⟩,⟨.t 8,.mov (.p 0),none⟩,⟨.t 9,.lenSl (.t 8),none⟩,⟨.p 10,.bin .lss (.t 7) (.t 9),none⟩]) (.cond (.p 10) (.skip) (.exit 0))) (.seq (.block 1 [0,3,4] (.seq (.seq (.dreg [⟨⟨.t 13,.mov (.p 0),none⟩,false,false,[]⟩,
 ⟨⟨.t 14,.mov (.p 4),none⟩,false,false,[]⟩,⟨⟨.t 15,.idxAddr 2 (.t 13) (.t 14),none⟩,false,false,[]⟩,⟨⟨.t 16,.fieldAddr 0 (.t 15),none⟩,false,false,[]⟩,⟨⟨.t 17,.load1 (.t 16),none⟩,false,false,[]⟩,
 ⟨⟨.t 18,.mov (.p 0),none⟩,false,false,[]⟩,⟨⟨.t 19,.mov (.p 4),none⟩,false,false,[]⟩,⟨⟨.t 20,.idxAddr 2 (.t 18) (.t 19),none⟩,false,false,[]⟩,⟨⟨.t 21,.fieldAddr 1 (.t 20),none⟩,false,false,[]⟩,
 ⟨⟨.t 22,.load1 (.t 21),none⟩,false,false,[]⟩,⟨⟨.t 23,.bin .gtr (.t 17) (.t 22),none⟩,false,false,[]⟩,⟨⟨.t 24,.mov (.t 23),none⟩,false,false,[]⟩,⟨⟨.t 25,.mov (.p 0),some (.t 24,false)⟩,false,false,[]⟩,
 ⟨⟨.t 26,.mov (.p 4),some (.t 24,false)⟩,false,false,[]⟩,⟨⟨.t 27,.idxAddr 2 (.t 25) (.t 26),some (.t 24,false)⟩,false,false,[]⟩,⟨⟨.t 28,.fieldAddr 1 (.t 27),some (.t 24,false)⟩,false,false,[]⟩,
 ⟨⟨.t 29,.load1 (.t 28),some (.t 24,false)⟩,false,false,[]⟩,⟨⟨.t 30,.bin .lss (.t 29) (.c (.int .i32 0)),some (.t 24,false)⟩,false,false,[]⟩,⟨⟨.t 31,.pick (.t 24) (.c (.bool true)) (.t 30),none⟩,false,false,[]⟩,
 ⟨⟨.t 32,.mov (.t 31),none⟩,false,false,[]⟩,⟨⟨.t 33,.mov (.p 0),some (.t 32,false)⟩,false,false,[]⟩,⟨⟨.t 34,.mov (.p 4),some (.t 32,false)⟩,false,false,[]⟩,⟨⟨.t 35,.idxAddr 2 (.t 33) (.t 34),some (.t 32,false)⟩,false,false,[]⟩,
 ⟨⟨.t 36,.fieldAddr 0 (.t 35),some (.t 32,false)⟩,false,false,[]⟩,⟨⟨.t 37,.load1 (.t 36),some (.t 32,false)⟩,false,false,[]⟩,⟨⟨.t 38,.bin .gtr (.t 37) (.c (.int .i32 1114111)),some (.t 32,false)⟩,false,false,[]⟩,
 ⟨⟨.p 39,.pick (.t 32) (.c (.bool true)) (.t 38),none⟩,false,false,[]⟩]) (.cond (.p 39) (.exit 1) (.skip))) (.seq (.dreg [⟨⟨.t 40,.mov (.p 0),none⟩,false,false,[]⟩,⟨⟨.t 41,.mov (.p 4),none⟩,false,false,[]⟩,
 ⟨⟨.t 42,.idxAddr 2 (.t 40) (.t 41),none⟩,false,false,[]⟩,⟨⟨.t 43,.fieldAddr 0 (.t 42),none⟩,false,false,[]⟩,⟨⟨.t 44,.load1 (.t 43),none⟩,false,false,[]⟩,⟨⟨.t 45,.convI .i64 (.t 44),none⟩,false,false,[]⟩,
 ⟨⟨.t 46,.call F_goboref3_place [.t 45,.c (.bool true)],none⟩,true,false,[]⟩,⟨⟨.t 47,.mov (.p 0),none⟩,false,false,[]⟩,⟨⟨.t 48,.mov (.p 4),none⟩,false,false,[]⟩,⟨⟨.t 49,.idxAddr 2 (.t 47) (.t 48),none⟩,false,false,[]⟩,
 ⟨⟨.t 50,.fieldAddr 1 (.t 49),none⟩,false,false,[]⟩,⟨⟨.t 51,.load1 (.t 50),none⟩,false,false,[6]⟩,⟨⟨.t 52,.convI .i64 (.t 51),none⟩,false,false,[]⟩,⟨⟨.t 53,.call F_goboref3_place [.t 52,.c (.bool false)],none⟩,false,false,[]⟩,
 ⟨⟨.t 54,.bin .add (.t 53) (.c (.int .i64 1)),none⟩,false,false,[]⟩,⟨⟨.p 5,.mov (.t 46),none⟩,false,false,[]⟩,⟨⟨.p 6,.mov (.t 54),none⟩,false,false,[]⟩]) (.seq (.reg [⟨.t 55,.mov (.p 5),none⟩,
 ⟨.t 56,.mov (.p 6),none⟩,⟨.p 57,.bin .lss (.t 55) (.t 56),none⟩]) (.cond (.p 57) (.reg [⟨.t 58,.mov (.p 3),none⟩,⟨.t 59,.mov (.p 5),none⟩,⟨.t 60,.mov (.p 6),none⟩,⟨.t 61,.build [.int .i64 0,.int .i64 0] [(0,1,.t 59),(1,1,.t 60)],none⟩,
 ⟨.t 62,.lit [.int .i64 0,.int .i64 0] 1 [(0,2,.t 61)],none⟩,⟨.t 63,.append 2 16 (.t 58) (.t 62),none⟩,⟨.p 3,.mov (.t 63),none⟩]) (.skip)))))) (.reg [⟨.t 11,.mov (.p 4),none⟩,⟨.t 12,.bin .add (.t 11) (.c (.int .i64 1)),none⟩,
 ⟨.p 4,.mov (.t 12),none⟩]))
def bd_goboref3_cells : CCode :=
 .seq (.reg [⟨.p 2,.mov (.c (.nils)),none⟩]) (.seq (.reg [⟨.p 3,.mov (.c (.nils)),none⟩]) (.seq (.seq (.reg [⟨.p 4,.mov (.c (.int .i64 0)),none⟩]) (.block 0 [3] (.loop [0,3,4] lb_goboref3_cells_0))) (.seq (.reg [⟨.t 64,.mov (.p 3),none⟩,
 ⟨.p 2,.mov (.t 64),none⟩]) (.ret))))
def cf_goboref3_cells : CFunc :=
{ nargs := 1,ps := [0,2,3,4,5,6,10,39,57],results := [.slot 2],body := bd_goboref3_cells }
def bd_decode_Dec_more : CCode :=
 .seq (.reg [⟨.p 4,.alloc [.bool false],none⟩]) (.seq (.reg [⟨.t 5,.mkFn F_decode_Dec_more_1 [.p 4],none⟩,⟨.no,.dfr (.t 5) [],none⟩]) (.seq (.reg [⟨.t 6,.mov (.p 0),none⟩,⟨.t 7,.mov (.p 0),none⟩,
 ⟨.t 8,.nilCheck (.t 7),none⟩,⟨.t 9,.fieldAddr 0 (.t 8),none⟩,⟨.t 10,.load1 (.t 9),none⟩,⟨.t 11,.mov (.p 1),none⟩,⟨.t 12,.call F_decode_grow [.t 10,.t 11],none⟩,⟨.t 13,.nilCheck (.t 6),none⟩,
 ⟨.t 14,.fieldAddr 0 (.t 13),none⟩,⟨.no,.store 1 (.t 14) (.t 12),none⟩]) (.seq (.seq (.dreg [⟨⟨.t 15,.mov (.p 0),none⟩,false,false,[]⟩,⟨⟨.t 16,.nilCheck (.t 15),none⟩,false,false,[]⟩,
 ⟨⟨.t 17,.fieldAddr 0 (.t 16),none⟩,false,false,[]⟩,⟨⟨.t 18,.load1 (.t 17),none⟩,true,false,[]⟩,⟨⟨.t 19,.lenSl (.t 18),none⟩,false,false,[]⟩,⟨⟨.t 20,.mov (.p 0),none⟩,false,false,[]⟩,
 ⟨⟨.t 21,.nilCheck (.t 20),none⟩,false,false,[]⟩,⟨⟨.t 22,.fieldAddr 0 (.t 21),none⟩,false,false,[]⟩,⟨⟨.t 23,.load1 (.t 22),none⟩,false,false,[]⟩,⟨⟨.t 24,.idxAddr 1 (.t 23) (.c (.int .i64 0)),none⟩,false,false,[]⟩,
 ⟨⟨.t 25,.load1 (.t 24),none⟩,false,false,[]⟩,⟨⟨.t 26,.call F_decode_long [.t 25],none⟩,false,false,[3]⟩,⟨⟨.p 27,.bin .eql (.t 19) (.t 26),none⟩,false,false,[]⟩]) (.cond (.p 27) (.reg [⟨.t 28,.mov (.p 0),none⟩,
 ⟨.t 29,.call F_decode_Dec_tell [.t 28,.c (.bool false),.c (.bool false)],none⟩]) (.skip))) (.seq (.reg [⟨.no,.store 1 (.p 4) (.c (.bool true)),none⟩]) (.ret)))))
def cf_decode_Dec_more : CFunc :=
{ nargs := 2,ps := [0,1,4,27],results := [.cell1 4],body := bd_decode_Dec_more }
def lb_utf8_DecodeRune_0 : CCode :=
 .seq (.reg [⟨.p 9,.bin .lss (.p 8) (.p 7),none⟩]) (.seq (.cond (.p 9) (.skip) (.exit 0)) (.seq (.block 1 [0,6,7,8] (.seq (.reg [⟨.t 10,.idxAddr 1 (.p 6) (.p 8),none⟩,⟨.t 11,.load1 (.t 10),none⟩,
 ⟨.p 5,.mov (.t 11),none⟩]) (.seq (.seq (.reg [⟨.t 12,.mov (.p 5),none⟩,⟨.p 13,.bin .lss (.t 12) (.c (.int .u8 128)),none⟩]) (.cond (.p 13) (.seq (.reg [⟨.t 14,.mov (.p 5),none⟩,⟨.t 15,.convI .i32 (.t 14),none⟩,
 ⟨.p 2,.mov (.t 15),none⟩,⟨.p 3,.mov (.c (.int .i64 1)),none⟩]) (.ret)) (.skip))) (.exit 0)))) (.reg [⟨.t 16,.bin .add (.p 8) (.c (.int .i64 1)),none⟩,⟨.p 8,.mov (.t 16),none⟩])))
def bd_utf8_DecodeRune : CCode :=
 .seq (.reg [⟨.p 2,.mov (.c (.int .i32 0)),none⟩,⟨.p 3,.mov (.c (.int .i64 0)),none⟩]) (.seq (.seq (.reg [⟨.p 6,.mov (.p 0),none⟩,⟨.p 7,.lenSl (.p 6),none⟩,⟨.p 8,.mov (.c (.int .i64 0)),none⟩]) (.block 0 [0] (.loop [0,6,7,8] lb_utf8_DecodeRune_0))) (.seq (.reg [⟨.t 18,.mov (.p 0),none⟩,
 ⟨.t 19,.call F_utf8_decodeRuneSlow [.t 18],none⟩,⟨.t 17,.mov (.t 19),none⟩,⟨.t 20,.extract (.t 17) 0,none⟩,⟨.t 21,.extract (.t 17) 1,none⟩,⟨.p 2,.mov (.t 20),none⟩,⟨.p 3,.mov (.t 21),none⟩]) (.ret)))
def cf_utf8_DecodeRune : CFunc :=
{ nargs := 1,ps := [0,2,3,5,6,7,8,9,13],results := [.slot 2,.slot 3],body := bd_utf8_DecodeRune }
def bd_goboref3_second : CCode :=
 .seq (.reg [⟨.p 2,.mov (.c (.int .i64 0)),none⟩,⟨.p 3,.mov (.c (.int .i64 0)),none⟩,⟨.p 4,.mov (.c (.int .i64 0)),none⟩]) (.seq (.block 0 [] (.seq (.reg [⟨.t 6,.mov (.p 0),none⟩,⟨.t 7,.bin .lss (.t 6) (.c (.int .u8 128)),none⟩,
 ⟨.p 5,.mov (.t 7),none⟩]) (.cond (.p 5) (.seq (.reg [⟨.p 2,.mov (.c (.int .i64 1)),none⟩,⟨.p 3,.mov (.c (.int .i64 0)),none⟩,⟨.p 4,.mov (.c (.int .i64 0)),none⟩]) (.ret)) (.seq (.reg [⟨.t 9,.mov (.p 0),none⟩,
 ⟨.t 10,.bin .geq (.t 9) (.c (.int .u8 194)),none⟩,⟨.t 11,.mov (.t 10),none⟩,⟨.t 12,.mov (.p 0),some (.t 11,true)⟩,⟨.t 13,.bin .leq (.t 12) (.c (.int .u8 223)),some (.t 11,true)⟩,⟨.t 14,.pick (.t 11) (.t 13) (.c (.bool false)),none⟩,
 ⟨.p 8,.mov (.t 14),none⟩]) (.cond (.p 8) (.seq (.reg [⟨.p 2,.mov (.c (.int .i64 2)),none⟩,⟨.p 3,.mov (.c (.int .i64 128)),none⟩,⟨.p 4,.mov (.c (.int .i64 191)),none⟩]) (.ret)) (.seq (.reg [⟨.t 16,.mov (.p 0),none⟩,
 ⟨.t 17,.bin .eql (.t 16) (.c (.int .u8 224)),none⟩,⟨.p 15,.mov (.t 17),none⟩]) (.cond (.p 15) (.seq (.reg [⟨.p 2,.mov (.c (.int .i64 3)),none⟩,⟨.p 3,.mov (.c (.int .i64 160)),none⟩,
 ⟨.p 4,.mov (.c (.int .i64 191)),none⟩]) (.ret)) (.seq (.reg [⟨.t 19,.mov (.p 0),none⟩,⟨.t 20,.bin .eql (.t 19) (.c (.int .u8 237)),none⟩,⟨.p 18,.mov (.t 20),none⟩]) (.cond (.p 18) (.seq (.reg [⟨.p 2,.mov (.c (.int .i64 3)),none⟩,
 ⟨.p 3,.mov (.c (.int .i64 128)),none⟩,⟨.p 4,.mov (.c (.int .i64 159)),none⟩]) (.ret)) (.seq (.reg [⟨.t 22,.mov (.p 0),none⟩,⟨.t 23,.bin .geq (.t 22) (.c (.int .u8 225)),none⟩,⟨.t 24,.mov (.t 23),none⟩,
 ⟨.t 25,.mov (.p 0),some (.t 24,true)⟩,⟨.t 26,.bin .leq (.t 25) (.c (.int .u8 239)),some (.t 24,true)⟩,⟨.t 27,.pick (.t 24) (.t 26) (.c (.bool false)),none⟩,⟨.p 21,.mov (.t 27),none⟩]) (.cond (.p 21) (.seq (.reg [⟨.p 2,.mov (.c (.int .i64 3)),none⟩,
 ⟨.p 3,.mov (.c (.int .i64 128)),none⟩,⟨.p 4,.mov (.c (.int .i64 191)),none⟩]) (.ret)) (.seq (.reg [⟨.t 29,.mov (.p 0),none⟩,⟨.t 30,.bin .eql (.t 29) (.c (.int .u8 240)),none⟩,⟨.p 28,.mov (.t 30),none⟩]) (.cond (.p 28) (.seq (.reg [⟨.p 2,.mov (.c (.int .i64 4)),none⟩,
 ⟨.p 3,.mov (.c (.int .i64 144)),none⟩,⟨.p 4,.mov (.c (.int .i64 191)),none⟩]) (.ret)) (.seq (.reg [⟨.t 32,.mov (.p 0),none⟩,⟨.t 33,.bin .geq (.t 32) (.c (.int .u8 241)),none⟩,⟨.t 34,.mov (.t 33),none⟩,
 ⟨.t 35,.mov (.p 0),some (.t 34,true)⟩,⟨.t 36,.bin .leq (.t 35) (.c (.int .u8 243)),some (.t 34,true)⟩,⟨.t 37,.pick (.t 34) (.t 36) (.c (.bool false)),none⟩,⟨.p 31,.mov (.t 37),none⟩]) (.cond (.p 31) (.seq (.reg [⟨.p 2,.mov (.c (.int .i64 4)),none⟩,
 ⟨.p 3,.mov (.c (.int .i64 128)),none⟩,⟨.p 4,.mov (.c (.int .i64 191)),none⟩]) (.ret)) (.seq (.reg [⟨.t 39,.mov (.p 0),none⟩,⟨.t 40,.bin .eql (.t 39) (.c (.int .u8 244)),none⟩,⟨.p 38,.mov (.t 40),none⟩]) (.cond (.p 38) (.seq (.reg [⟨.p 2,.mov (.c (.int .i64 4)),none⟩,
 ⟨.p 3,.mov (.c (.int .i64 128)),none⟩,⟨.p 4,.mov (.c (.int .i64 143)),none⟩]) (.ret)) (.skip)))))))))))))))))) (.seq (.reg [⟨.p 2,.mov (.c (.int .i64 0)),none⟩,⟨.p 3,.mov (.c (.int .i64 0)),none⟩,
 ⟨.p 4,.mov (.c (.int .i64 0)),none⟩]) (.ret)))
def cf_goboref3_second : CFunc :=
{ nargs := 1,ps := [0,2,3,4,5,8,15,18,21,28,31,38],results := [.slot 2,.slot 3,.slot 4],body := bd_goboref3_second }
def bd_word_Reader_Must : CCode :=
 .seq (.reg [⟨.t 4,.mov (.p 0),none⟩,⟨.t 5,.mov (.p 1),none⟩,⟨.t 6,.call F_word_Reader_Skip [.t 4,.t 5],none⟩,⟨.p 7,.un .not (.t 6),none⟩]) (.cond (.p 7) (.reg [⟨.t 8,.mov (.p 0),none⟩,
 ⟨.t 9,.call F_word_Reader_At [.t 8],none⟩,⟨.t 10,.call F_word_Fail [.c (.int .i64 3),.t 9],none⟩]) (.skip))
def cf_word_Reader_Must : CFunc :=
{ nargs := 2,ps := [0,1,7],results := [],body := bd_word_Reader_Must }
def bd_word_hex : CCode :=
 .seq (.reg [⟨.p 2,.mov (.c (.int .i32 0)),none⟩]) (.seq (.block 0 [] (.seq (.reg [⟨.t 4,.mov (.p 0),none⟩,⟨.t 5,.bin .geq (.t 4) (.c (.int .i32 48)),none⟩,⟨.t 6,.mov (.t 5),none⟩,⟨.t 7,.mov (.p 0),some (.t 6,true)⟩,
 ⟨.t 8,.bin .leq (.t 7) (.c (.int .i32 57)),some (.t 6,true)⟩,⟨.t 9,.pick (.t 6) (.t 8) (.c (.bool false)),none⟩,⟨.p 3,.mov (.t 9),none⟩]) (.cond (.p 3) (.seq (.reg [⟨.t 10,.mov (.p 0),none⟩,
 ⟨.t 11,.bin .sub (.t 10) (.c (.int .i32 48)),none⟩,⟨.p 2,.mov (.t 11),none⟩]) (.ret)) (.seq (.reg [⟨.t 13,.mov (.p 0),none⟩,⟨.t 14,.bin .geq (.t 13) (.c (.int .i32 65)),none⟩,⟨.t 15,.mov (.t 14),none⟩,
 ⟨.t 16,.mov (.p 0),some (.t 15,true)⟩,⟨.t 17,.bin .leq (.t 16) (.c (.int .i32 70)),some (.t 15,true)⟩,⟨.t 18,.pick (.t 15) (.t 17) (.c (.bool false)),none⟩,⟨.p 12,.mov (.t 18),none⟩]) (.cond (.p 12) (.seq (.reg [⟨.t 19,.mov (.p 0),none⟩,
 ⟨.t 20,.bin .sub (.t 19) (.c (.int .i32 65)),none⟩,⟨.t 21,.bin .add (.t 20) (.c (.int .i32 10)),none⟩,⟨.p 2,.mov (.t 21),none⟩]) (.ret)) (.skip)))))) (.seq (.reg [⟨.p 2,.mov (.c (.int .i32 (-1))),none⟩]) (.ret)))
def cf_word_hex : CFunc :=
{ nargs := 1,ps := [0,2,3,12],results := [.slot 2],body := bd_word_hex }
def bd_runes_value : CCode :=
 .seq (.reg [⟨.p 2,.mov (.c (.int .i32 0)),none⟩]) (.seq (.seq (.reg [⟨.t 3,.mov (.p 0),none⟩,⟨.p 4,.bin .lss (.t 3) (.c (.int .i64 55296)),none⟩]) (.cond (.p 4) (.seq (.reg [⟨.t 5,.mov (.p 0),none⟩,
 ⟨.t 6,.convI .i32 (.t 5),none⟩,⟨.p 2,.mov (.t 6),none⟩]) (.ret)) (.skip))) (.seq (.reg [⟨.t 7,.mov (.p 0),none⟩,⟨.t 8,.bin .add (.t 7) (.c (.int .i64 2048)),none⟩,⟨.t 9,.convI .i32 (.t 8),none⟩,
 ⟨.p 2,.mov (.t 9),none⟩]) (.ret)))
def cf_runes_value : CFunc :=
{ nargs := 1,ps := [0,2,4],results := [.slot 2],body := bd_runes_value }
def bd_runes_number : CCode :=
 .seq (.reg [⟨.p 2,.mov (.c (.int .i64 0)),none⟩]) (.seq (.block 0 [0] (.seq (.reg [⟨.t 4,.mov (.p 0),none⟩,⟨.t 5,.bin .lss (.t 4) (.c (.int .i32 0)),none⟩,⟨.p 3,.mov (.t 5),none⟩]) (.cond (.p 3) (.seq (.reg [⟨.p 2,.mov (.c (.int .i64 0)),none⟩]) (.ret)) (.seq (.reg [⟨.t 7,.mov (.p 0),none⟩,
 ⟨.t 8,.bin .lss (.t 7) (.c (.int .i32 55296)),none⟩,⟨.p 6,.mov (.t 8),none⟩]) (.cond (.p 6) (.seq (.reg [⟨.t 9,.mov (.p 0),none⟩,⟨.t 10,.convI .i64 (.t 9),none⟩,⟨.p 2,.mov (.t 10),none⟩]) (.ret)) (.seq (.reg [⟨.t 12,.mov (.p 0),none⟩,
 ⟨.t 13,.bin .leq (.t 12) (.c (.int .i32 57343)),none⟩,⟨.p 11,.mov (.t 13),none⟩]) (.cond (.p 11) (.seq (.reg [⟨.p 2,.mov (.c (.int .i64 55296)),none⟩]) (.ret)) (.skip)))))))) (.seq (.reg [⟨.t 14,.mov (.p 0),none⟩,
 ⟨.t 15,.convI .i64 (.t 14),none⟩,⟨.t 16,.minmax false [.t 15,.c (.int .i64 1114112)],none⟩,⟨.t 17,.bin .sub (.t 16) (.c (.int .i64 2048)),none⟩,⟨.p 2,.mov (.t 17),none⟩]) (.ret)))
def cf_runes_number : CFunc :=
{ nargs := 1,ps := [0,2,3,6,11],results := [.slot 2],body := bd_runes_number }
def bd_runes_behind : CCode :=
 .seq (.reg [⟨.p 2,.mov (.c (.int .i64 0)),none⟩]) (.seq (.reg [⟨.t 4,.mov (.p 0),none⟩,⟨.t 5,.call F_runes_number [.t 4],none⟩,⟨.p 3,.mov (.t 5),none⟩]) (.seq (.seq (.reg [⟨.t 6,.mov (.p 0),none⟩,
 ⟨.p 7,.call F_runes_is [.t 6],none⟩]) (.cond (.p 7) (.reg [⟨.t 8,.mov (.p 3),none⟩,⟨.t 9,.bin .add (.t 8) (.c (.int .i64 1)),none⟩,⟨.p 3,.mov (.t 9),none⟩]) (.skip))) (.seq (.reg [⟨.t 10,.mov (.p 3),none⟩,
 ⟨.p 2,.mov (.t 10),none⟩]) (.ret))))
def cf_runes_behind : CFunc :=
{ nargs := 1,ps := [0,2,3,7],results := [.slot 2],body := bd_runes_behind }
def bd_slices_SortFunc_runes_span_runes_span : CCode :=
 .seq (.reg [⟨.t 5,.mov (.p 0),none⟩,⟨.t 6,.lenSl (.t 5),none⟩,⟨.p 4,.mov (.t 6),none⟩]) (.reg [⟨.t 7,.mov (.p 0),none⟩,⟨.t 8,.mov (.p 4),none⟩,⟨.t 9,.mov (.p 4),none⟩,⟨.t 10,.convI .u64 (.t 9),none⟩,
 ⟨.t 11,.call F_bits_Len [.t 10],none⟩,⟨.t 12,.mov (.p 1),none⟩,⟨.t 13,.call F_slices_pdqsortCmpFunc_runes_span [.t 7,.c (.int .i64 0),.t 8,.t 11,.t 12],none⟩])
def cf_slices_SortFunc_runes_span_runes_span : CFunc :=
{ nargs := 2,ps := [0,1,4],results := [],body := bd_slices_SortFunc_runes_span_runes_span }
def bd_runes_spans_1 : CCode :=
 .seq (.reg [⟨.p 2,.box (.p 0),none⟩,⟨.p 3,.box (.p 1),none⟩,⟨.p 4,.mov (.c (.int .i64 0)),none⟩]) (.seq (.reg [⟨.t 5,.fieldAddr 0 (.p 2),none⟩,⟨.t 6,.load1 (.t 5),none⟩,⟨.t 7,.fieldAddr 0 (.p 3),none⟩,
 ⟨.t 8,.load1 (.t 7),none⟩,⟨.t 9,.call F_cmp_Compare_int [.t 6,.t 8],none⟩,⟨.p 4,.mov (.t 9),none⟩]) (.ret))
def cf_runes_spans_1 : CFunc :=
{ nargs := 2,ps := [0,1,2,3,4],results := [.slot 4],body := bd_runes_spans_1 }
def bd_cmp_Compare_int : CCode :=
 .seq (.reg [⟨.p 4,.mov (.c (.int .i64 0)),none⟩]) (.seq (.reg [⟨.t 7,.mov (.p 0),none⟩,⟨.t 8,.call F_cmp_isNaN_int [.t 7],none⟩,⟨.p 5,.mov (.t 8),none⟩]) (.seq (.reg [⟨.t 9,.mov (.p 1),none⟩,
 ⟨.t 10,.call F_cmp_isNaN_int [.t 9],none⟩,⟨.p 6,.mov (.t 10),none⟩]) (.seq (.seq (.reg [⟨.p 11,.mov (.p 5),none⟩]) (.cond (.p 11) (.seq (.seq (.reg [⟨.p 12,.mov (.p 6),none⟩]) (.cond (.p 12) (.seq (.reg [⟨.p 4,.mov (.c (.int .i64 0)),none⟩]) (.ret)) (.skip))) (.seq (.reg [⟨.p 4,.mov (.c (.int .i64 (-1))),none⟩]) (.ret))) (.skip))) (.seq (.seq (.reg [⟨.p 13,.mov (.p 6),none⟩]) (.cond (.p 13) (.seq (.reg [⟨.p 4,.mov (.c (.int .i64 1)),none⟩]) (.ret)) (.skip))) (.seq (.seq (.reg [⟨.t 14,.mov (.p 0),none⟩,
 ⟨.t 15,.mov (.p 1),none⟩,⟨.p 16,.bin .lss (.t 14) (.t 15),none⟩]) (.cond (.p 16) (.seq (.reg [⟨.p 4,.mov (.c (.int .i64 (-1))),none⟩]) (.ret)) (.skip))) (.seq (.seq (.reg [⟨.t 17,.mov (.p 0),none⟩,
 ⟨.t 18,.mov (.p 1),none⟩,⟨.p 19,.bin .gtr (.t 17) (.t 18),none⟩]) (.cond (.p 19) (.seq (.reg [⟨.p 4,.mov (.c (.int .i64 1)),none⟩]) (.ret)) (.skip))) (.seq (.reg [⟨.p 4,.mov (.c (.int .i64 0)),none⟩]) (.ret))))))))
def cf_cmp_Compare_int : CFunc :=
{ nargs := 2,ps := [0,1,4,5,6,11,12,13,16,19],results := [.slot 4],body := bd_cmp_Compare_int }
def bd_goboref3_Scalar : CCode :=
 .seq (.reg [⟨.p 2,.mov (.c (.bool false)),none⟩]) (.seq (.reg [⟨.t 3,.mov (.p 0),none⟩,⟨.t 4,.bin .geq (.t 3) (.c (.int .i32 0)),none⟩,⟨.t 5,.mov (.t 4),none⟩,⟨.t 6,.mov (.p 0),some (.t 5,true)⟩,
 ⟨.t 7,.bin .leq (.t 6) (.c (.int .i32 1114111)),some (.t 5,true)⟩,⟨.t 8,.pick (.t 5) (.t 7) (.c (.bool false)),none⟩,⟨.t 9,.mov (.t 8),none⟩,⟨.t 10,.mov (.p 0),some (.t 9,true)⟩,⟨.t 11,.bin .lss (.t 10) (.c (.int .i32 55296)),some (.t 9,true)⟩,
 ⟨.t 12,.mov (.t 11),some (.t 9,true)⟩,⟨.t 13,.mov (.p 0),some (.t 12,false)⟩,⟨.t 14,.bin .gtr (.t 13) (.c (.int .i32 57343)),some (.t 12,false)⟩,⟨.t 15,.pick (.t 12) (.c (.bool true)) (.t 14),some (.t 9,true)⟩,
 ⟨.t 16,.pick (.t 9) (.t 15) (.c (.bool false)),none⟩,⟨.p 2,.mov (.t 16),none⟩]) (.ret))
def cf_goboref3_Scalar : CFunc :=
{ nargs := 1,ps := [0,2],results := [.slot 2],body := bd_goboref3_Scalar }
def lb_goboref3_cuts_0 : CCode :=
 .seq (.seq (.reg [⟨.t 30,.mov (.p 6),none⟩,⟨.t 31,.mov (.p 3),none⟩,⟨.t 32,.lenSl (.t 31),none⟩,⟨.t 33,.bin .lss (.t 30) (.t 32),none⟩,⟨.t 34,.mov (.t 33),none⟩,⟨.t 35,.mov (.p 3),some (.t 34,true)⟩,
 ⟨.t 36,.mov (.p 6),some (.t 34,true)⟩,⟨.t 37,.idxAddr 1 (.t 35) (.t 36),some (.t 34,true)⟩,⟨.t 38,.load1 (.t 37),some (.t 34,true)⟩,⟨.t 39,.mov (.p 5),some (.t 34,true)⟩,⟨.t 40,.bin .lss (.t 38) (.t 39),some (.t 34,true)⟩,
 ⟨.p 41,.pick (.t 34) (.t 40) (.c (.bool false)),none⟩]) (.cond (.p 41) (.skip) (.exit 2))) (.block 3 [0,3,4,5,6] (.reg [⟨.t 42,.mov (.p 6),none⟩,⟨.t 43,.bin .add (.t 42) (.c (.int .i64 1)),none⟩,
 ⟨.p 6,.mov (.t 43),none⟩]))
def lb_goboref3_cuts_1 : CCode :=
 .seq (.seq (.reg [⟨.t 8,.mov (.p 4),none⟩,⟨.t 9,.mov (.p 0),none⟩,⟨.t 10,.lenSl (.t 9),none⟩,⟨.t 11,.bin .mul (.c (.int .i64 2)) (.t 10),none⟩,⟨.p 12,.bin .lss (.t 8) (.t 11),none⟩]) (.cond (.p 12) (.skip) (.exit 0))) (.seq (.block 1 [0,3,4] (.seq (.reg [⟨.t 15,.mov (.p 0),none⟩,
 ⟨.t 16,.mov (.p 4),none⟩,⟨.t 17,.bin .quo (.t 16) (.c (.int .i64 2)),none⟩,⟨.t 18,.idxAddr 2 (.t 15) (.t 17),none⟩,⟨.t 19,.fieldAddr 0 (.t 18),none⟩,⟨.t 20,.load1 (.t 19),none⟩,⟨.p 5,.mov (.t 20),none⟩]) (.seq (.seq (.reg [⟨.t 21,.mov (.p 4),none⟩,
 ⟨.t 22,.bin .rem (.t 21) (.c (.int .i64 2)),none⟩,⟨.p 23,.bin .eql (.t 22) (.c (.int .i64 1)),none⟩]) (.cond (.p 23) (.reg [⟨.t 24,.mov (.p 0),none⟩,⟨.t 25,.mov (.p 4),none⟩,⟨.t 26,.bin .quo (.t 25) (.c (.int .i64 2)),none⟩,
 ⟨.t 27,.idxAddr 2 (.t 24) (.t 26),none⟩,⟨.t 28,.fieldAddr 1 (.t 27),none⟩,⟨.t 29,.load1 (.t 28),none⟩,⟨.p 5,.mov (.t 29),none⟩]) (.skip))) (.seq (.reg [⟨.p 6,.mov (.c (.int .i64 0)),none⟩]) (.seq (.block 2 [0,3,4,5,6] (.loop [0,3,4,5,6] lb_goboref3_cuts_0)) (.seq (.seq (.reg [⟨.t 44,.mov (.p 6),none⟩,
 ⟨.t 45,.mov (.p 3),none⟩,⟨.t 46,.lenSl (.t 45),none⟩,⟨.t 47,.bin .lss (.t 44) (.t 46),none⟩,⟨.t 48,.mov (.t 47),none⟩,⟨.t 49,.mov (.p 3),some (.t 48,true)⟩,⟨.t 50,.mov (.p 6),some (.t 48,true)⟩,
 ⟨.t 51,.idxAddr 1 (.t 49) (.t 50),some (.t 48,true)⟩,⟨.t 52,.load1 (.t 51),some (.t 48,true)⟩,⟨.t 53,.mov (.p 5),some (.t 48,true)⟩,⟨.t 54,.bin .eql (.t 52) (.t 53),some (.t 48,true)⟩,
 ⟨.p 55,.pick (.t 48) (.t 54) (.c (.bool false)),none⟩]) (.cond (.p 55) (.exit 1) (.skip))) (.seq (.reg [⟨.t 56,.lit [] 0 [],none⟩,⟨.t 57,.mov (.p 3),none⟩,⟨.t 58,.mov (.p 6),none⟩,
 ⟨.t 59,.sliceSl 1 (.t 57) none (some (.t 58)) none,none⟩,⟨.t 60,.append 1 8 (.t 56) (.t 59),none⟩,⟨.p 7,.mov (.t 60),none⟩]) (.dreg [⟨⟨.t 61,.mov (.p 7),none⟩,false,false,[]⟩,⟨⟨.t 62,.mov (.p 5),none⟩,false,false,[]⟩,
 ⟨⟨.t 63,.lit [.int .i64 0] 1 [(0,1,.t 62)],none⟩,false,false,[]⟩,⟨⟨.t 64,.append 1 8 (.t 61) (.t 63),none⟩,false,false,[]⟩,⟨⟨.t 65,.mov (.p 3),none⟩,false,false,[]⟩,⟨⟨.t 66,.mov (.p 6),none⟩,false,false,[]⟩,
 ⟨⟨.t 67,.sliceSl 1 (.t 65) (some (.t 66)) none none,none⟩,false,false,[]⟩,⟨⟨.t 68,.append 1 8 (.t 64) (.t 67),none⟩,false,false,[]⟩,⟨⟨.p 3,.mov (.t 68),none⟩,false,false,[]⟩])))))))) (.reg [⟨.t 13,.mov (.p 4),none⟩,
 ⟨.t 14,.bin .add (.t 13) (.c (.int .i64 1)),none⟩,⟨.p 4,.mov (.t 14),none⟩]))
def bd_goboref3_cuts : CCode :=
 .seq (.reg [⟨.p 2,.mov (.c (.nils)),none⟩]) (.seq (.reg [⟨.p 3,.mov (.c (.nils)),none⟩]) (.seq (.seq (.reg [⟨.p 4,.mov (.c (.int .i64 0)),none⟩]) (.block 0 [3] (.loop [0,3,4] lb_goboref3_cuts_1))) (.seq (.reg [⟨.t 69,.mov (.p 3),none⟩,
 ⟨.p 2,.mov (.t 69),none⟩]) (.ret))))
def cf_goboref3_cuts : CFunc :=
{ nargs := 1,ps := [0,2,3,4,5,6,7,12,23,41,55],results := [.slot 2],body := bd_goboref3_cuts }
def lb_goboref3_in_0 : CCode :=
 .seq (.seq (.reg [⟨.t 6,.mov (.p 5),none⟩,⟨.t 7,.mov (.p 0),none⟩,⟨.t 8,.lenSl (.t 7),none⟩,⟨.p 9,.bin .lss (.t 6) (.t 8),none⟩]) (.cond (.p 9) (.skip) (.exit 0))) (.seq (.block 1 [0,1,5] (.seq (.reg [⟨.t 12,.mov (.p 0),none⟩,
 ⟨.t 13,.mov (.p 5),none⟩,⟨.t 14,.idxAddr 2 (.t 12) (.t 13),none⟩,⟨.t 15,.fieldAddr 0 (.t 14),none⟩,⟨.t 16,.load1 (.t 15),none⟩,⟨.t 17,.mov (.p 1),none⟩,⟨.t 18,.bin .leq (.t 16) (.t 17),none⟩,
 ⟨.t 19,.mov (.t 18),none⟩,⟨.t 20,.mov (.p 1),some (.t 19,true)⟩,⟨.t 21,.mov (.p 0),some (.t 19,true)⟩,⟨.t 22,.mov (.p 5),some (.t 19,true)⟩,⟨.t 23,.idxAddr 2 (.t 21) (.t 22),some (.t 19,true)⟩,
 ⟨.t 24,.fieldAddr 1 (.t 23),some (.t 19,true)⟩,⟨.t 25,.load1 (.t 24),some (.t 19,true)⟩,⟨.t 26,.bin .lss (.t 20) (.t 25),some (.t 19,true)⟩,⟨.p 27,.pick (.t 19) (.t 26) (.c (.bool false)),none⟩]) (.cond (.p 27) (.seq (.reg [⟨.p 4,.mov (.c (.bool true)),none⟩]) (.ret)) (.skip)))) (.reg [⟨.t 10,.mov (.p 5),none⟩,
 ⟨.t 11,.bin .add (.t 10) (.c (.int .i64 1)),none⟩,⟨.p 5,.mov (.t 11),none⟩]))
def bd_goboref3_in : CCode :=
 .seq (.reg [⟨.p 4,.mov (.c (.bool false)),none⟩]) (.seq (.seq (.reg [⟨.p 5,.mov (.c (.int .i64 0)),none⟩]) (.block 0 [] (.loop [0,1,5] lb_goboref3_in_0))) (.seq (.reg [⟨.p 4,.mov (.c (.bool false)),none⟩]) (.ret)))
def cf_goboref3_in : CFunc :=
{ nargs := 2,ps := [0,1,4,5,9,27],results := [.slot 4],body := bd_goboref3_in }
def bd_goboref3_at : CCode :=
 .seq (.reg [⟨.p 2,.mov (.c (.int .i32 0)),none⟩]) (.seq (.seq (.reg [⟨.t 3,.mov (.p 0),none⟩,⟨.p 4,.bin .geq (.t 3) (.c (.int .i64 55296)),none⟩]) (.cond (.p 4) (.seq (.reg [⟨.t 5,.mov (.p 0),none⟩,
 ⟨.t 6,.bin .add (.t 5) (.c (.int .i64 2048)),none⟩,⟨.t 7,.convI .i32 (.t 6),none⟩,⟨.p 2,.mov (.t 7),none⟩]) (.ret)) (.skip))) (.seq (.reg [⟨.t 8,.mov (.p 0),none⟩,⟨.t 9,.convI .i32 (.t 8),none⟩,
 ⟨.p 2,.mov (.t 9),none⟩]) (.ret)))
def cf_goboref3_at : CFunc :=
{ nargs := 1,ps := [0,2,4],results := [.slot 2],body := bd_goboref3_at }
def bd_goboref3_place : CCode :=
 .seq (.reg [⟨.p 4,.mov (.c (.int .i64 0)),none⟩]) (.seq (.block 0 [0] (.seq (.reg [⟨.t 6,.mov (.p 0),none⟩,⟨.t 7,.bin .lss (.t 6) (.c (.int .i64 0)),none⟩,⟨.p 5,.mov (.t 7),none⟩]) (.cond (.p 5) (.seq (.reg [⟨.p 4,.mov (.c (.int .i64 0)),none⟩]) (.ret)) (.seq (.reg [⟨.t 9,.mov (.p 0),none⟩,
 ⟨.t 10,.bin .lss (.t 9) (.c (.int .i64 55296)),none⟩,⟨.p 8,.mov (.t 10),none⟩]) (.cond (.p 8) (.seq (.reg [⟨.t 11,.mov (.p 0),none⟩,⟨.p 4,.mov (.t 11),none⟩]) (.ret)) (.seq (.reg [⟨.t 13,.mov (.p 0),none⟩,
 ⟨.t 14,.bin .leq (.t 13) (.c (.int .i64 57343)),none⟩,⟨.t 15,.mov (.t 14),none⟩,⟨.t 16,.mov (.p 1),some (.t 15,true)⟩,⟨.t 17,.pick (.t 15) (.t 16) (.c (.bool false)),none⟩,⟨.p 12,.mov (.t 17),none⟩]) (.cond (.p 12) (.seq (.reg [⟨.p 4,.mov (.c (.int .i64 55296)),none⟩]) (.ret)) (.seq (.reg [⟨.t 19,.mov (.p 0),none⟩,
 ⟨.t 20,.bin .leq (.t 19) (.c (.int .i64 57343)),none⟩,⟨.p 18,.mov (.t 20),none⟩]) (.cond (.p 18) (.seq (.reg [⟨.p 4,.mov (.c (.int .i64 55295)),none⟩]) (.ret)) (.seq (.reg [⟨.t 22,.mov (.p 0),none⟩,
 ⟨.t 23,.bin .gtr (.t 22) (.c (.int .i64 1114111)),none⟩,⟨.p 21,.mov (.t 23),none⟩]) (.cond (.p 21) (.seq (.seq (.reg [⟨.p 24,.mov (.p 1),none⟩]) (.cond (.p 24) (.seq (.reg [⟨.p 4,.mov (.c (.int .i64 1112064)),none⟩]) (.ret)) (.skip))) (.seq (.reg [⟨.p 4,.mov (.c (.int .i64 1112063)),none⟩]) (.ret))) (.skip)))))))))))) (.seq (.reg [⟨.t 25,.mov (.p 0),none⟩,
 ⟨.t 26,.bin .sub (.t 25) (.c (.int .i64 2048)),none⟩,⟨.p 4,.mov (.t 26),none⟩]) (.ret)))
def cf_goboref3_place : CFunc :=
{ nargs := 2,ps := [0,1,4,5,8,12,18,21,24],results := [.slot 4],body := bd_goboref3_place }
def bd_decode_Dec_more_1 : CCode :=
 .seq (.reg [⟨.t 4,.recover,none⟩,⟨.p 1,.mov (.t 4),none⟩]) (.seq (.reg [⟨.t 5,.mov (.p 1),none⟩,⟨.p 6,.eqv true .iface (.t 5) (.c (.nili)),none⟩]) (.cond (.p 6) (.seq (.seq (.reg [⟨.t 8,.mov (.p 1),none⟩,
 ⟨.t 9,.assert T_decode_wrong (some (.agg [])) (.t 8),none⟩,⟨.t 7,.mov (.t 9),none⟩,⟨.t 10,.extract (.t 7) 0,none⟩,⟨.t 11,.extract (.t 7) 1,none⟩,⟨.t 2,.alloc [],none⟩,⟨.no,.store 0 (.t 2) (.t 10),none⟩,
 ⟨.p 3,.mov (.t 11),none⟩]) (.seq (.reg [⟨.t 12,.mov (.p 3),none⟩,⟨.p 13,.un .not (.t 12),none⟩]) (.cond (.p 13) (.reg [⟨.t 14,.mov (.p 1),none⟩,⟨.no,.panic (.t 14),none⟩]) (.skip)))) (.reg [⟨.no,.store 1 (.p 0) (.c (.bool false)),none⟩])) (.skip)))
def cf_decode_Dec_more_1 : CFunc :=
{ nargs := 1,ps := [0,1,3,6,13],results := [],body := bd_decode_Dec_more_1 }
def bd_decode_grow : CCode :=
 .seq (.reg [⟨.p 4,.mov (.c (.nils)),none⟩]) (.seq (.reg [⟨.p 5,.mov (.c (.int .u8 128)),none⟩,⟨.p 6,.mov (.c (.int .u8 191)),none⟩]) (.seq (.seq (.reg [⟨.t 7,.mov (.p 0),none⟩,⟨.t 8,.lenSl (.t 7),none⟩,
 ⟨.p 9,.bin .eql (.t 8) (.c (.int .i64 1)),none⟩]) (.cond (.p 9) (.reg [⟨.t 11,.mov (.p 0),none⟩,⟨.t 12,.idxAddr 1 (.t 11) (.c (.int .i64 0)),none⟩,⟨.t 13,.load1 (.t 12),none⟩,⟨.t 14,.call F_decode_second [.t 13],none⟩,
 ⟨.t 10,.mov (.t 14),none⟩,⟨.t 15,.extract (.t 10) 0,none⟩,⟨.t 16,.extract (.t 10) 1,none⟩,⟨.p 5,.mov (.t 15),none⟩,⟨.p 6,.mov (.t 16),none⟩]) (.skip))) (.seq (.seq (.reg [⟨.t 17,.mov (.p 0),none⟩,
 ⟨.t 18,.lenSl (.t 17),none⟩,⟨.t 19,.bin .eql (.t 18) (.c (.int .i64 0)),none⟩,⟨.t 20,.mov (.t 19),none⟩,⟨.t 21,.mov (.p 1),some (.t 20,true)⟩,⟨.t 22,.call F_decode_long [.t 21],some (.t 20,true)⟩,
 ⟨.t 23,.bin .eql (.t 22) (.c (.int .i64 0)),some (.t 20,true)⟩,⟨.t 24,.pick (.t 20) (.t 23) (.c (.bool false)),none⟩,⟨.t 25,.mov (.t 24),none⟩,⟨.t 26,.mov (.p 0),some (.t 25,false)⟩,
 ⟨.t 27,.lenSl (.t 26),some (.t 25,false)⟩,⟨.t 28,.bin .gtr (.t 27) (.c (.int .i64 0)),some (.t 25,false)⟩,⟨.t 29,.mov (.t 28),some (.t 25,false)⟩,⟨.t 30,.mov (.p 1),some (.t 29,true)⟩,
 ⟨.t 31,.mov (.p 5),some (.t 29,true)⟩,⟨.t 32,.bin .lss (.t 30) (.t 31),some (.t 29,true)⟩,⟨.t 33,.mov (.t 32),some (.t 29,true)⟩,⟨.t 34,.mov (.p 1),some (.t 33,false)⟩,⟨.t 35,.mov (.p 6),some (.t 33,false)⟩,
 ⟨.t 36,.bin .gtr (.t 34) (.t 35),some (.t 33,false)⟩,⟨.t 37,.pick (.t 33) (.c (.bool true)) (.t 36),some (.t 29,true)⟩,⟨.t 38,.pick (.t 29) (.t 37) (.c (.bool false)),some (.t 25,false)⟩,
 ⟨.p 39,.pick (.t 25) (.c (.bool true)) (.t 38),none⟩]) (.cond (.p 39) (.reg [⟨.t 40,.build [] [],none⟩,⟨.t 41,.mkIface T_decode_wrong (.t 40),none⟩,⟨.no,.panic (.t 41),none⟩]) (.skip))) (.seq (.reg [⟨.t 42,.mov (.p 0),none⟩,
 ⟨.t 43,.call F_slices_Clone_byte_byte [.t 42],none⟩,⟨.t 44,.mov (.p 1),none⟩,⟨.t 45,.lit [.int .u8 0] 1 [(0,1,.t 44)],none⟩,⟨.t 46,.append 1 1 (.t 43) (.t 45),none⟩,⟨.p 4,.mov (.t 46),none⟩]) (.ret)))))
def cf_decode_grow : CFunc :=
{ nargs := 2,ps := [0,1,4,5,6,9,39],results := [.slot 4],body := bd_decode_grow }
def bd_decode_long : CCode :=
 .seq (.reg [⟨.p 2,.mov (.c (.int .i64 0)),none⟩]) (.seq (.block 0 [] (.seq (.reg [⟨.t 4,.mov (.p 0),none⟩,⟨.t 5,.bin .lss (.t 4) (.c (.int .u8 128)),none⟩,⟨.p 3,.mov (.t 5),none⟩]) (.cond (.p 3) (.seq (.reg [⟨.p 2,.mov (.c (.int .i64 1)),none⟩]) (.ret)) (.seq (.reg [⟨.t 7,.mov (.p 0),none⟩,
 ⟨.t 8,.bin .geq (.t 7) (.c (.int .u8 194)),none⟩,⟨.t 9,.mov (.t 8),none⟩,⟨.t 10,.mov (.p 0),some (.t 9,true)⟩,⟨.t 11,.bin .leq (.t 10) (.c (.int .u8 223)),some (.t 9,true)⟩,⟨.t 12,.pick (.t 9) (.t 11) (.c (.bool false)),none⟩,
 ⟨.p 6,.mov (.t 12),none⟩]) (.cond (.p 6) (.seq (.reg [⟨.p 2,.mov (.c (.int .i64 2)),none⟩]) (.ret)) (.seq (.reg [⟨.t 14,.mov (.p 0),none⟩,⟨.t 15,.bin .geq (.t 14) (.c (.int .u8 224)),none⟩,
 ⟨.t 16,.mov (.t 15),none⟩,⟨.t 17,.mov (.p 0),some (.t 16,true)⟩,⟨.t 18,.bin .leq (.t 17) (.c (.int .u8 239)),some (.t 16,true)⟩,⟨.t 19,.pick (.t 16) (.t 18) (.c (.bool false)),none⟩,
 ⟨.p 13,.mov (.t 19),none⟩]) (.cond (.p 13) (.seq (.reg [⟨.p 2,.mov (.c (.int .i64 3)),none⟩]) (.ret)) (.seq (.reg [⟨.t 21,.mov (.p 0),none⟩,⟨.t 22,.bin .geq (.t 21) (.c (.int .u8 240)),none⟩,
 ⟨.t 23,.mov (.t 22),none⟩,⟨.t 24,.mov (.p 0),some (.t 23,true)⟩,⟨.t 25,.bin .leq (.t 24) (.c (.int .u8 244)),some (.t 23,true)⟩,⟨.t 26,.pick (.t 23) (.t 25) (.c (.bool false)),none⟩,
 ⟨.p 20,.mov (.t 26),none⟩]) (.cond (.p 20) (.seq (.reg [⟨.p 2,.mov (.c (.int .i64 4)),none⟩]) (.ret)) (.skip)))))))))) (.seq (.reg [⟨.p 2,.mov (.c (.int .i64 0)),none⟩]) (.ret)))
def cf_decode_long : CFunc :=
{ nargs := 1,ps := [0,2,3,6,13,20],results := [.slot 2],body := bd_decode_long }
def bd_utf8_decodeRuneSlow : CCode :=
 .seq (.reg [⟨.p 2,.mov (.c (.int .i32 0)),none⟩,⟨.p 3,.mov (.c (.int .i64 0)),none⟩]) (.seq (.reg [⟨.t 13,.mov (.p 0),none⟩,⟨.t 14,.lenSl (.t 13),none⟩,⟨.p 4,.mov (.t 14),none⟩]) (.seq (.seq (.reg [⟨.t 15,.mov (.p 4),none⟩,
 ⟨.p 16,.bin .lss (.t 15) (.c (.int .i64 1)),none⟩]) (.cond (.p 16) (.seq (.reg [⟨.p 2,.mov (.c (.int .i32 65533)),none⟩,⟨.p 3,.mov (.c (.int .i64 0)),none⟩]) (.ret)) (.skip))) (.seq (.reg [⟨.t 17,.mov (.p 0),none⟩,
 ⟨.t 18,.idxAddr 1 (.t 17) (.c (.int .i64 0)),none⟩,⟨.t 19,.load1 (.t 18),none⟩,⟨.p 5,.mov (.t 19),none⟩]) (.seq (.reg [⟨.t 20,.mov (.p 5),none⟩,⟨.t 21,.idxArr 256 1 (.g G_utf8_first) (.t 20),none⟩,
 ⟨.t 22,.load1 (.t 21),none⟩,⟨.p 6,.mov (.t 22),none⟩]) (.seq (.seq (.reg [⟨.t 23,.mov (.p 6),none⟩,⟨.p 24,.bin .geq (.t 23) (.c (.int .u8 240)),none⟩]) (.cond (.p 24) (.seq (.reg [⟨.t 25,.mov (.p 6),none⟩,
 ⟨.t 26,.convI .i32 (.t 25),none⟩,⟨.t 27,.bin .shl (.t 26) (.c (.int .u64 31)),none⟩,⟨.t 28,.bin .shr (.t 27) (.c (.int .u64 31)),none⟩,⟨.p 7,.mov (.t 28),none⟩]) (.seq (.reg [⟨.t 29,.mov (.p 0),none⟩,
 ⟨.t 30,.idxAddr 1 (.t 29) (.c (.int .i64 0)),none⟩,⟨.t 31,.load1 (.t 30),none⟩,⟨.t 32,.convI .i32 (.t 31),none⟩,⟨.t 33,.mov (.p 7),none⟩,⟨.t 34,.bin .andNot (.t 32) (.t 33),none⟩,⟨.t 35,.mov (.p 7),none⟩,
 ⟨.t 36,.bin .and (.c (.int .i32 65533)) (.t 35),none⟩,⟨.t 37,.bin .or (.t 34) (.t 36),none⟩,⟨.p 2,.mov (.t 37),none⟩,⟨.p 3,.mov (.c (.int .i64 1)),none⟩]) (.ret))) (.skip))) (.seq (.reg [⟨.t 38,.mov (.p 6),none⟩,
 ⟨.t 39,.bin .and (.t 38) (.c (.int .u8 7)),none⟩,⟨.t 40,.convI .i64 (.t 39),none⟩,⟨.p 8,.mov (.t 40),none⟩]) (.seq (.reg [⟨.t 41,.mov (.p 6),none⟩,⟨.t 42,.bin .shr (.t 41) (.c (.int .u64 4)),none⟩,
 ⟨.t 43,.idxArr 16 2 (.g G_utf8_acceptRanges) (.t 42),none⟩,⟨.t 44,.loadN 2 (.t 43),none⟩,⟨.p 9,.alloc [.int .u8 0,.int .u8 0],none⟩,⟨.no,.store 2 (.p 9) (.t 44),none⟩]) (.seq (.seq (.reg [⟨.t 45,.mov (.p 4),none⟩,
 ⟨.t 46,.mov (.p 8),none⟩,⟨.p 47,.bin .lss (.t 45) (.t 46),none⟩]) (.cond (.p 47) (.seq (.reg [⟨.p 2,.mov (.c (.int .i32 65533)),none⟩,⟨.p 3,.mov (.c (.int .i64 1)),none⟩]) (.ret)) (.skip))) (.seq (.reg [⟨.t 48,.mov (.p 0),none⟩,
 ⟨.t 49,.idxAddr 1 (.t 48) (.c (.int .i64 1)),none⟩,⟨.t 50,.load1 (.t 49),none⟩,⟨.p 10,.mov (.t 50),none⟩]) (.seq (.seq (.reg [⟨.t 51,.mov (.p 10),none⟩,⟨.t 52,.fieldAddr 0 (.p 9),none⟩,
 ⟨.t 53,.load1 (.t 52),none⟩,⟨.t 54,.bin .lss (.t 51) (.t 53),none⟩,⟨.t 55,.mov (.t 54),none⟩,⟨.t 56,.fieldAddr 1 (.p 9),some (.t 55,false)⟩,⟨.t 57,.load1 (.t 56),some (.t 55,false)⟩,
 ⟨.t 58,.mov (.p 10),some (.t 55,false)⟩,⟨.t 59,.bin .lss (.t 57) (.t 58),some (.t 55,false)⟩,⟨.p 60,.pick (.t 55) (.c (.bool true)) (.t 59),none⟩]) (.cond (.p 60) (.seq (.reg [⟨.p 2,.mov (.c (.int .i32 65533)),none⟩,
 ⟨.p 3,.mov (.c (.int .i64 1)),none⟩]) (.ret)) (.skip))) (.seq (.seq (.reg [⟨.t 61,.mov (.p 8),none⟩,⟨.p 62,.bin .leq (.t 61) (.c (.int .i64 2)),none⟩]) (.cond (.p 62) (.seq (.reg [⟨.t 63,.mov (.p 5),none⟩,
 ⟨.t 64,.bin .and (.t 63) (.c (.int .u8 31)),none⟩,⟨.t 65,.convI .i32 (.t 64),none⟩,⟨.t 66,.bin .shl (.t 65) (.c (.int .u64 6)),none⟩,⟨.t 67,.mov (.p 10),none⟩,⟨.t 68,.bin .and (.t 67) (.c (.int .u8 63)),none⟩,
 ⟨.t 69,.convI .i32 (.t 68),none⟩,⟨.t 70,.bin .or (.t 66) (.t 69),none⟩,⟨.p 2,.mov (.t 70),none⟩,⟨.p 3,.mov (.c (.int .i64 2)),none⟩]) (.ret)) (.skip))) (.seq (.reg [⟨.t 71,.mov (.p 0),none⟩,
 ⟨.t 72,.idxAddr 1 (.t 71) (.c (.int .i64 2)),none⟩,⟨.t 73,.load1 (.t 72),none⟩,⟨.p 11,.mov (.t 73),none⟩]) (.seq (.seq (.reg [⟨.t 74,.mov (.p 11),none⟩,⟨.t 75,.bin .lss (.t 74) (.c (.int .u8 128)),none⟩,
 ⟨.t 76,.mov (.t 75),none⟩,⟨.t 77,.mov (.p 11),some (.t 76,false)⟩,⟨.t 78,.bin .lss (.c (.int .u8 191)) (.t 77),some (.t 76,false)⟩,⟨.p 79,.pick (.t 76) (.c (.bool true)) (.t 78),none⟩]) (.cond (.p 79) (.seq (.reg [⟨.p 2,.mov (.c (.int .i32 65533)),none⟩,
 ⟨.p 3,.mov (.c (.int .i64 1)),none⟩]) (.ret)) (.skip))) (.seq (.seq (.reg [⟨.t 80,.mov (.p 8),none⟩,⟨.p 81,.bin .leq (.t 80) (.c (.int .i64 3)),none⟩]) (.cond (.p 81) (.seq (.reg [⟨.t 82,.mov (.p 5),none⟩,
 ⟨.t 83,.bin .and (.t 82) (.c (.int .u8 15)),none⟩,⟨.t 84,.convI .i32 (.t 83),none⟩,⟨.t 85,.bin .shl (.t 84) (.c (.int .u64 12)),none⟩,⟨.t 86,.mov (.p 10),none⟩,⟨.t 87,.bin .and (.t 86) (.c (.int .u8 63)),none⟩,
 ⟨.t 88,.convI .i32 (.t 87),none⟩,⟨.t 89,.bin .shl (.t 88) (.c (.int .u64 6)),none⟩,⟨.t 90,.bin .or (.t 85) (.t 89),none⟩,⟨.t 91,.mov (.p 11),none⟩,⟨.t 92,.bin .and (.t 91) (.c (.int .u8 63)),none⟩,
 ⟨.t 93,.convI .i32 (.t 92),none⟩,⟨.t 94,.bin .or (.t 90) (.t 93),none⟩,⟨.p 2,.mov (.t 94),none⟩,⟨.p 3,.mov (.c (.int .i64 3)),none⟩]) (.ret)) (.skip))) (.seq (.reg [⟨.t 95,.mov (.p 0),none⟩,
 ⟨.t 96,.idxAddr 1 (.t 95) (.c (.int .i64 3)),none⟩,⟨.t 97,.load1 (.t 96),none⟩,⟨.p 12,.mov (.t 97),none⟩]) (.seq (.seq (.reg [⟨.t 98,.mov (.p 12),none⟩,⟨.t 99,.bin .lss (.t 98) (.c (.int .u8 128)),none⟩,
 ⟨.t 100,.mov (.t 99),none⟩,⟨.t 101,.mov (.p 12),some (.t 100,false)⟩,⟨.t 102,.bin .lss (.c (.int .u8 191)) (.t 101),some (.t 100,false)⟩,⟨.p 103,.pick (.t 100) (.c (.bool true)) (.t 102),none⟩]) (.cond (.p 103) (.seq (.reg [⟨.p 2,.mov (.c (.int .i32 65533)),none⟩,
 ⟨.p 3,.mov (.c (.int .i64 1)),none⟩]) (.ret)) (.skip))) (.seq (.reg [⟨.t 104,.mov (.p 5),none⟩,⟨.t 105,.bin .and (.t 104) (.c (.int .u8 7)),none⟩,⟨.t 106,.convI .i32 (.t 105),none⟩,
 ⟨.t 107,.bin .shl (.t 106) (.c (.int .u64 18)),none⟩,⟨.t 108,.mov (.p 10),none⟩,⟨.t 109,.bin .and (.t 108) (.c (.int .u8 63)),none⟩,⟨.t 110,.convI .i32 (.t 109),none⟩,⟨.t 111,.bin .shl (.t 110) (.c (.int .u64 12)),none⟩,
 ⟨.t 112,.bin .or (.t 107) (.t 111),none⟩,⟨.t 113,.mov (.p 11),none⟩,⟨.t 114,.bin .and (.t 113) (.c (.int .u8 63)),none⟩,⟨.t 115,.convI .i32 (.t 114),none⟩,⟨.t 116,.bin .shl (.t 115) (.c (.int .u64 6)),none⟩,
 ⟨.t 117,.bin .or (.t 112) (.t 116),none⟩,⟨.t 118,.mov (.p 12),none⟩,⟨.t 119,.bin .and (.t 118) (.c (.int .u8 63)),none⟩,⟨.t 120,.convI .i32 (.t 119),none⟩,⟨.t 121,.bin .or (.t 117) (.t 120),none⟩,
 ⟨.p 2,.mov (.t 121),none⟩,⟨.p 3,.mov (.c (.int .i64 4)),none⟩]) (.ret))))))))))))))))))
def cf_utf8_decodeRuneSlow : CFunc :=
{ nargs := 1,ps := [0,2,3,4,5,6,7,8,9,10,11,12,16,24,47,60,62,79,81,103],results := [.slot 2,.slot 3],body := bd_utf8_decodeRuneSlow }
def bd_runes_is : CCode :=
 .seq (.reg [⟨.p 2,.mov (.c (.bool false)),none⟩]) (.seq (.reg [⟨.t 3,.mov (.p 0),none⟩,⟨.t 4,.bin .geq (.t 3) (.c (.int .i32 0)),none⟩,⟨.t 5,.mov (.t 4),none⟩,⟨.t 6,.mov (.p 0),some (.t 5,true)⟩,
 ⟨.t 7,.bin .lss (.t 6) (.c (.int .i32 55296)),some (.t 5,true)⟩,⟨.t 8,.pick (.t 5) (.t 7) (.c (.bool false)),none⟩,⟨.t 9,.mov (.t 8),none⟩,⟨.t 10,.mov (.p 0),some (.t 9,false)⟩,⟨.t 11,.bin .gtr (.t 10) (.c (.int .i32 57343)),some (.t 9,false)⟩,
 ⟨.t 12,.mov (.t 11),some (.t 9,false)⟩,⟨.t 13,.mov (.p 0),some (.t 12,true)⟩,⟨.t 14,.bin .leq (.t 13) (.c (.int .i32 1114111)),some (.t 12,true)⟩,⟨.t 15,.pick (.t 12) (.t 14) (.c (.bool false)),some (.t 9,false)⟩,
 ⟨.t 16,.pick (.t 9) (.c (.bool true)) (.t 15),none⟩,⟨.p 2,.mov (.t 16),none⟩]) (.ret))
def cf_runes_is : CFunc :=
{ nargs := 1,ps := [0,2],results := [.slot 2],body := bd_runes_is }
def lb_slices_pdqsortCmpFunc_runes_span_0 : CCode :=
 .block 1 [0,1,2,3,4,10,11] (.seq (.reg [⟨.t 21,.mov (.p 2),none⟩,⟨.t 22,.mov (.p 1),none⟩,⟨.t 23,.bin .sub (.t 21) (.t 22),none⟩,⟨.p 12,.mov (.t 23),none⟩]) (.seq (.seq (.reg [⟨.t 24,.mov (.p 12),none⟩,
 ⟨.p 25,.bin .leq (.t 24) (.c (.int .i64 12)),none⟩]) (.cond (.p 25) (.seq (.reg [⟨.t 26,.mov (.p 0),none⟩,⟨.t 27,.mov (.p 1),none⟩,⟨.t 28,.mov (.p 2),none⟩,⟨.t 29,.mov (.p 4),none⟩,
 ⟨.t 30,.call F_slices_insertionSortCmpFunc_runes_span [.t 26,.t 27,.t 28,.t 29],none⟩]) (.ret)) (.skip))) (.seq (.seq (.reg [⟨.t 31,.mov (.p 3),none⟩,⟨.p 32,.bin .eql (.t 31) (.c (.int .i64 0)),none⟩]) (.cond (.p 32) (.seq (.reg [⟨.t 33,.mov (.p 0),none⟩,
 ⟨.t 34,.mov (.p 1),none⟩,⟨.t 35,.mov (.p 2),none⟩,⟨.t 36,.mov (.p 4),none⟩,⟨.t 37,.call F_slices_heapSortCmpFunc_runes_span [.t 33,.t 34,.t 35,.t 36],none⟩]) (.ret)) (.skip))) (.seq (.seq (.reg [⟨.t 38,.mov (.p 10),none⟩,
 ⟨.p 39,.un .not (.t 38),none⟩]) (.cond (.p 39) (.seq (.reg [⟨.t 40,.mov (.p 0),none⟩,⟨.t 41,.mov (.p 1),none⟩,⟨.t 42,.mov (.p 2),none⟩,⟨.t 43,.mov (.p 4),none⟩,⟨.t 44,.call F_slices_breakPatternsCmpFunc_runes_span [.t 40,.t 41,.t 42,.t 43],none⟩]) (.reg [⟨.t 45,.mov (.p 3),none⟩,
 ⟨.t 46,.bin .sub (.t 45) (.c (.int .i64 1)),none⟩,⟨.p 3,.mov (.t 46),none⟩])) (.skip))) (.seq (.reg [⟨.t 48,.mov (.p 0),none⟩,⟨.t 49,.mov (.p 1),none⟩,⟨.t 50,.mov (.p 2),none⟩,⟨.t 51,.mov (.p 4),none⟩,
 ⟨.t 52,.call F_slices_choosePivotCmpFunc_runes_span [.t 48,.t 49,.t 50,.t 51],none⟩,⟨.t 47,.mov (.t 52),none⟩,⟨.t 53,.extract (.t 47) 0,none⟩,⟨.t 54,.extract (.t 47) 1,none⟩,⟨.p 13,.mov (.t 53),none⟩,
 ⟨.p 14,.mov (.t 54),none⟩]) (.seq (.seq (.reg [⟨.t 55,.mov (.p 14),none⟩,⟨.p 56,.bin .eql (.t 55) (.c (.int .i64 2)),none⟩]) (.cond (.p 56) (.seq (.reg [⟨.t 57,.mov (.p 0),none⟩,⟨.t 58,.mov (.p 1),none⟩,
 ⟨.t 59,.mov (.p 2),none⟩,⟨.t 60,.mov (.p 4),none⟩,⟨.t 61,.call F_slices_reverseRangeCmpFunc_runes_span [.t 57,.t 58,.t 59,.t 60],none⟩]) (.seq (.reg [⟨.t 62,.mov (.p 2),none⟩,⟨.t 63,.bin .sub (.t 62) (.c (.int .i64 1)),none⟩,
 ⟨.t 64,.mov (.p 13),none⟩,⟨.t 65,.mov (.p 1),none⟩,⟨.t 66,.bin .sub (.t 64) (.t 65),none⟩,⟨.t 67,.bin .sub (.t 63) (.t 66),none⟩,⟨.p 13,.mov (.t 67),none⟩]) (.reg [⟨.p 14,.mov (.c (.int .i64 1)),none⟩]))) (.skip))) (.seq (.seq (.reg [⟨.t 68,.mov (.p 10),none⟩,
 ⟨.t 69,.mov (.t 68),none⟩,⟨.t 70,.mov (.p 11),some (.t 69,true)⟩,⟨.t 71,.pick (.t 69) (.t 70) (.c (.bool false)),none⟩,⟨.t 72,.mov (.t 71),none⟩,⟨.t 73,.mov (.p 14),some (.t 72,true)⟩,
 ⟨.t 74,.bin .eql (.t 73) (.c (.int .i64 1)),some (.t 72,true)⟩,⟨.p 75,.pick (.t 72) (.t 74) (.c (.bool false)),none⟩]) (.cond (.p 75) (.seq (.reg [⟨.t 76,.mov (.p 0),none⟩,⟨.t 77,.mov (.p 1),none⟩,
 ⟨.t 78,.mov (.p 2),none⟩,⟨.t 79,.mov (.p 4),none⟩,⟨.p 80,.call F_slices_partialInsertionSortCmpFunc_runes_span [.t 76,.t 77,.t 78,.t 79],none⟩]) (.cond (.p 80) (.ret) (.skip))) (.skip))) (.seq (.seq (.dreg [⟨⟨.t 81,.mov (.p 1),none⟩,false,false,[]⟩,
 ⟨⟨.t 82,.bin .gtr (.t 81) (.c (.int .i64 0)),none⟩,false,false,[]⟩,⟨⟨.t 83,.mov (.t 82),none⟩,false,false,[]⟩,⟨⟨.t 84,.mov (.p 4),some (.t 83,true)⟩,false,false,[]⟩,⟨⟨.t 85,.mov (.p 0),some (.t 83,true)⟩,false,false,[]⟩,
 ⟨⟨.t 86,.mov (.p 1),some (.t 83,true)⟩,false,false,[]⟩,⟨⟨.t 87,.bin .sub (.t 86) (.c (.int .i64 1)),some (.t 83,true)⟩,false,false,[]⟩,⟨⟨.t 88,.idxAddr 2 (.t 85) (.t 87),some (.t 83,true)⟩,false,false,[]⟩,
 ⟨⟨.t 89,.loadN 2 (.t 88),some (.t 83,true)⟩,false,false,[]⟩,⟨⟨.t 90,.mov (.p 0),some (.t 83,true)⟩,false,false,[]⟩,⟨⟨.t 91,.mov (.p 13),some (.t 83,true)⟩,false,false,[]⟩,⟨⟨.t 92,.idxAddr 2 (.t 90) (.t 91),some (.t 83,true)⟩,false,false,[]⟩,
 ⟨⟨.t 93,.loadN 2 (.t 92),some (.t 83,true)⟩,false,false,[]⟩,⟨⟨.t 94,.callV (.t 84) [.t 89,.t 93],some (.t 83,true)⟩,false,false,[]⟩,⟨⟨.t 95,.bin .lss (.t 94) (.c (.int .i64 0)),some (.t 83,true)⟩,false,false,[]⟩,
 ⟨⟨.t 96,.un .not (.t 95),some (.t 83,true)⟩,false,false,[]⟩,⟨⟨.p 97,.pick (.t 83) (.t 96) (.c (.bool false)),none⟩,false,false,[]⟩]) (.cond (.p 97) (.seq (.reg [⟨.t 98,.mov (.p 0),none⟩,
 ⟨.t 99,.mov (.p 1),none⟩,⟨.t 100,.mov (.p 2),none⟩,⟨.t 101,.mov (.p 13),none⟩,⟨.t 102,.mov (.p 4),none⟩,⟨.t 103,.call F_slices_partitionEqualCmpFunc_runes_span [.t 98,.t 99,.t 100,.t 101,.t 102],none⟩,
 ⟨.p 15,.mov (.t 103),none⟩]) (.seq (.reg [⟨.t 104,.mov (.p 15),none⟩,⟨.p 1,.mov (.t 104),none⟩]) (.exit 1))) (.skip))) (.seq (.reg [⟨.t 106,.mov (.p 0),none⟩,⟨.t 107,.mov (.p 1),none⟩,
 ⟨.t 108,.mov (.p 2),none⟩,⟨.t 109,.mov (.p 13),none⟩,⟨.t 110,.mov (.p 4),none⟩,⟨.t 111,.call F_slices_partitionCmpFunc_runes_span [.t 106,.t 107,.t 108,.t 109,.t 110],none⟩,⟨.t 105,.mov (.t 111),none⟩,
 ⟨.t 112,.extract (.t 105) 0,none⟩,⟨.t 113,.extract (.t 105) 1,none⟩,⟨.p 16,.mov (.t 112),none⟩,⟨.p 17,.mov (.t 113),none⟩]) (.seq (.reg [⟨.t 114,.mov (.p 17),none⟩,⟨.p 11,.mov (.t 114),none⟩]) (.seq (.reg [⟨.t 115,.mov (.p 16),none⟩,
 ⟨.t 116,.mov (.p 1),none⟩,⟨.t 117,.bin .sub (.t 115) (.t 116),none⟩,⟨.t 118,.mov (.p 2),none⟩,⟨.t 119,.mov (.p 16),none⟩,⟨.t 120,.bin .sub (.t 118) (.t 119),none⟩,⟨.p 18,.mov (.t 117),none⟩,
 ⟨.p 19,.mov (.t 120),none⟩]) (.seq (.reg [⟨.t 121,.mov (.p 12),none⟩,⟨.t 122,.bin .quo (.t 121) (.c (.int .i64 8)),none⟩,⟨.p 20,.mov (.t 122),none⟩]) (.seq (.reg [⟨.t 123,.mov (.p 18),none⟩,
 ⟨.t 124,.mov (.p 19),none⟩,⟨.p 125,.bin .lss (.t 123) (.t 124),none⟩]) (.cond (.p 125) (.seq (.reg [⟨.t 126,.mov (.p 18),none⟩,⟨.t 127,.mov (.p 20),none⟩,⟨.t 128,.bin .geq (.t 126) (.t 127),none⟩,
 ⟨.p 10,.mov (.t 128),none⟩]) (.seq (.reg [⟨.t 129,.mov (.p 0),none⟩,⟨.t 130,.mov (.p 1),none⟩,⟨.t 131,.mov (.p 16),none⟩,⟨.t 132,.mov (.p 3),none⟩,⟨.t 133,.mov (.p 4),none⟩,⟨.t 134,.call F_slices_pdqsortCmpFunc_runes_span [.t 129,.t 130,.t 131,.t 132,.t 133],none⟩]) (.reg [⟨.t 135,.mov (.p 16),none⟩,
 ⟨.t 136,.bin .add (.t 135) (.c (.int .i64 1)),none⟩,⟨.p 1,.mov (.t 136),none⟩]))) (.seq (.reg [⟨.t 137,.mov (.p 19),none⟩,⟨.t 138,.mov (.p 20),none⟩,⟨.t 139,.bin .geq (.t 137) (.t 138),none⟩,
 ⟨.p 10,.mov (.t 139),none⟩]) (.seq (.reg [⟨.t 140,.mov (.p 0),none⟩,⟨.t 141,.mov (.p 16),none⟩,⟨.t 142,.bin .add (.t 141) (.c (.int .i64 1)),none⟩,⟨.t 143,.mov (.p 2),none⟩,⟨.t 144,.mov (.p 3),none⟩,
 ⟨.t 145,.mov (.p 4),none⟩,⟨.t 146,.call F_slices_pdqsortCmpFunc_runes_span [.t 140,.t 142,.t 143,.t 144,.t 145],none⟩]) (.reg [⟨.t 147,.mov (.p 16),none⟩,⟨.p 2,.mov (.t 147),none⟩])))))))))))))))))
def bd_slices_pdqsortCmpFunc_runes_span : CCode :=
 .seq (.reg [⟨.p 10,.mov (.c (.bool true)),none⟩]) (.seq (.reg [⟨.p 11,.mov (.c (.bool true)),none⟩]) (.block 0 [] (.loop [0,1,2,3,4,10,11] lb_slices_pdqsortCmpFunc_runes_span_0)))
def cf_slices_pdqsortCmpFunc_runes_span : CFunc :=
{ nargs := 5,ps := [0,1,2,3,4,10,11,12,13,14,15,16,17,18,19,20,25,32,39,56,75,80,97,125],results := [],body := bd_slices_pdqsortCmpFunc_runes_span }
def bd_bits_Len : CCode :=
 .seq (.reg [⟨.p 2,.mov (.c (.int .i64 0)),none⟩]) (.seq (.cond (.c (.bool false)) (.seq (.reg [⟨.t 3,.mov (.p 0),none⟩,⟨.t 4,.convI .u32 (.t 3),none⟩,⟨.t 5,.call F_bits_Len32 [.t 4],none⟩,
 ⟨.p 2,.mov (.t 5),none⟩]) (.ret)) (.skip)) (.seq (.reg [⟨.t 6,.mov (.p 0),none⟩,⟨.t 7,.call F_bits_Len64 [.t 6],none⟩,⟨.p 2,.mov (.t 7),none⟩]) (.ret)))
def cf_bits_Len : CFunc :=
{ nargs := 1,ps := [0,2],results := [.slot 2],body := bd_bits_Len }
def bd_cmp_isNaN_int : CCode :=
 .seq (.reg [⟨.p 2,.mov (.c (.bool false)),none⟩]) (.seq (.reg [⟨.t 3,.mov (.p 0),none⟩,⟨.t 4,.mov (.p 0),none⟩,⟨.t 5,.bin .neq (.t 3) (.t 4),none⟩,⟨.p 2,.mov (.t 5),none⟩]) (.ret))
def cf_cmp_isNaN_int : CFunc :=
{ nargs := 1,ps := [0,2],results := [.slot 2],body := bd_cmp_isNaN_int }
def bd_decode_second : CCode :=
 .seq (.reg [⟨.p 2,.mov (.c (.int .u8 0)),none⟩,⟨.p 3,.mov (.c (.int .u8 0)),none⟩]) (.seq (.seq (.reg [⟨.p 4,.mov (.p 0),none⟩]) (.block 0 [] (.seq (.reg [⟨.t 6,.bin .eql (.p 4) (.c (.int .u8 224)),none⟩,
 ⟨.p 5,.mov (.t 6),none⟩]) (.cond (.p 5) (.seq (.reg [⟨.p 2,.mov (.c (.int .u8 160)),none⟩,⟨.p 3,.mov (.c (.int .u8 191)),none⟩]) (.ret)) (.seq (.reg [⟨.t 8,.bin .eql (.p 4) (.c (.int .u8 237)),none⟩,
 ⟨.p 7,.mov (.t 8),none⟩]) (.cond (.p 7) (.seq (.reg [⟨.p 2,.mov (.c (.int .u8 128)),none⟩,⟨.p 3,.mov (.c (.int .u8 159)),none⟩]) (.ret)) (.seq (.reg [⟨.t 10,.bin .eql (.p 4) (.c (.int .u8 240)),none⟩,
 ⟨.p 9,.mov (.t 10),none⟩]) (.cond (.p 9) (.seq (.reg [⟨.p 2,.mov (.c (.int .u8 144)),none⟩,⟨.p 3,.mov (.c (.int .u8 191)),none⟩]) (.ret)) (.seq (.reg [⟨.t 12,.bin .eql (.p 4) (.c (.int .u8 244)),none⟩,
 ⟨.p 11,.mov (.t 12),none⟩]) (.cond (.p 11) (.seq (.reg [⟨.p 2,.mov (.c (.int .u8 128)),none⟩,⟨.p 3,.mov (.c (.int .u8 143)),none⟩]) (.ret)) (.skip))))))))))) (.seq (.reg [⟨.p 2,.mov (.c (.int .u8 128)),none⟩,
 ⟨.p 3,.mov (.c (.int .u8 191)),none⟩]) (.ret)))
def cf_decode_second : CFunc :=
{ nargs := 1,ps := [0,2,3,4,5,7,9,11],results := [.slot 2,.slot 3],body := bd_decode_second }
def bd_slices_Clone_byte_byte : CCode :=
 .seq (.reg [⟨.p 2,.mov (.c (.nils)),none⟩]) (.seq (.seq (.reg [⟨.t 3,.mov (.p 0),none⟩,⟨.p 4,.eqv false .slice (.t 3) (.c (.nils)),none⟩]) (.cond (.p 4) (.seq (.reg [⟨.p 2,.mov (.c (.nils)),none⟩]) (.ret)) (.skip))) (.seq (.reg [⟨.t 5,.lit [] 0 [],none⟩,
 ⟨.t 6,.mov (.p 0),none⟩,⟨.t 7,.append 1 1 (.t 5) (.t 6),none⟩,⟨.p 2,.mov (.t 7),none⟩]) (.ret)))
def cf_slices_Clone_byte_byte : CFunc :=
{ nargs := 1,ps := [0,2,4],results := [.slot 2],body := bd_slices_Clone_byte_byte }
def lb_slices_insertionSortCmpFunc_runes_span_0 : CCode :=
 .seq (.seq (.dreg [⟨⟨.t 18,.mov (.p 9),none⟩,false,false,[]⟩,⟨⟨.t 19,.mov (.p 1),none⟩,false,false,[]⟩,⟨⟨.t 20,.bin .gtr (.t 18) (.t 19),none⟩,false,false,[]⟩,⟨⟨.t 21,.mov (.t 20),none⟩,false,false,[]⟩,
 ⟨⟨.t 22,.mov (.p 3),some (.t 21,true)⟩,false,false,[]⟩,⟨⟨.t 23,.mov (.p 0),some (.t 21,true)⟩,false,false,[]⟩,⟨⟨.t 24,.mov (.p 9),some (.t 21,true)⟩,false,false,[]⟩,⟨⟨.t 25,.idxAddr 2 (.t 23) (.t 24),some (.t 21,true)⟩,false,false,[]⟩,
 ⟨⟨.t 26,.loadN 2 (.t 25),some (.t 21,true)⟩,false,false,[]⟩,⟨⟨.t 27,.mov (.p 0),some (.t 21,true)⟩,false,false,[]⟩,⟨⟨.t 28,.mov (.p 9),some (.t 21,true)⟩,false,false,[]⟩,⟨⟨.t 29,.bin .sub (.t 28) (.c (.int .i64 1)),some (.t 21,true)⟩,false,false,[]⟩,
 ⟨⟨.t 30,.idxAddr 2 (.t 27) (.t 29),some (.t 21,true)⟩,false,false,[]⟩,⟨⟨.t 31,.loadN 2 (.t 30),some (.t 21,true)⟩,false,false,[]⟩,⟨⟨.t 32,.callV (.t 22) [.t 26,.t 31],some (.t 21,true)⟩,false,false,[]⟩,
 ⟨⟨.t 33,.bin .lss (.t 32) (.c (.int .i64 0)),some (.t 21,true)⟩,false,false,[]⟩,⟨⟨.p 34,.pick (.t 21) (.t 33) (.c (.bool false)),none⟩,false,false,[]⟩]) (.cond (.p 34) (.skip) (.exit 2))) (.seq (.block 3 [0,1,2,3,8,9] (.dreg [⟨⟨.t 37,.mov (.p 0),none⟩,false,false,[]⟩,
 ⟨⟨.t 38,.mov (.p 9),none⟩,false,false,[]⟩,⟨⟨.t 39,.mov (.p 0),none⟩,false,false,[]⟩,⟨⟨.t 40,.mov (.p 9),none⟩,false,false,[]⟩,⟨⟨.t 41,.bin .sub (.t 40) (.c (.int .i64 1)),none⟩,false,false,[]⟩,
 ⟨⟨.t 42,.mov (.p 0),none⟩,false,false,[]⟩,⟨⟨.t 43,.mov (.p 9),none⟩,false,false,[]⟩,⟨⟨.t 44,.bin .sub (.t 43) (.c (.int .i64 1)),none⟩,false,false,[]⟩,⟨⟨.t 45,.idxAddr 2 (.t 42) (.t 44),none⟩,false,false,[]⟩,
 ⟨⟨.t 46,.loadN 2 (.t 45),none⟩,false,false,[]⟩,⟨⟨.t 47,.mov (.p 0),none⟩,false,false,[]⟩,⟨⟨.t 48,.mov (.p 9),none⟩,false,false,[]⟩,⟨⟨.t 49,.idxAddr 2 (.t 47) (.t 48),none⟩,false,false,[]⟩,
 ⟨⟨.t 50,.loadN 2 (.t 49),none⟩,false,false,[]⟩,⟨⟨.t 51,.idxAddr 2 (.t 37) (.t 38),none⟩,false,false,[]⟩,⟨⟨.no,.store 2 (.t 51) (.t 46),none⟩,false,false,[]⟩,⟨⟨.t 52,.idxAddr 2 (.t 39) (.t 41),none⟩,false,false,[]⟩,
 ⟨⟨.no,.store 2 (.t 52) (.t 50),none⟩,false,false,[]⟩])) (.reg [⟨.t 35,.mov (.p 9),none⟩,⟨.t 36,.bin .sub (.t 35) (.c (.int .i64 1)),none⟩,⟨.p 9,.mov (.t 36),none⟩]))
def lb_slices_insertionSortCmpFunc_runes_span_1 : CCode :=
 .seq (.seq (.reg [⟨.t 12,.mov (.p 8),none⟩,⟨.t 13,.mov (.p 2),none⟩,⟨.p 14,.bin .lss (.t 12) (.t 13),none⟩]) (.cond (.p 14) (.skip) (.exit 0))) (.seq (.block 1 [0,1,2,3,8] (.seq (.reg [⟨.t 17,.mov (.p 8),none⟩,
 ⟨.p 9,.mov (.t 17),none⟩]) (.block 2 [0,1,2,3,8] (.loop [0,1,2,3,8,9] lb_slices_insertionSortCmpFunc_runes_span_0)))) (.reg [⟨.t 15,.mov (.p 8),none⟩,⟨.t 16,.bin .add (.t 15) (.c (.int .i64 1)),none⟩,
 ⟨.p 8,.mov (.t 16),none⟩]))
def bd_slices_insertionSortCmpFunc_runes_span : CCode :=
 .seq (.reg [⟨.t 10,.mov (.p 1),none⟩,⟨.t 11,.bin .add (.t 10) (.c (.int .i64 1)),none⟩,⟨.p 8,.mov (.t 11),none⟩]) (.block 0 [] (.loop [0,1,2,3,8] lb_slices_insertionSortCmpFunc_runes_span_1))
def cf_slices_insertionSortCmpFunc_runes_span : CFunc :=
{ nargs := 4,ps := [0,1,2,3,8,9,14,34],results := [],body := bd_slices_insertionSortCmpFunc_runes_span }
def lb_slices_heapSortCmpFunc_runes_span_0 : CCode :=
 .seq (.seq (.reg [⟨.t 20,.mov (.p 11),none⟩,⟨.p 21,.bin .geq (.t 20) (.c (.int .i64 0)),none⟩]) (.cond (.p 21) (.skip) (.exit 0))) (.seq (.block 1 [0,3,8,9,10,11] (.reg [⟨.t 24,.mov (.p 0),none⟩,
 ⟨.t 25,.mov (.p 11),none⟩,⟨.t 26,.mov (.p 10),none⟩,⟨.t 27,.mov (.p 8),none⟩,⟨.t 28,.mov (.p 3),none⟩,⟨.t 29,.call F_slices_siftDownCmpFunc_runes_span [.t 24,.t 25,.t 26,.t 27,.t 28],none⟩])) (.reg [⟨.t 22,.mov (.p 11),none⟩,
 ⟨.t 23,.bin .sub (.t 22) (.c (.int .i64 1)),none⟩,⟨.p 11,.mov (.t 23),none⟩]))
def lb_slices_heapSortCmpFunc_runes_span_1 : CCode :=
 .seq (.seq (.reg [⟨.t 32,.mov (.p 12),none⟩,⟨.p 33,.bin .geq (.t 32) (.c (.int .i64 0)),none⟩]) (.cond (.p 33) (.skip) (.exit 2))) (.seq (.block 3 [0,3,8,9,12] (.seq (.dreg [⟨⟨.t 36,.mov (.p 0),none⟩,false,false,[]⟩,
 ⟨⟨.t 37,.mov (.p 8),none⟩,false,false,[]⟩,⟨⟨.t 38,.mov (.p 0),none⟩,false,false,[]⟩,⟨⟨.t 39,.mov (.p 8),none⟩,false,false,[]⟩,⟨⟨.t 40,.mov (.p 12),none⟩,false,false,[]⟩,⟨⟨.t 41,.bin .add (.t 39) (.t 40),none⟩,false,false,[]⟩,
 ⟨⟨.t 42,.mov (.p 0),none⟩,false,false,[]⟩,⟨⟨.t 43,.mov (.p 8),none⟩,false,false,[]⟩,⟨⟨.t 44,.mov (.p 12),none⟩,false,false,[]⟩,⟨⟨.t 45,.bin .add (.t 43) (.t 44),none⟩,false,false,[]⟩,
 ⟨⟨.t 46,.idxAddr 2 (.t 42) (.t 45),none⟩,false,false,[]⟩,⟨⟨.t 47,.loadN 2 (.t 46),none⟩,false,false,[]⟩,⟨⟨.t 48,.mov (.p 0),none⟩,false,false,[]⟩,⟨⟨.t 49,.mov (.p 8),none⟩,false,false,[]⟩,
 ⟨⟨.t 50,.idxAddr 2 (.t 48) (.t 49),none⟩,false,false,[]⟩,⟨⟨.t 51,.loadN 2 (.t 50),none⟩,false,false,[]⟩,⟨⟨.t 52,.idxAddr 2 (.t 36) (.t 37),none⟩,false,false,[]⟩,⟨⟨.no,.store 2 (.t 52) (.t 47),none⟩,false,false,[]⟩,
 ⟨⟨.t 53,.idxAddr 2 (.t 38) (.t 41),none⟩,false,false,[]⟩,⟨⟨.no,.store 2 (.t 53) (.t 51),none⟩,false,false,[]⟩]) (.reg [⟨.t 54,.mov (.p 0),none⟩,⟨.t 55,.mov (.p 9),none⟩,⟨.t 56,.mov (.p 12),none⟩,
 ⟨.t 57,.mov (.p 8),none⟩,⟨.t 58,.mov (.p 3),none⟩,⟨.t 59,.call F_slices_siftDownCmpFunc_runes_span [.t 54,.t 55,.t 56,.t 57,.t 58],none⟩]))) (.reg [⟨.t 34,.mov (.p 12),none⟩,⟨.t 35,.bin .sub (.t 34) (.c (.int .i64 1)),none⟩,
 ⟨.p 12,.mov (.t 35),none⟩]))
def bd_slices_heapSortCmpFunc_runes_span : CCode :=
 .seq (.reg [⟨.t 13,.mov (.p 1),none⟩,⟨.p 8,.mov (.t 13),none⟩]) (.seq (.reg [⟨.p 9,.mov (.c (.int .i64 0)),none⟩]) (.seq (.reg [⟨.t 14,.mov (.p 2),none⟩,⟨.t 15,.mov (.p 1),none⟩,⟨.t 16,.bin .sub (.t 14) (.t 15),none⟩,
 ⟨.p 10,.mov (.t 16),none⟩]) (.seq (.seq (.reg [⟨.t 17,.mov (.p 10),none⟩,⟨.t 18,.bin .sub (.t 17) (.c (.int .i64 1)),none⟩,⟨.t 19,.bin .quo (.t 18) (.c (.int .i64 2)),none⟩,⟨.p 11,.mov (.t 19),none⟩]) (.block 0 [0,3,8,9,10] (.loop [0,3,8,9,10,11] lb_slices_heapSortCmpFunc_runes_span_0))) (.seq (.reg [⟨.t 30,.mov (.p 10),none⟩,
 ⟨.t 31,.bin .sub (.t 30) (.c (.int .i64 1)),none⟩,⟨.p 12,.mov (.t 31),none⟩]) (.block 2 [] (.loop [0,3,8,9,12] lb_slices_heapSortCmpFunc_runes_span_1))))))
def cf_slices_heapSortCmpFunc_runes_span : CFunc :=
{ nargs := 4,ps := [0,1,2,3,8,9,10,11,12,21,33],results := [],body := bd_slices_heapSortCmpFunc_runes_span }
def lb_slices_breakPatternsCmpFunc_runes_span_0 : CCode :=
 .seq (.seq (.reg [⟨.t 28,.mov (.p 11),none⟩,⟨.t 29,.mov (.p 1),none⟩,⟨.t 30,.mov (.p 8),none⟩,⟨.t 31,.bin .quo (.t 30) (.c (.int .i64 4)),none⟩,⟨.t 32,.bin .mul (.t 31) (.c (.int .i64 2)),none⟩,
 ⟨.t 33,.bin .add (.t 29) (.t 32),none⟩,⟨.t 34,.bin .add (.t 33) (.c (.int .i64 1)),none⟩,⟨.p 35,.bin .leq (.t 28) (.t 34),none⟩]) (.cond (.p 35) (.skip) (.exit 0))) (.seq (.block 1 [0,1,8,9,10,11] (.seq (.reg [⟨.t 38,.call F_slices_xorshift_Next [.p 9],none⟩,
 ⟨.t 39,.mov (.p 10),none⟩,⟨.t 40,.bin .sub (.t 39) (.c (.int .u64 1)),none⟩,⟨.t 41,.bin .and (.t 38) (.t 40),none⟩,⟨.t 42,.convI .i64 (.t 41),none⟩,⟨.p 12,.mov (.t 42),none⟩]) (.seq (.seq (.reg [⟨.t 43,.mov (.p 12),none⟩,
 ⟨.t 44,.mov (.p 8),none⟩,⟨.p 45,.bin .geq (.t 43) (.t 44),none⟩]) (.cond (.p 45) (.reg [⟨.t 46,.mov (.p 12),none⟩,⟨.t 47,.mov (.p 8),none⟩,⟨.t 48,.bin .sub (.t 46) (.t 47),none⟩,⟨.p 12,.mov (.t 48),none⟩]) (.skip))) (.dreg [⟨⟨.t 49,.mov (.p 0),none⟩,false,false,[]⟩,
 ⟨⟨.t 50,.mov (.p 11),none⟩,false,false,[]⟩,⟨⟨.t 51,.mov (.p 0),none⟩,false,false,[]⟩,⟨⟨.t 52,.mov (.p 1),none⟩,false,false,[]⟩,⟨⟨.t 53,.mov (.p 12),none⟩,false,false,[]⟩,⟨⟨.t 54,.bin .add (.t 52) (.t 53),none⟩,false,false,[]⟩,
 ⟨⟨.t 55,.mov (.p 0),none⟩,false,false,[]⟩,⟨⟨.t 56,.mov (.p 1),none⟩,false,false,[]⟩,⟨⟨.t 57,.mov (.p 12),none⟩,false,false,[]⟩,⟨⟨.t 58,.bin .add (.t 56) (.t 57),none⟩,false,false,[]⟩,
 ⟨⟨.t 59,.idxAddr 2 (.t 55) (.t 58),none⟩,false,false,[]⟩,⟨⟨.t 60,.loadN 2 (.t 59),none⟩,false,false,[]⟩,⟨⟨.t 61,.mov (.p 0),none⟩,false,false,[]⟩,⟨⟨.t 62,.mov (.p 11),none⟩,false,false,[]⟩,
 ⟨⟨.t 63,.idxAddr 2 (.t 61) (.t 62),none⟩,false,false,[]⟩,⟨⟨.t 64,.loadN 2 (.t 63),none⟩,false,false,[]⟩,⟨⟨.t 65,.idxAddr 2 (.t 49) (.t 50),none⟩,false,false,[]⟩,⟨⟨.no,.store 2 (.t 65) (.t 60),none⟩,false,false,[]⟩,
 ⟨⟨.t 66,.idxAddr 2 (.t 51) (.t 54),none⟩,false,false,[]⟩,⟨⟨.no,.store 2 (.t 66) (.t 64),none⟩,false,false,[]⟩])))) (.reg [⟨.t 36,.mov (.p 11),none⟩,⟨.t 37,.bin .add (.t 36) (.c (.int .i64 1)),none⟩,
 ⟨.p 11,.mov (.t 37),none⟩]))
def bd_slices_breakPatternsCmpFunc_runes_span : CCode :=
 .seq (.reg [⟨.t 13,.mov (.p 2),none⟩,⟨.t 14,.mov (.p 1),none⟩,⟨.t 15,.bin .sub (.t 13) (.t 14),none⟩,⟨.p 8,.mov (.t 15),none⟩]) (.seq (.reg [⟨.t 16,.mov (.p 8),none⟩,⟨.p 17,.bin .geq (.t 16) (.c (.int .i64 8)),none⟩]) (.cond (.p 17) (.seq (.reg [⟨.t 18,.mov (.p 8),none⟩,
 ⟨.t 19,.convI .u64 (.t 18),none⟩,⟨.p 9,.alloc [.int .u64 0],none⟩,⟨.no,.store 1 (.p 9) (.t 19),none⟩]) (.seq (.reg [⟨.t 20,.mov (.p 8),none⟩,⟨.t 21,.call F_slices_nextPowerOfTwo [.t 20],none⟩,
 ⟨.p 10,.mov (.t 21),none⟩]) (.seq (.reg [⟨.t 22,.mov (.p 1),none⟩,⟨.t 23,.mov (.p 8),none⟩,⟨.t 24,.bin .quo (.t 23) (.c (.int .i64 4)),none⟩,⟨.t 25,.bin .mul (.t 24) (.c (.int .i64 2)),none⟩,
 ⟨.t 26,.bin .add (.t 22) (.t 25),none⟩,⟨.t 27,.bin .sub (.t 26) (.c (.int .i64 1)),none⟩,⟨.p 11,.mov (.t 27),none⟩]) (.block 0 [] (.loop [0,1,8,9,10,11] lb_slices_breakPatternsCmpFunc_runes_span_0))))) (.skip)))
def cf_slices_breakPatternsCmpFunc_runes_span : CFunc :=
{ nargs := 4,ps := [0,1,2,3,8,9,10,11,12,17,35,45],results := [],body := bd_slices_breakPatternsCmpFunc_runes_span }
def bd_slices_choosePivotCmpFunc_runes_span : CCode :=
 .seq (.reg [⟨.p 8,.mov (.c (.int .i64 0)),none⟩,⟨.p 9,.mov (.c (.int .i64 0)),none⟩]) (.seq (.reg [⟨.t 15,.mov (.p 2),none⟩,⟨.t 16,.mov (.p 1),none⟩,⟨.t 17,.bin .sub (.t 15) (.t 16),none⟩,
 ⟨.p 10,.mov (.t 17),none⟩]) (.seq (.reg [⟨.p 11,.alloc [.int .i64 0],none⟩]) (.seq (.reg [⟨.t 18,.mov (.p 1),none⟩,⟨.t 19,.mov (.p 10),none⟩,⟨.t 20,.bin .quo (.t 19) (.c (.int .i64 4)),none⟩,
 ⟨.t 21,.bin .mul (.t 20) (.c (.int .i64 1)),none⟩,⟨.t 22,.bin .add (.t 18) (.t 21),none⟩,⟨.p 12,.mov (.t 22),none⟩]) (.seq (.reg [⟨.t 23,.mov (.p 1),none⟩,⟨.t 24,.mov (.p 10),none⟩,
 ⟨.t 25,.bin .quo (.t 24) (.c (.int .i64 4)),none⟩,⟨.t 26,.bin .mul (.t 25) (.c (.int .i64 2)),none⟩,⟨.t 27,.bin .add (.t 23) (.t 26),none⟩,⟨.p 13,.mov (.t 27),none⟩]) (.seq (.reg [⟨.t 28,.mov (.p 1),none⟩,
 ⟨.t 29,.mov (.p 10),none⟩,⟨.t 30,.bin .quo (.t 29) (.c (.int .i64 4)),none⟩,⟨.t 31,.bin .mul (.t 30) (.c (.int .i64 3)),none⟩,⟨.t 32,.bin .add (.t 28) (.t 31),none⟩,⟨.p 14,.mov (.t 32),none⟩]) (.seq (.seq (.reg [⟨.t 33,.mov (.p 10),none⟩,
 ⟨.p 34,.bin .geq (.t 33) (.c (.int .i64 8)),none⟩]) (.cond (.p 34) (.seq (.seq (.reg [⟨.t 35,.mov (.p 10),none⟩,⟨.p 36,.bin .geq (.t 35) (.c (.int .i64 50)),none⟩]) (.cond (.p 36) (.seq (.reg [⟨.t 37,.mov (.p 0),none⟩,
 ⟨.t 38,.mov (.p 12),none⟩,⟨.t 39,.mov (.p 3),none⟩,⟨.t 40,.call F_slices_medianAdjacentCmpFunc_runes_span [.t 37,.t 38,.p 11,.t 39],none⟩,⟨.p 12,.mov (.t 40),none⟩]) (.seq (.reg [⟨.t 41,.mov (.p 0),none⟩,
 ⟨.t 42,.mov (.p 13),none⟩,⟨.t 43,.mov (.p 3),none⟩,⟨.t 44,.call F_slices_medianAdjacentCmpFunc_runes_span [.t 41,.t 42,.p 11,.t 43],none⟩,⟨.p 13,.mov (.t 44),none⟩]) (.reg [⟨.t 45,.mov (.p 0),none⟩,
 ⟨.t 46,.mov (.p 14),none⟩,⟨.t 47,.mov (.p 3),none⟩,⟨.t 48,.call F_slices_medianAdjacentCmpFunc_runes_span [.t 45,.t 46,.p 11,.t 47],none⟩,⟨.p 14,.mov (.t 48),none⟩]))) (.skip))) (.reg [⟨.t 49,.mov (.p 0),none⟩,
 ⟨.t 50,.mov (.p 12),none⟩,⟨.t 51,.mov (.p 13),none⟩,⟨.t 52,.mov (.p 14),none⟩,⟨.t 53,.mov (.p 3),none⟩,⟨.t 54,.call F_slices_medianCmpFunc_runes_span [.t 49,.t 50,.t 51,.t 52,.p 11,.t 53],none⟩,
 ⟨.p 13,.mov (.t 54),none⟩])) (.skip))) (.seq (.reg [⟨.p 55,.load1 (.p 11),none⟩]) (.block 0 [8,9] (.seq (.reg [⟨.t 58,.bin .eql (.p 55) (.c (.int .i64 0)),none⟩,⟨.p 57,.mov (.t 58),none⟩]) (.cond (.p 57) (.seq (.reg [⟨.t 59,.mov (.p 13),none⟩,
 ⟨.p 8,.mov (.t 59),none⟩,⟨.p 9,.mov (.c (.int .i64 1)),none⟩]) (.ret)) (.seq (.reg [⟨.t 61,.bin .eql (.p 55) (.c (.int .i64 12)),none⟩,⟨.p 60,.mov (.t 61),none⟩]) (.cond (.p 60) (.seq (.reg [⟨.t 62,.mov (.p 13),none⟩,
 ⟨.p 8,.mov (.t 62),none⟩,⟨.p 9,.mov (.c (.int .i64 2)),none⟩]) (.ret)) (.seq (.reg [⟨.t 56,.mov (.p 13),none⟩,⟨.p 8,.mov (.t 56),none⟩,⟨.p 9,.mov (.c (.int .i64 0)),none⟩]) (.ret))))))))))))))
def cf_slices_choosePivotCmpFunc_runes_span : CFunc :=
{ nargs := 4,ps := [0,1,2,3,8,9,10,11,12,13,14,34,36,55,57,60],results := [.slot 8,.slot 9],body := bd_slices_choosePivotCmpFunc_runes_span }
def lb_slices_reverseRangeCmpFunc_runes_span_0 : CCode :=
 .seq (.seq (.reg [⟨.t 13,.mov (.p 8),none⟩,⟨.t 14,.mov (.p 9),none⟩,⟨.p 15,.bin .lss (.t 13) (.t 14),none⟩]) (.cond (.p 15) (.skip) (.exit 0))) (.block 1 [0,8,9] (.seq (.dreg [⟨⟨.t 16,.mov (.p 0),none⟩,false,false,[]⟩,
 ⟨⟨.t 17,.mov (.p 8),none⟩,false,false,[]⟩,⟨⟨.t 18,.mov (.p 0),none⟩,false,false,[]⟩,⟨⟨.t 19,.mov (.p 9),none⟩,false,false,[]⟩,⟨⟨.t 20,.mov (.p 0),none⟩,false,false,[]⟩,⟨⟨.t 21,.mov (.p 9),none⟩,false,false,[]⟩,
 ⟨⟨.t 22,.idxAddr 2 (.t 20) (.t 21),none⟩,false,false,[]⟩,⟨⟨.t 23,.loadN 2 (.t 22),none⟩,false,false,[]⟩,⟨⟨.t 24,.mov (.p 0),none⟩,false,false,[]⟩,⟨⟨.t 25,.mov (.p 8),none⟩,false,false,[]⟩,
 ⟨⟨.t 26,.idxAddr 2 (.t 24) (.t 25),none⟩,false,false,[]⟩,⟨⟨.t 27,.loadN 2 (.t 26),none⟩,false,false,[]⟩,⟨⟨.t 28,.idxAddr 2 (.t 16) (.t 17),none⟩,false,false,[]⟩,⟨⟨.no,.store 2 (.t 28) (.t 23),none⟩,false,false,[]⟩,
 ⟨⟨.t 29,.idxAddr 2 (.t 18) (.t 19),none⟩,false,false,[]⟩,⟨⟨.no,.store 2 (.t 29) (.t 27),none⟩,false,false,[]⟩]) (.seq (.reg [⟨.t 30,.mov (.p 8),none⟩,⟨.t 31,.bin .add (.t 30) (.c (.int .i64 1)),none⟩,
 ⟨.p 8,.mov (.t 31),none⟩]) (.reg [⟨.t 32,.mov (.p 9),none⟩,⟨.t 33,.bin .sub (.t 32) (.c (.int .i64 1)),none⟩,⟨.p 9,.mov (.t 33),none⟩]))))
def bd_slices_reverseRangeCmpFunc_runes_span : CCode :=
 .seq (.reg [⟨.t 10,.mov (.p 1),none⟩,⟨.p 8,.mov (.t 10),none⟩]) (.seq (.reg [⟨.t 11,.mov (.p 2),none⟩,⟨.t 12,.bin .sub (.t 11) (.c (.int .i64 1)),none⟩,⟨.p 9,.mov (.t 12),none⟩]) (.block 0 [] (.loop [0,8,9] lb_slices_reverseRangeCmpFunc_runes_span_0)))
def cf_slices_reverseRangeCmpFunc_runes_span : CFunc :=
{ nargs := 4,ps := [0,1,2,3,8,9,15],results := [],body := bd_slices_reverseRangeCmpFunc_runes_span }
def lb_slices_partialInsertionSortCmpFunc_runes_span_0 : CCode :=
 .seq (.seq (.dreg [⟨⟨.t 19,.mov (.p 9),none⟩,false,false,[]⟩,⟨⟨.t 20,.mov (.p 2),none⟩,false,false,[]⟩,⟨⟨.t 21,.bin .lss (.t 19) (.t 20),none⟩,false,false,[]⟩,⟨⟨.t 22,.mov (.t 21),none⟩,false,false,[]⟩,
 ⟨⟨.t 23,.mov (.p 3),some (.t 22,true)⟩,false,false,[]⟩,⟨⟨.t 24,.mov (.p 0),some (.t 22,true)⟩,false,false,[]⟩,⟨⟨.t 25,.mov (.p 9),some (.t 22,true)⟩,false,false,[]⟩,⟨⟨.t 26,.idxAddr 2 (.t 24) (.t 25),some (.t 22,true)⟩,false,false,[]⟩,
 ⟨⟨.t 27,.loadN 2 (.t 26),some (.t 22,true)⟩,false,false,[]⟩,⟨⟨.t 28,.mov (.p 0),some (.t 22,true)⟩,false,false,[]⟩,⟨⟨.t 29,.mov (.p 9),some (.t 22,true)⟩,false,false,[]⟩,⟨⟨.t 30,.bin .sub (.t 29) (.c (.int .i64 1)),some (.t 22,true)⟩,false,false,[]⟩,
 ⟨⟨.t 31,.idxAddr 2 (.t 28) (.t 30),some (.t 22,true)⟩,false,false,[]⟩,⟨⟨.t 32,.loadN 2 (.t 31),some (.t 22,true)⟩,false,false,[]⟩,⟨⟨.t 33,.callV (.t 23) [.t 27,.t 32],some (.t 22,true)⟩,false,false,[]⟩,
 ⟨⟨.t 34,.bin .lss (.t 33) (.c (.int .i64 0)),some (.t 22,true)⟩,false,false,[]⟩,⟨⟨.t 35,.un .not (.t 34),some (.t 22,true)⟩,false,false,[]⟩,⟨⟨.p 36,.pick (.t 22) (.t 35) (.c (.bool false)),none⟩,false,false,[]⟩]) (.cond (.p 36) (.skip) (.exit 2))) (.block 3 [0,1,2,3,9,10] (.reg [⟨.t 37,.mov (.p 9),none⟩,
 ⟨.t 38,.bin .add (.t 37) (.c (.int .i64 1)),none⟩,⟨.p 9,.mov (.t 38),none⟩]))
def lb_slices_partialInsertionSortCmpFunc_runes_span_1 : CCode :=
 .seq (.seq (.reg [⟨.t 68,.mov (.p 11),none⟩,⟨.p 69,.bin .geq (.t 68) (.c (.int .i64 1)),none⟩]) (.cond (.p 69) (.skip) (.exit 4))) (.seq (.block 5 [0,1,2,3,9,10,11] (.seq (.seq (.dreg [⟨⟨.t 72,.mov (.p 3),none⟩,false,false,[]⟩,
 ⟨⟨.t 73,.mov (.p 0),none⟩,false,false,[]⟩,⟨⟨.t 74,.mov (.p 11),none⟩,false,false,[]⟩,⟨⟨.t 75,.idxAddr 2 (.t 73) (.t 74),none⟩,false,false,[]⟩,⟨⟨.t 76,.loadN 2 (.t 75),none⟩,false,false,[]⟩,
 ⟨⟨.t 77,.mov (.p 0),none⟩,false,false,[]⟩,⟨⟨.t 78,.mov (.p 11),none⟩,false,false,[]⟩,⟨⟨.t 79,.bin .sub (.t 78) (.c (.int .i64 1)),none⟩,false,false,[]⟩,⟨⟨.t 80,.idxAddr 2 (.t 77) (.t 79),none⟩,false,false,[]⟩,
 ⟨⟨.t 81,.loadN 2 (.t 80),none⟩,false,false,[]⟩,⟨⟨.t 82,.callV (.t 72) [.t 76,.t 81],none⟩,false,false,[]⟩,⟨⟨.t 83,.bin .lss (.t 82) (.c (.int .i64 0)),none⟩,false,false,[]⟩,⟨⟨.p 84,.un .not (.t 83),none⟩,false,false,[]⟩]) (.cond (.p 84) (.exit 4) (.skip))) (.dreg [⟨⟨.t 85,.mov (.p 0),none⟩,false,false,[]⟩,
 ⟨⟨.t 86,.mov (.p 11),none⟩,false,false,[]⟩,⟨⟨.t 87,.mov (.p 0),none⟩,false,false,[]⟩,⟨⟨.t 88,.mov (.p 11),none⟩,false,false,[]⟩,⟨⟨.t 89,.bin .sub (.t 88) (.c (.int .i64 1)),none⟩,false,false,[]⟩,
 ⟨⟨.t 90,.mov (.p 0),none⟩,false,false,[]⟩,⟨⟨.t 91,.mov (.p 11),none⟩,false,false,[]⟩,⟨⟨.t 92,.bin .sub (.t 91) (.c (.int .i64 1)),none⟩,false,false,[]⟩,⟨⟨.t 93,.idxAddr 2 (.t 90) (.t 92),none⟩,false,false,[]⟩,
 ⟨⟨.t 94,.loadN 2 (.t 93),none⟩,false,false,[]⟩,⟨⟨.t 95,.mov (.p 0),none⟩,false,false,[]⟩,⟨⟨.t 96,.mov (.p 11),none⟩,false,false,[]⟩,⟨⟨.t 97,.idxAddr 2 (.t 95) (.t 96),none⟩,false,false,[]⟩,
 ⟨⟨.t 98,.loadN 2 (.t 97),none⟩,false,false,[]⟩,⟨⟨.t 99,.idxAddr 2 (.t 85) (.t 86),none⟩,false,false,[]⟩,⟨⟨.no,.store 2 (.t 99) (.t 94),none⟩,false,false,[]⟩,⟨⟨.t 100,.idxAddr 2 (.t 87) (.t 89),none⟩,false,false,[]⟩,
 ⟨⟨.no,.store 2 (.t 100) (.t 98),none⟩,false,false,[]⟩]))) (.reg [⟨.t 70,.mov (.p 11),none⟩,⟨.t 71,.bin .sub (.t 70) (.c (.int .i64 1)),none⟩,⟨.p 11,.mov (.t 71),none⟩]))
def lb_slices_partialInsertionSortCmpFunc_runes_span_2 : CCode :=
 .seq (.seq (.reg [⟨.t 107,.mov (.p 12),none⟩,⟨.t 108,.mov (.p 2),none⟩,⟨.p 109,.bin .lss (.t 107) (.t 108),none⟩]) (.cond (.p 109) (.skip) (.exit 6))) (.seq (.block 7 [0,1,2,3,9,10,12] (.seq (.seq (.dreg [⟨⟨.t 112,.mov (.p 3),none⟩,false,false,[]⟩,
 ⟨⟨.t 113,.mov (.p 0),none⟩,false,false,[]⟩,⟨⟨.t 114,.mov (.p 12),none⟩,false,false,[]⟩,⟨⟨.t 115,.idxAddr 2 (.t 113) (.t 114),none⟩,false,false,[]⟩,⟨⟨.t 116,.loadN 2 (.t 115),none⟩,false,false,[]⟩,
 ⟨⟨.t 117,.mov (.p 0),none⟩,false,false,[]⟩,⟨⟨.t 118,.mov (.p 12),none⟩,false,false,[]⟩,⟨⟨.t 119,.bin .sub (.t 118) (.c (.int .i64 1)),none⟩,false,false,[]⟩,⟨⟨.t 120,.idxAddr 2 (.t 117) (.t 119),none⟩,false,false,[]⟩,
 ⟨⟨.t 121,.loadN 2 (.t 120),none⟩,false,false,[]⟩,⟨⟨.t 122,.callV (.t 112) [.t 116,.t 121],none⟩,false,false,[]⟩,⟨⟨.t 123,.bin .lss (.t 122) (.c (.int .i64 0)),none⟩,false,false,[]⟩,
 ⟨⟨.p 124,.un .not (.t 123),none⟩,false,false,[]⟩]) (.cond (.p 124) (.exit 6) (.skip))) (.dreg [⟨⟨.t 125,.mov (.p 0),none⟩,false,false,[]⟩,⟨⟨.t 126,.mov (.p 12),none⟩,false,false,[]⟩,
 ⟨⟨.t 127,.mov (.p 0),none⟩,false,false,[]⟩,⟨⟨.t 128,.mov (.p 12),none⟩,false,false,[]⟩,⟨⟨.t 129,.bin .sub (.t 128) (.c (.int .i64 1)),none⟩,false,false,[]⟩,⟨⟨.t 130,.mov (.p 0),none⟩,false,false,[]⟩,
 ⟨⟨.t 131,.mov (.p 12),none⟩,false,false,[]⟩,⟨⟨.t 132,.bin .sub (.t 131) (.c (.int .i64 1)),none⟩,false,false,[]⟩,⟨⟨.t 133,.idxAddr 2 (.t 130) (.t 132),none⟩,false,false,[]⟩,⟨⟨.t 134,.loadN 2 (.t 133),none⟩,false,false,[]⟩,
 ⟨⟨.t 135,.mov (.p 0),none⟩,false,false,[]⟩,⟨⟨.t 136,.mov (.p 12),none⟩,false,false,[]⟩,⟨⟨.t 137,.idxAddr 2 (.t 135) (.t 136),none⟩,false,false,[]⟩,⟨⟨.t 138,.loadN 2 (.t 137),none⟩,false,false,[]⟩,
 ⟨⟨.t 139,.idxAddr 2 (.t 125) (.t 126),none⟩,false,false,[]⟩,⟨⟨.no,.store 2 (.t 139) (.t 134),none⟩,false,false,[]⟩,⟨⟨.t 140,.idxAddr 2 (.t 127) (.t 129),none⟩,false,false,[]⟩,⟨⟨.no,.store 2 (.t 140) (.t 138),none⟩,false,false,[]⟩]))) (.reg [⟨.t 110,.mov (.p 12),none⟩,
 ⟨.t 111,.bin .add (.t 110) (.c (.int .i64 1)),none⟩,⟨.p 12,.mov (.t 111),none⟩]))
def lb_slices_partialInsertionSortCmpFunc_runes_span_3 : CCode :=
 .seq (.seq (.reg [⟨.t 15,.mov (.p 10),none⟩,⟨.p 16,.bin .lss (.t 15) (.c (.int .i64 5)),none⟩]) (.cond (.p 16) (.skip) (.exit 0))) (.seq (.block 1 [0,1,2,3,9,10] (.seq (.block 2 [0,1,2,3,9,10] (.loop [0,1,2,3,9,10] lb_slices_partialInsertionSortCmpFunc_runes_span_0)) (.seq (.seq (.reg [⟨.t 39,.mov (.p 9),none⟩,
 ⟨.t 40,.mov (.p 2),none⟩,⟨.p 41,.bin .eql (.t 39) (.t 40),none⟩]) (.cond (.p 41) (.seq (.reg [⟨.p 8,.mov (.c (.bool true)),none⟩]) (.ret)) (.skip))) (.seq (.seq (.reg [⟨.t 42,.mov (.p 2),none⟩,
 ⟨.t 43,.mov (.p 1),none⟩,⟨.t 44,.bin .sub (.t 42) (.t 43),none⟩,⟨.p 45,.bin .lss (.t 44) (.c (.int .i64 50)),none⟩]) (.cond (.p 45) (.seq (.reg [⟨.p 8,.mov (.c (.bool false)),none⟩]) (.ret)) (.skip))) (.seq (.dreg [⟨⟨.t 46,.mov (.p 0),none⟩,false,false,[]⟩,
 ⟨⟨.t 47,.mov (.p 9),none⟩,false,false,[]⟩,⟨⟨.t 48,.mov (.p 0),none⟩,false,false,[]⟩,⟨⟨.t 49,.mov (.p 9),none⟩,false,false,[]⟩,⟨⟨.t 50,.bin .sub (.t 49) (.c (.int .i64 1)),none⟩,false,false,[]⟩,
 ⟨⟨.t 51,.mov (.p 0),none⟩,false,false,[]⟩,⟨⟨.t 52,.mov (.p 9),none⟩,false,false,[]⟩,⟨⟨.t 53,.bin .sub (.t 52) (.c (.int .i64 1)),none⟩,false,false,[]⟩,⟨⟨.t 54,.idxAddr 2 (.t 51) (.t 53),none⟩,false,false,[]⟩,
 ⟨⟨.t 55,.loadN 2 (.t 54),none⟩,false,false,[]⟩,⟨⟨.t 56,.mov (.p 0),none⟩,false,false,[]⟩,⟨⟨.t 57,.mov (.p 9),none⟩,false,false,[]⟩,⟨⟨.t 58,.idxAddr 2 (.t 56) (.t 57),none⟩,false,false,[]⟩,
 ⟨⟨.t 59,.loadN 2 (.t 58),none⟩,false,false,[]⟩,⟨⟨.t 60,.idxAddr 2 (.t 46) (.t 47),none⟩,false,false,[]⟩,⟨⟨.no,.store 2 (.t 60) (.t 55),none⟩,false,false,[]⟩,⟨⟨.t 61,.idxAddr 2 (.t 48) (.t 50),none⟩,false,false,[]⟩,
 ⟨⟨.no,.store 2 (.t 61) (.t 59),none⟩,false,false,[]⟩]) (.seq (.seq (.reg [⟨.t 62,.mov (.p 9),none⟩,⟨.t 63,.mov (.p 1),none⟩,⟨.t 64,.bin .sub (.t 62) (.t 63),none⟩,⟨.p 65,.bin .geq (.t 64) (.c (.int .i64 2)),none⟩]) (.cond (.p 65) (.seq (.reg [⟨.t 66,.mov (.p 9),none⟩,
 ⟨.t 67,.bin .sub (.t 66) (.c (.int .i64 1)),none⟩,⟨.p 11,.mov (.t 67),none⟩]) (.block 4 [0,1,2,3,9,10] (.loop [0,1,2,3,9,10,11] lb_slices_partialInsertionSortCmpFunc_runes_span_1))) (.skip))) (.seq (.reg [⟨.t 101,.mov (.p 2),none⟩,
 ⟨.t 102,.mov (.p 9),none⟩,⟨.t 103,.bin .sub (.t 101) (.t 102),none⟩,⟨.p 104,.bin .geq (.t 103) (.c (.int .i64 2)),none⟩]) (.cond (.p 104) (.seq (.reg [⟨.t 105,.mov (.p 9),none⟩,⟨.t 106,.bin .add (.t 105) (.c (.int .i64 1)),none⟩,
 ⟨.p 12,.mov (.t 106),none⟩]) (.block 6 [0,1,2,3,9,10] (.loop [0,1,2,3,9,10,12] lb_slices_partialInsertionSortCmpFunc_runes_span_2))) (.skip))))))))) (.reg [⟨.t 17,.mov (.p 10),none⟩,
 ⟨.t 18,.bin .add (.t 17) (.c (.int .i64 1)),none⟩,⟨.p 10,.mov (.t 18),none⟩]))
def bd_slices_partialInsertionSortCmpFunc_runes_span : CCode :=
 .seq (.reg [⟨.p 8,.mov (.c (.bool false)),none⟩]) (.seq (.reg [⟨.t 13,.mov (.p 1),none⟩,⟨.t 14,.bin .add (.t 13) (.c (.int .i64 1)),none⟩,⟨.p 9,.mov (.t 14),none⟩]) (.seq (.seq (.reg [⟨.p 10,.mov (.c (.int .i64 0)),none⟩]) (.block 0 [] (.loop [0,1,2,3,9,10] lb_slices_partialInsertionSortCmpFunc_runes_span_3))) (.seq (.reg [⟨.p 8,.mov (.c (.bool false)),none⟩]) (.ret))))
def cf_slices_partialInsertionSortCmpFunc_runes_span : CFunc :=
{ nargs := 4,ps := [0,1,2,3,8,9,10,11,12,16,36,41,45,65,69,84,104,109,124],results := [.slot 8],body := bd_slices_partialInsertionSortCmpFunc_runes_span }
def lb_slices_partitionEqualCmpFunc_runes_span_0 : CCode :=
 .seq (.seq (.dreg [⟨⟨.t 31,.mov (.p 11),none⟩,false,false,[]⟩,⟨⟨.t 32,.mov (.p 12),none⟩,false,false,[]⟩,⟨⟨.t 33,.bin .leq (.t 31) (.t 32),none⟩,false,false,[]⟩,⟨⟨.t 34,.mov (.t 33),none⟩,false,false,[]⟩,
 ⟨⟨.t 35,.mov (.p 4),some (.t 34,true)⟩,false,false,[]⟩,⟨⟨.t 36,.mov (.p 0),some (.t 34,true)⟩,false,false,[]⟩,⟨⟨.t 37,.mov (.p 1),some (.t 34,true)⟩,false,false,[]⟩,⟨⟨.t 38,.idxAddr 2 (.t 36) (.t 37),some (.t 34,true)⟩,false,false,[]⟩,
 ⟨⟨.t 39,.loadN 2 (.t 38),some (.t 34,true)⟩,false,false,[]⟩,⟨⟨.t 40,.mov (.p 0),some (.t 34,true)⟩,false,false,[]⟩,⟨⟨.t 41,.mov (.p 11),some (.t 34,true)⟩,false,false,[]⟩,⟨⟨.t 42,.idxAddr 2 (.t 40) (.t 41),some (.t 34,true)⟩,false,false,[]⟩,
 ⟨⟨.t 43,.loadN 2 (.t 42),some (.t 34,true)⟩,false,false,[]⟩,⟨⟨.t 44,.callV (.t 35) [.t 39,.t 43],some (.t 34,true)⟩,false,false,[]⟩,⟨⟨.t 45,.bin .lss (.t 44) (.c (.int .i64 0)),some (.t 34,true)⟩,false,false,[]⟩,
 ⟨⟨.t 46,.un .not (.t 45),some (.t 34,true)⟩,false,false,[]⟩,⟨⟨.p 47,.pick (.t 34) (.t 46) (.c (.bool false)),none⟩,false,false,[]⟩]) (.cond (.p 47) (.skip) (.exit 2))) (.block 3 [0,1,4,11,12] (.reg [⟨.t 48,.mov (.p 11),none⟩,
 ⟨.t 49,.bin .add (.t 48) (.c (.int .i64 1)),none⟩,⟨.p 11,.mov (.t 49),none⟩]))
def lb_slices_partitionEqualCmpFunc_runes_span_1 : CCode :=
 .seq (.seq (.dreg [⟨⟨.t 50,.mov (.p 11),none⟩,false,false,[]⟩,⟨⟨.t 51,.mov (.p 12),none⟩,false,false,[]⟩,⟨⟨.t 52,.bin .leq (.t 50) (.t 51),none⟩,false,false,[]⟩,⟨⟨.t 53,.mov (.t 52),none⟩,false,false,[]⟩,
 ⟨⟨.t 54,.mov (.p 4),some (.t 53,true)⟩,false,false,[]⟩,⟨⟨.t 55,.mov (.p 0),some (.t 53,true)⟩,false,false,[]⟩,⟨⟨.t 56,.mov (.p 1),some (.t 53,true)⟩,false,false,[]⟩,⟨⟨.t 57,.idxAddr 2 (.t 55) (.t 56),some (.t 53,true)⟩,false,false,[]⟩,
 ⟨⟨.t 58,.loadN 2 (.t 57),some (.t 53,true)⟩,false,false,[]⟩,⟨⟨.t 59,.mov (.p 0),some (.t 53,true)⟩,false,false,[]⟩,⟨⟨.t 60,.mov (.p 12),some (.t 53,true)⟩,false,false,[]⟩,⟨⟨.t 61,.idxAddr 2 (.t 59) (.t 60),some (.t 53,true)⟩,false,false,[]⟩,
 ⟨⟨.t 62,.loadN 2 (.t 61),some (.t 53,true)⟩,false,false,[]⟩,⟨⟨.t 63,.callV (.t 54) [.t 58,.t 62],some (.t 53,true)⟩,false,false,[]⟩,⟨⟨.t 64,.bin .lss (.t 63) (.c (.int .i64 0)),some (.t 53,true)⟩,false,false,[]⟩,
 ⟨⟨.p 65,.pick (.t 53) (.t 64) (.c (.bool false)),none⟩,false,false,[]⟩]) (.cond (.p 65) (.skip) (.exit 4))) (.block 5 [0,1,4,11,12] (.reg [⟨.t 66,.mov (.p 12),none⟩,⟨.t 67,.bin .sub (.t 66) (.c (.int .i64 1)),none⟩,
 ⟨.p 12,.mov (.t 67),none⟩]))
def lb_slices_partitionEqualCmpFunc_runes_span_2 : CCode :=
 .block 1 [0,1,4,11,12] (.seq (.block 2 [0,1,4,11,12] (.loop [0,1,4,11,12] lb_slices_partitionEqualCmpFunc_runes_span_0)) (.seq (.block 4 [0,1,4,11,12] (.loop [0,1,4,11,12] lb_slices_partitionEqualCmpFunc_runes_span_1)) (.seq (.seq (.reg [⟨.t 68,.mov (.p 11),none⟩,
 ⟨.t 69,.mov (.p 12),none⟩,⟨.p 70,.bin .gtr (.t 68) (.t 69),none⟩]) (.cond (.p 70) (.exit 0) (.skip))) (.seq (.dreg [⟨⟨.t 71,.mov (.p 0),none⟩,false,false,[]⟩,⟨⟨.t 72,.mov (.p 11),none⟩,false,false,[]⟩,
 ⟨⟨.t 73,.mov (.p 0),none⟩,false,false,[]⟩,⟨⟨.t 74,.mov (.p 12),none⟩,false,false,[]⟩,⟨⟨.t 75,.mov (.p 0),none⟩,false,false,[]⟩,⟨⟨.t 76,.mov (.p 12),none⟩,false,false,[]⟩,⟨⟨.t 77,.idxAddr 2 (.t 75) (.t 76),none⟩,false,false,[]⟩,
 ⟨⟨.t 78,.loadN 2 (.t 77),none⟩,false,false,[]⟩,⟨⟨.t 79,.mov (.p 0),none⟩,false,false,[]⟩,⟨⟨.t 80,.mov (.p 11),none⟩,false,false,[]⟩,⟨⟨.t 81,.idxAddr 2 (.t 79) (.t 80),none⟩,false,false,[]⟩,
 ⟨⟨.t 82,.loadN 2 (.t 81),none⟩,false,false,[]⟩,⟨⟨.t 83,.idxAddr 2 (.t 71) (.t 72),none⟩,false,false,[]⟩,⟨⟨.no,.store 2 (.t 83) (.t 78),none⟩,false,false,[]⟩,⟨⟨.t 84,.idxAddr 2 (.t 73) (.t 74),none⟩,false,false,[]⟩,
 ⟨⟨.no,.store 2 (.t 84) (.t 82),none⟩,false,false,[]⟩]) (.seq (.reg [⟨.t 85,.mov (.p 11),none⟩,⟨.t 86,.bin .add (.t 85) (.c (.int .i64 1)),none⟩,⟨.p 11,.mov (.t 86),none⟩]) (.reg [⟨.t 87,.mov (.p 12),none⟩,
 ⟨.t 88,.bin .sub (.t 87) (.c (.int .i64 1)),none⟩,⟨.p 12,.mov (.t 88),none⟩]))))))
def bd_slices_partitionEqualCmpFunc_runes_span : CCode :=
 .seq (.reg [⟨.p 10,.mov (.c (.int .i64 0)),none⟩]) (.seq (.dreg [⟨⟨.t 13,.mov (.p 0),none⟩,false,false,[]⟩,⟨⟨.t 14,.mov (.p 1),none⟩,false,false,[]⟩,⟨⟨.t 15,.mov (.p 0),none⟩,false,false,[]⟩,
 ⟨⟨.t 16,.mov (.p 3),none⟩,false,false,[]⟩,⟨⟨.t 17,.mov (.p 0),none⟩,false,false,[]⟩,⟨⟨.t 18,.mov (.p 3),none⟩,false,false,[]⟩,⟨⟨.t 19,.idxAddr 2 (.t 17) (.t 18),none⟩,false,false,[]⟩,
 ⟨⟨.t 20,.loadN 2 (.t 19),none⟩,false,false,[]⟩,⟨⟨.t 21,.mov (.p 0),none⟩,false,false,[]⟩,⟨⟨.t 22,.mov (.p 1),none⟩,false,false,[]⟩,⟨⟨.t 23,.idxAddr 2 (.t 21) (.t 22),none⟩,false,false,[]⟩,
 ⟨⟨.t 24,.loadN 2 (.t 23),none⟩,false,false,[]⟩,⟨⟨.t 25,.idxAddr 2 (.t 13) (.t 14),none⟩,false,false,[]⟩,⟨⟨.no,.store 2 (.t 25) (.t 20),none⟩,false,false,[]⟩,⟨⟨.t 26,.idxAddr 2 (.t 15) (.t 16),none⟩,false,false,[]⟩,
 ⟨⟨.no,.store 2 (.t 26) (.t 24),none⟩,false,false,[]⟩]) (.seq (.reg [⟨.t 27,.mov (.p 1),none⟩,⟨.t 28,.bin .add (.t 27) (.c (.int .i64 1)),none⟩,⟨.t 29,.mov (.p 2),none⟩,⟨.t 30,.bin .sub (.t 29) (.c (.int .i64 1)),none⟩,
 ⟨.p 11,.mov (.t 28),none⟩,⟨.p 12,.mov (.t 30),none⟩]) (.seq (.block 0 [11] (.loop [0,1,4,11,12] lb_slices_partitionEqualCmpFunc_runes_span_2)) (.seq (.reg [⟨.t 89,.mov (.p 11),none⟩,
 ⟨.p 10,.mov (.t 89),none⟩]) (.ret)))))
def cf_slices_partitionEqualCmpFunc_runes_span : CFunc :=
{ nargs := 5,ps := [0,1,2,3,4,10,11,12,47,65,70],results := [.slot 10],body := bd_slices_partitionEqualCmpFunc_runes_span }
def lb_slices_partitionCmpFunc_runes_span_0 : CCode :=
 .seq (.seq (.dreg [⟨⟨.t 32,.mov (.p 12),none⟩,false,false,[]⟩,⟨⟨.t 33,.mov (.p 13),none⟩,false,false,[]⟩,⟨⟨.t 34,.bin .leq (.t 32) (.t 33),none⟩,false,false,[]⟩,⟨⟨.t 35,.mov (.t 34),none⟩,false,false,[]⟩,
 ⟨⟨.t 36,.mov (.p 4),some (.t 35,true)⟩,false,false,[]⟩,⟨⟨.t 37,.mov (.p 0),some (.t 35,true)⟩,false,false,[]⟩,⟨⟨.t 38,.mov (.p 12),some (.t 35,true)⟩,false,false,[]⟩,⟨⟨.t 39,.idxAddr 2 (.t 37) (.t 38),some (.t 35,true)⟩,false,false,[]⟩,
 ⟨⟨.t 40,.loadN 2 (.t 39),some (.t 35,true)⟩,false,false,[]⟩,⟨⟨.t 41,.mov (.p 0),some (.t 35,true)⟩,false,false,[]⟩,⟨⟨.t 42,.mov (.p 1),some (.t 35,true)⟩,false,false,[]⟩,⟨⟨.t 43,.idxAddr 2 (.t 41) (.t 42),some (.t 35,true)⟩,false,false,[]⟩,
 ⟨⟨.t 44,.loadN 2 (.t 43),some (.t 35,true)⟩,false,false,[]⟩,⟨⟨.t 45,.callV (.t 36) [.t 40,.t 44],some (.t 35,true)⟩,false,false,[]⟩,⟨⟨.t 46,.bin .lss (.t 45) (.c (.int .i64 0)),some (.t 35,true)⟩,false,false,[]⟩,
 ⟨⟨.p 47,.pick (.t 35) (.t 46) (.c (.bool false)),none⟩,false,false,[]⟩]) (.cond (.p 47) (.skip) (.exit 0))) (.block 1 [0,1,4,12,13] (.reg [⟨.t 48,.mov (.p 12),none⟩,⟨.t 49,.bin .add (.t 48) (.c (.int .i64 1)),none⟩,
 ⟨.p 12,.mov (.t 49),none⟩]))
def lb_slices_partitionCmpFunc_runes_span_1 : CCode :=
 .seq (.seq (.dreg [⟨⟨.t 50,.mov (.p 12),none⟩,false,false,[]⟩,⟨⟨.t 51,.mov (.p 13),none⟩,false,false,[]⟩,⟨⟨.t 52,.bin .leq (.t 50) (.t 51),none⟩,false,false,[]⟩,⟨⟨.t 53,.mov (.t 52),none⟩,false,false,[]⟩,
 ⟨⟨.t 54,.mov (.p 4),some (.t 53,true)⟩,false,false,[]⟩,⟨⟨.t 55,.mov (.p 0),some (.t 53,true)⟩,false,false,[]⟩,⟨⟨.t 56,.mov (.p 13),some (.t 53,true)⟩,false,false,[]⟩,⟨⟨.t 57,.idxAddr 2 (.t 55) (.t 56),some (.t 53,true)⟩,false,false,[]⟩,
 ⟨⟨.t 58,.loadN 2 (.t 57),some (.t 53,true)⟩,false,false,[]⟩,⟨⟨.t 59,.mov (.p 0),some (.t 53,true)⟩,false,false,[]⟩,⟨⟨.t 60,.mov (.p 1),some (.t 53,true)⟩,false,false,[]⟩,⟨⟨.t 61,.idxAddr 2 (.t 59) (.t 60),some (.t 53,true)⟩,false,false,[]⟩,
 ⟨⟨.t 62,.loadN 2 (.t 61),some (.t 53,true)⟩,false,false,[]⟩,⟨⟨.t 63,.callV (.t 54) [.t 58,.t 62],some (.t 53,true)⟩,false,false,[]⟩,⟨⟨.t 64,.bin .lss (.t 63) (.c (.int .i64 0)),some (.t 53,true)⟩,false,false,[]⟩,
 ⟨⟨.t 65,.un .not (.t 64),some (.t 53,true)⟩,false,false,[]⟩,⟨⟨.p 66,.pick (.t 53) (.t 65) (.c (.bool false)),none⟩,false,false,[]⟩]) (.cond (.p 66) (.skip) (.exit 2))) (.block 3 [0,1,4,12,13] (.reg [⟨.t 67,.mov (.p 13),none⟩,
 ⟨.t 68,.bin .sub (.t 67) (.c (.int .i64 1)),none⟩,⟨.p 13,.mov (.t 68),none⟩]))
def lb_slices_partitionCmpFunc_runes_span_2 : CCode :=
 .seq (.seq (.dreg [⟨⟨.t 105,.mov (.p 12),none⟩,false,false,[]⟩,⟨⟨.t 106,.mov (.p 13),none⟩,false,false,[]⟩,⟨⟨.t 107,.bin .leq (.t 105) (.t 106),none⟩,false,false,[]⟩,⟨⟨.t 108,.mov (.t 107),none⟩,false,false,[]⟩,
 ⟨⟨.t 109,.mov (.p 4),some (.t 108,true)⟩,false,false,[]⟩,⟨⟨.t 110,.mov (.p 0),some (.t 108,true)⟩,false,false,[]⟩,⟨⟨.t 111,.mov (.p 12),some (.t 108,true)⟩,false,false,[]⟩,⟨⟨.t 112,.idxAddr 2 (.t 110) (.t 111),some (.t 108,true)⟩,false,false,[]⟩,
 ⟨⟨.t 113,.loadN 2 (.t 112),some (.t 108,true)⟩,false,false,[]⟩,⟨⟨.t 114,.mov (.p 0),some (.t 108,true)⟩,false,false,[]⟩,⟨⟨.t 115,.mov (.p 1),some (.t 108,true)⟩,false,false,[]⟩,⟨⟨.t 116,.idxAddr 2 (.t 114) (.t 115),some (.t 108,true)⟩,false,false,[]⟩,
 ⟨⟨.t 117,.loadN 2 (.t 116),some (.t 108,true)⟩,false,false,[]⟩,⟨⟨.t 118,.callV (.t 109) [.t 113,.t 117],some (.t 108,true)⟩,false,false,[]⟩,⟨⟨.t 119,.bin .lss (.t 118) (.c (.int .i64 0)),some (.t 108,true)⟩,false,false,[]⟩,
 ⟨⟨.p 120,.pick (.t 108) (.t 119) (.c (.bool false)),none⟩,false,false,[]⟩]) (.cond (.p 120) (.skip) (.exit 6))) (.block 7 [0,1,4,12,13] (.reg [⟨.t 121,.mov (.p 12),none⟩,⟨.t 122,.bin .add (.t 121) (.c (.int .i64 1)),none⟩,
 ⟨.p 12,.mov (.t 122),none⟩]))
def lb_slices_partitionCmpFunc_runes_span_3 : CCode :=
 .seq (.seq (.dreg [⟨⟨.t 123,.mov (.p 12),none⟩,false,false,[]⟩,⟨⟨.t 124,.mov (.p 13),none⟩,false,false,[]⟩,⟨⟨.t 125,.bin .leq (.t 123) (.t 124),none⟩,false,false,[]⟩,⟨⟨.t 126,.mov (.t 125),none⟩,false,false,[]⟩,
 ⟨⟨.t 127,.mov (.p 4),some (.t 126,true)⟩,false,false,[]⟩,⟨⟨.t 128,.mov (.p 0),some (.t 126,true)⟩,false,false,[]⟩,⟨⟨.t 129,.mov (.p 13),some (.t 126,true)⟩,false,false,[]⟩,⟨⟨.t 130,.idxAddr 2 (.t 128) (.t 129),some (.t 126,true)⟩,false,false,[]⟩,
 ⟨⟨.t 131,.loadN 2 (.t 130),some (.t 126,true)⟩,false,false,[]⟩,⟨⟨.t 132,.mov (.p 0),some (.t 126,true)⟩,false,false,[]⟩,⟨⟨.t 133,.mov (.p 1),some (.t 126,true)⟩,false,false,[]⟩,⟨⟨.t 134,.idxAddr 2 (.t 132) (.t 133),some (.t 126,true)⟩,false,false,[]⟩,
 ⟨⟨.t 135,.loadN 2 (.t 134),some (.t 126,true)⟩,false,false,[]⟩,⟨⟨.t 136,.callV (.t 127) [.t 131,.t 135],some (.t 126,true)⟩,false,false,[]⟩,⟨⟨.t 137,.bin .lss (.t 136) (.c (.int .i64 0)),some (.t 126,true)⟩,false,false,[]⟩,
 ⟨⟨.t 138,.un .not (.t 137),some (.t 126,true)⟩,false,false,[]⟩,⟨⟨.p 139,.pick (.t 126) (.t 138) (.c (.bool false)),none⟩,false,false,[]⟩]) (.cond (.p 139) (.skip) (.exit 8))) (.block 9 [0,1,4,12,13] (.reg [⟨.t 140,.mov (.p 13),none⟩,
 ⟨.t 141,.bin .sub (.t 140) (.c (.int .i64 1)),none⟩,⟨.p 13,.mov (.t 141),none⟩]))
def lb_slices_partitionCmpFunc_runes_span_4 : CCode :=
 .block 5 [0,1,4,12,13] (.seq (.block 6 [0,1,4,12,13] (.loop [0,1,4,12,13] lb_slices_partitionCmpFunc_runes_span_2)) (.seq (.block 8 [0,1,4,12,13] (.loop [0,1,4,12,13] lb_slices_partitionCmpFunc_runes_span_3)) (.seq (.seq (.reg [⟨.t 142,.mov (.p 12),none⟩,
 ⟨.t 143,.mov (.p 13),none⟩,⟨.p 144,.bin .gtr (.t 142) (.t 143),none⟩]) (.cond (.p 144) (.exit 4) (.skip))) (.seq (.dreg [⟨⟨.t 145,.mov (.p 0),none⟩,false,false,[]⟩,⟨⟨.t 146,.mov (.p 12),none⟩,false,false,[]⟩,
 ⟨⟨.t 147,.mov (.p 0),none⟩,false,false,[]⟩,⟨⟨.t 148,.mov (.p 13),none⟩,false,false,[]⟩,⟨⟨.t 149,.mov (.p 0),none⟩,false,false,[]⟩,⟨⟨.t 150,.mov (.p 13),none⟩,false,false,[]⟩,⟨⟨.t 151,.idxAddr 2 (.t 149) (.t 150),none⟩,false,false,[]⟩,
 ⟨⟨.t 152,.loadN 2 (.t 151),none⟩,false,false,[]⟩,⟨⟨.t 153,.mov (.p 0),none⟩,false,false,[]⟩,⟨⟨.t 154,.mov (.p 12),none⟩,false,false,[]⟩,⟨⟨.t 155,.idxAddr 2 (.t 153) (.t 154),none⟩,false,false,[]⟩,
 ⟨⟨.t 156,.loadN 2 (.t 155),none⟩,false,false,[]⟩,⟨⟨.t 157,.idxAddr 2 (.t 145) (.t 146),none⟩,false,false,[]⟩,⟨⟨.no,.store 2 (.t 157) (.t 152),none⟩,false,false,[]⟩,⟨⟨.t 158,.idxAddr 2 (.t 147) (.t 148),none⟩,false,false,[]⟩,
 ⟨⟨.no,.store 2 (.t 158) (.t 156),none⟩,false,false,[]⟩]) (.seq (.reg [⟨.t 159,.mov (.p 12),none⟩,⟨.t 160,.bin .add (.t 159) (.c (.int .i64 1)),none⟩,⟨.p 12,.mov (.t 160),none⟩]) (.reg [⟨.t 161,.mov (.p 13),none⟩,
 ⟨.t 162,.bin .sub (.t 161) (.c (.int .i64 1)),none⟩,⟨.p 13,.mov (.t 162),none⟩]))))))
def bd_slices_partitionCmpFunc_runes_span : CCode :=
 .seq (.reg [⟨.p 10,.mov (.c (.int .i64 0)),none⟩,⟨.p 11,.mov (.c (.bool false)),none⟩]) (.seq (.dreg [⟨⟨.t 14,.mov (.p 0),none⟩,false,false,[]⟩,⟨⟨.t 15,.mov (.p 1),none⟩,false,false,[]⟩,
 ⟨⟨.t 16,.mov (.p 0),none⟩,false,false,[]⟩,⟨⟨.t 17,.mov (.p 3),none⟩,false,false,[]⟩,⟨⟨.t 18,.mov (.p 0),none⟩,false,false,[]⟩,⟨⟨.t 19,.mov (.p 3),none⟩,false,false,[]⟩,⟨⟨.t 20,.idxAddr 2 (.t 18) (.t 19),none⟩,false,false,[]⟩,
 ⟨⟨.t 21,.loadN 2 (.t 20),none⟩,false,false,[]⟩,⟨⟨.t 22,.mov (.p 0),none⟩,false,false,[]⟩,⟨⟨.t 23,.mov (.p 1),none⟩,false,false,[]⟩,⟨⟨.t 24,.idxAddr 2 (.t 22) (.t 23),none⟩,false,false,[]⟩,
 ⟨⟨.t 25,.loadN 2 (.t 24),none⟩,false,false,[]⟩,⟨⟨.t 26,.idxAddr 2 (.t 14) (.t 15),none⟩,false,false,[]⟩,⟨⟨.no,.store 2 (.t 26) (.t 21),none⟩,false,false,[]⟩,⟨⟨.t 27,.idxAddr 2 (.t 16) (.t 17),none⟩,false,false,[]⟩,
 ⟨⟨.no,.store 2 (.t 27) (.t 25),none⟩,false,false,[]⟩]) (.seq (.reg [⟨.t 28,.mov (.p 1),none⟩,⟨.t 29,.bin .add (.t 28) (.c (.int .i64 1)),none⟩,⟨.t 30,.mov (.p 2),none⟩,⟨.t 31,.bin .sub (.t 30) (.c (.int .i64 1)),none⟩,
 ⟨.p 12,.mov (.t 29),none⟩,⟨.p 13,.mov (.t 31),none⟩]) (.seq (.block 0 [0,1,4,12,13] (.loop [0,1,4,12,13] lb_slices_partitionCmpFunc_runes_span_0)) (.seq (.block 2 [0,1,4,12,13] (.loop [0,1,4,12,13] lb_slices_partitionCmpFunc_runes_span_1)) (.seq (.seq (.reg [⟨.t 69,.mov (.p 12),none⟩,
 ⟨.t 70,.mov (.p 13),none⟩,⟨.p 71,.bin .gtr (.t 69) (.t 70),none⟩]) (.cond (.p 71) (.seq (.dreg [⟨⟨.t 72,.mov (.p 0),none⟩,false,false,[]⟩,⟨⟨.t 73,.mov (.p 13),none⟩,false,false,[]⟩,
 ⟨⟨.t 74,.mov (.p 0),none⟩,false,false,[]⟩,⟨⟨.t 75,.mov (.p 1),none⟩,false,false,[]⟩,⟨⟨.t 76,.mov (.p 0),none⟩,false,false,[]⟩,⟨⟨.t 77,.mov (.p 1),none⟩,false,false,[]⟩,⟨⟨.t 78,.idxAddr 2 (.t 76) (.t 77),none⟩,false,false,[]⟩,
 ⟨⟨.t 79,.loadN 2 (.t 78),none⟩,false,false,[]⟩,⟨⟨.t 80,.mov (.p 0),none⟩,false,false,[]⟩,⟨⟨.t 81,.mov (.p 13),none⟩,false,false,[]⟩,⟨⟨.t 82,.idxAddr 2 (.t 80) (.t 81),none⟩,false,false,[]⟩,
 ⟨⟨.t 83,.loadN 2 (.t 82),none⟩,false,false,[]⟩,⟨⟨.t 84,.idxAddr 2 (.t 72) (.t 73),none⟩,false,false,[]⟩,⟨⟨.no,.store 2 (.t 84) (.t 79),none⟩,false,false,[]⟩,⟨⟨.t 85,.idxAddr 2 (.t 74) (.t 75),none⟩,false,false,[]⟩,
 ⟨⟨.no,.store 2 (.t 85) (.t 83),none⟩,false,false,[]⟩]) (.seq (.reg [⟨.t 86,.mov (.p 13),none⟩,⟨.p 10,.mov (.t 86),none⟩,⟨.p 11,.mov (.c (.bool true)),none⟩]) (.ret))) (.skip))) (.seq (.dreg [⟨⟨.t 87,.mov (.p 0),none⟩,false,false,[]⟩,
 ⟨⟨.t 88,.mov (.p 12),none⟩,false,false,[]⟩,⟨⟨.t 89,.mov (.p 0),none⟩,false,false,[]⟩,⟨⟨.t 90,.mov (.p 13),none⟩,false,false,[]⟩,⟨⟨.t 91,.mov (.p 0),none⟩,false,false,[]⟩,⟨⟨.t 92,.mov (.p 13),none⟩,false,false,[]⟩,
 ⟨⟨.t 93,.idxAddr 2 (.t 91) (.t 92),none⟩,false,false,[]⟩,⟨⟨.t 94,.loadN 2 (.t 93),none⟩,false,false,[]⟩,⟨⟨.t 95,.mov (.p 0),none⟩,false,false,[]⟩,⟨⟨.t 96,.mov (.p 12),none⟩,false,false,[]⟩,
 ⟨⟨.t 97,.idxAddr 2 (.t 95) (.t 96),none⟩,false,false,[]⟩,⟨⟨.t 98,.loadN 2 (.t 97),none⟩,false,false,[]⟩,⟨⟨.t 99,.idxAddr 2 (.t 87) (.t 88),none⟩,false,false,[]⟩,⟨⟨.no,.store 2 (.t 99) (.t 94),none⟩,false,false,[]⟩,
 ⟨⟨.t 100,.idxAddr 2 (.t 89) (.t 90),none⟩,false,false,[]⟩,⟨⟨.no,.store 2 (.t 100) (.t 98),none⟩,false,false,[]⟩]) (.seq (.reg [⟨.t 101,.mov (.p 12),none⟩,⟨.t 102,.bin .add (.t 101) (.c (.int .i64 1)),none⟩,
 ⟨.p 12,.mov (.t 102),none⟩]) (.seq (.reg [⟨.t 103,.mov (.p 13),none⟩,⟨.t 104,.bin .sub (.t 103) (.c (.int .i64 1)),none⟩,⟨.p 13,.mov (.t 104),none⟩]) (.seq (.block 4 [0,1,13] (.loop [0,1,4,12,13] lb_slices_partitionCmpFunc_runes_span_4)) (.seq (.dreg [⟨⟨.t 163,.mov (.p 0),none⟩,false,false,[]⟩,
 ⟨⟨.t 164,.mov (.p 13),none⟩,false,false,[]⟩,⟨⟨.t 165,.mov (.p 0),none⟩,false,false,[]⟩,⟨⟨.t 166,.mov (.p 1),none⟩,false,false,[]⟩,⟨⟨.t 167,.mov (.p 0),none⟩,false,false,[]⟩,⟨⟨.t 168,.mov (.p 1),none⟩,false,false,[]⟩,
 ⟨⟨.t 169,.idxAddr 2 (.t 167) (.t 168),none⟩,false,false,[]⟩,⟨⟨.t 170,.loadN 2 (.t 169),none⟩,false,false,[]⟩,⟨⟨.t 171,.mov (.p 0),none⟩,false,false,[]⟩,⟨⟨.t 172,.mov (.p 13),none⟩,false,false,[]⟩,
 ⟨⟨.t 173,.idxAddr 2 (.t 171) (.t 172),none⟩,false,false,[]⟩,⟨⟨.t 174,.loadN 2 (.t 173),none⟩,false,false,[]⟩,⟨⟨.t 175,.idxAddr 2 (.t 163) (.t 164),none⟩,false,false,[]⟩,⟨⟨.no,.store 2 (.t 175) (.t 170),none⟩,false,false,[]⟩,
 ⟨⟨.t 176,.idxAddr 2 (.t 165) (.t 166),none⟩,false,false,[]⟩,⟨⟨.no,.store 2 (.t 176) (.t 174),none⟩,false,false,[]⟩]) (.seq (.reg [⟨.t 177,.mov (.p 13),none⟩,⟨.p 10,.mov (.t 177),none⟩,
 ⟨.p 11,.mov (.c (.bool false)),none⟩]) (.ret))))))))))))
def cf_slices_partitionCmpFunc_runes_span : CFunc :=
{ nargs := 5,ps := [0,1,2,3,4,10,11,12,13,47,66,71,120,139,144],results := [.slot 10,.slot 11],body := bd_slices_partitionCmpFunc_runes_span }
def bd_bits_Len32 : CCode :=
 .seq (.reg [⟨.p 2,.mov (.c (.int .i64 0)),none⟩]) (.seq (.seq (.reg [⟨.t 3,.mov (.p 0),none⟩,⟨.p 4,.bin .geq (.t 3) (.c (.int .u32 65536)),none⟩]) (.cond (.p 4) (.seq (.reg [⟨.t 5,.mov (.p 0),none⟩,
 ⟨.t 6,.bin .shr (.t 5) (.c (.int .u64 16)),none⟩,⟨.p 0,.mov (.t 6),none⟩]) (.reg [⟨.p 2,.mov (.c (.int .i64 16)),none⟩])) (.skip))) (.seq (.seq (.reg [⟨.t 7,.mov (.p 0),none⟩,⟨.p 8,.bin .geq (.t 7) (.c (.int .u32 256)),none⟩]) (.cond (.p 8) (.seq (.reg [⟨.t 9,.mov (.p 0),none⟩,
 ⟨.t 10,.bin .shr (.t 9) (.c (.int .u64 8)),none⟩,⟨.p 0,.mov (.t 10),none⟩]) (.reg [⟨.t 11,.mov (.p 2),none⟩,⟨.t 12,.bin .add (.t 11) (.c (.int .i64 8)),none⟩,⟨.p 2,.mov (.t 12),none⟩])) (.skip))) (.seq (.reg [⟨.t 13,.mov (.p 2),none⟩,
 ⟨.t 14,.mov (.p 0),none⟩,⟨.t 15,.convI .u8 (.t 14),none⟩,⟨.t 16,.idxStr (.c (.str [0,1,2,2,3,3,3,3,4,4,4,4,4,4,4,4,5,5,5,5,5,5,5,5,5,5,5,5,5,5,5,5,6,6,6,6,6,6,6,6,6,6,6,6,6,6,6,6,6,6,6,6,6,6,6,6,6,6,6,6,6,6,6,6,7,7,7,7,7,7,7,7,7,7,7,7,7,7,7,7,7,7,7,7,7,7,7,7,7,7,7,7,7,7,7,7,7,7,7,7,7,7,7,7,7,7,7,7,7,7,7,7,7,7,7,7,7,7,7,7,7,7,7,7,7,7,7,7,8,8,8,8,8,8,8,8,8,8,8,8,8,8,8,8,8,8,8,8,8,8,8,8,8,8,8,8,8,8,8,8,8,8,8,8,8,8,8,8,8,8,8,8,8,8,8,8,8,8,8,8,8,8,8,8,8,8,8,8,8,8,8,8,8,8,8,8,8,8,8,8,8,8,8,8,8,8,8,8,8,8,8,8,8,8,8,8,8,8,8,8,8,8,8,8,8,8,8,8,8,8,8,8,8,8,8,8,8,8,8,8,8,8,8,8,8,8,8,8,8,8,8,8,8,8,8,8])) (.t 15),none⟩,⟨.t 17,.convI .i64 (.t 16),none⟩,⟨.t 18,.bin .add (.t 13) (.t 17),none⟩,⟨.p 2,.mov (.t 18),none⟩]) (.ret))))
def cf_bits_Len32 : CFunc :=
{ nargs := 1,ps := [0,2,4,8],results := [.slot 2],body := bd_bits_Len32 }
def bd_bits_Len64 : CCode :=
 .seq (.reg [⟨.p 2,.mov (.c (.int .i64 0)),none⟩]) (.seq (.seq (.reg [⟨.t 3,.mov (.p 0),none⟩,⟨.p 4,.bin .geq (.t 3) (.c (.int .u64 4294967296)),none⟩]) (.cond (.p 4) (.seq (.reg [⟨.t 5,.mov (.p 0),none⟩,
 ⟨.t 6,.bin .shr (.t 5) (.c (.int .u64 32)),none⟩,⟨.p 0,.mov (.t 6),none⟩]) (.reg [⟨.p 2,.mov (.c (.int .i64 32)),none⟩])) (.skip))) (.seq (.seq (.reg [⟨.t 7,.mov (.p 0),none⟩,⟨.p 8,.bin .geq (.t 7) (.c (.int .u64 65536)),none⟩]) (.cond (.p 8) (.seq (.reg [⟨.t 9,.mov (.p 0),none⟩,
 ⟨.t 10,.bin .shr (.t 9) (.c (.int .u64 16)),none⟩,⟨.p 0,.mov (.t 10),none⟩]) (.reg [⟨.t 11,.mov (.p 2),none⟩,⟨.t 12,.bin .add (.t 11) (.c (.int .i64 16)),none⟩,⟨.p 2,.mov (.t 12),none⟩])) (.skip))) (.seq (.seq (.reg [⟨.t 13,.mov (.p 0),none⟩,
 ⟨.p 14,.bin .geq (.t 13) (.c (.int .u64 256)),none⟩]) (.cond (.p 14) (.seq (.reg [⟨.t 15,.mov (.p 0),none⟩,⟨.t 16,.bin .shr (.t 15) (.c (.int .u64 8)),none⟩,⟨.p 0,.mov (.t 16),none⟩]) (.reg [⟨.t 17,.mov (.p 2),none⟩,
 ⟨.t 18,.bin .add (.t 17) (.c (.int .i64 8)),none⟩,⟨.p 2,.mov (.t 18),none⟩])) (.skip))) (.seq (.reg [⟨.t 19,.mov (.p 2),none⟩,⟨.t 20,.mov (.p 0),none⟩,⟨.t 21,.convI .u8 (.t 20),none⟩,
 ⟨.t 22,.idxStr (.c (.str [0,1,2,2,3,3,3,3,4,4,4,4,4,4,4,4,5,5,5,5,5,5,5,5,5,5,5,5,5,5,5,5,6,6,6,6,6,6,6,6,6,6,6,6,6,6,6,6,6,6,6,6,6,6,6,6,6,6,6,6,6,6,6,6,7,7,7,7,7,7,7,7,7,7,7,7,7,7,7,7,7,7,7,7,7,7,7,7,7,7,7,7,7,7,7,7,7,7,7,7,7,7,7,7,7,7,7,7,7,7,7,7,7,7,7,7,7,7,7,7,7,7,7,7,7,7,7,7,8,8,8,8,8,8,8,8,8,8,8,8,8,8,8,8,8,8,8,8,8,8,8,8,8,8,8,8,8,8,8,8,8,8,8,8,8,8,8,8,8,8,8,8,8,8,8,8,8,8,8,8,8,8,8,8,8,8,8,8,8,8,8,8,8,8,8,8,8,8,8,8,8,8,8,8,8,8,8,8,8,8,8,8,8,8,8,8,8,8,8,8,8,8,8,8,8,8,8,8,8,8,8,8,8,8,8,8,8,8,8,8,8,8,8,8,8,8,8,8,8,8,8,8,8,8,8,8])) (.t 21),none⟩,
 ⟨.t 23,.convI .i64 (.t 22),none⟩,⟨.t 24,.bin .add (.t 19) (.t 23),none⟩,⟨.p 2,.mov (.t 24),none⟩]) (.ret)))))
def cf_bits_Len64 : CFunc :=
{ nargs := 1,ps := [0,2,4,8,14],results := [.slot 2],body := bd_bits_Len64 }
def lb_slices_siftDownCmpFunc_runes_span_0 : CCode :=
 .block 1 [0,2,3,4,10] (.seq (.reg [⟨.t 13,.mov (.p 10),none⟩,⟨.t 14,.bin .mul (.c (.int .i64 2)) (.t 13),none⟩,⟨.t 15,.bin .add (.t 14) (.c (.int .i64 1)),none⟩,⟨.p 11,.mov (.t 15),none⟩]) (.seq (.seq (.reg [⟨.t 16,.mov (.p 11),none⟩,
 ⟨.t 17,.mov (.p 2),none⟩,⟨.p 18,.bin .geq (.t 16) (.t 17),none⟩]) (.cond (.p 18) (.exit 0) (.skip))) (.seq (.seq (.dreg [⟨⟨.t 19,.mov (.p 11),none⟩,false,false,[]⟩,⟨⟨.t 20,.bin .add (.t 19) (.c (.int .i64 1)),none⟩,false,false,[]⟩,
 ⟨⟨.t 21,.mov (.p 2),none⟩,false,false,[]⟩,⟨⟨.t 22,.bin .lss (.t 20) (.t 21),none⟩,false,false,[]⟩,⟨⟨.t 23,.mov (.t 22),none⟩,false,false,[]⟩,⟨⟨.t 24,.mov (.p 4),some (.t 23,true)⟩,false,false,[]⟩,
 ⟨⟨.t 25,.mov (.p 0),some (.t 23,true)⟩,false,false,[]⟩,⟨⟨.t 26,.mov (.p 3),some (.t 23,true)⟩,false,false,[]⟩,⟨⟨.t 27,.mov (.p 11),some (.t 23,true)⟩,false,false,[]⟩,⟨⟨.t 28,.bin .add (.t 26) (.t 27),some (.t 23,true)⟩,false,false,[]⟩,
 ⟨⟨.t 29,.idxAddr 2 (.t 25) (.t 28),some (.t 23,true)⟩,false,false,[]⟩,⟨⟨.t 30,.loadN 2 (.t 29),some (.t 23,true)⟩,false,false,[]⟩,⟨⟨.t 31,.mov (.p 0),some (.t 23,true)⟩,false,false,[]⟩,
 ⟨⟨.t 32,.mov (.p 3),some (.t 23,true)⟩,false,false,[]⟩,⟨⟨.t 33,.mov (.p 11),some (.t 23,true)⟩,false,false,[]⟩,⟨⟨.t 34,.bin .add (.t 32) (.t 33),some (.t 23,true)⟩,false,false,[]⟩,
 ⟨⟨.t 35,.bin .add (.t 34) (.c (.int .i64 1)),some (.t 23,true)⟩,false,false,[]⟩,⟨⟨.t 36,.idxAddr 2 (.t 31) (.t 35),some (.t 23,true)⟩,false,false,[]⟩,⟨⟨.t 37,.loadN 2 (.t 36),some (.t 23,true)⟩,false,false,[]⟩,
 ⟨⟨.t 38,.callV (.t 24) [.t 30,.t 37],some (.t 23,true)⟩,false,false,[]⟩,⟨⟨.t 39,.bin .lss (.t 38) (.c (.int .i64 0)),some (.t 23,true)⟩,false,false,[]⟩,⟨⟨.p 40,.pick (.t 23) (.t 39) (.c (.bool false)),none⟩,false,false,[]⟩]) (.cond (.p 40) (.reg [⟨.t 41,.mov (.p 11),none⟩,
 ⟨.t 42,.bin .add (.t 41) (.c (.int .i64 1)),none⟩,⟨.p 11,.mov (.t 42),none⟩]) (.skip))) (.seq (.seq (.dreg [⟨⟨.t 43,.mov (.p 4),none⟩,false,false,[]⟩,⟨⟨.t 44,.mov (.p 0),none⟩,false,false,[]⟩,
 ⟨⟨.t 45,.mov (.p 3),none⟩,false,false,[]⟩,⟨⟨.t 46,.mov (.p 10),none⟩,false,false,[]⟩,⟨⟨.t 47,.bin .add (.t 45) (.t 46),none⟩,false,false,[]⟩,⟨⟨.t 48,.idxAddr 2 (.t 44) (.t 47),none⟩,false,false,[]⟩,
 ⟨⟨.t 49,.loadN 2 (.t 48),none⟩,false,false,[]⟩,⟨⟨.t 50,.mov (.p 0),none⟩,false,false,[]⟩,⟨⟨.t 51,.mov (.p 3),none⟩,false,false,[]⟩,⟨⟨.t 52,.mov (.p 11),none⟩,false,false,[]⟩,⟨⟨.t 53,.bin .add (.t 51) (.t 52),none⟩,false,false,[]⟩,
 ⟨⟨.t 54,.idxAddr 2 (.t 50) (.t 53),none⟩,false,false,[]⟩,⟨⟨.t 55,.loadN 2 (.t 54),none⟩,false,false,[]⟩,⟨⟨.t 56,.callV (.t 43) [.t 49,.t 55],none⟩,false,false,[]⟩,⟨⟨.t 57,.bin .lss (.t 56) (.c (.int .i64 0)),none⟩,false,false,[]⟩,
 ⟨⟨.p 58,.un .not (.t 57),none⟩,false,false,[]⟩]) (.cond (.p 58) (.ret) (.skip))) (.seq (.dreg [⟨⟨.t 59,.mov (.p 0),none⟩,false,false,[]⟩,⟨⟨.t 60,.mov (.p 3),none⟩,false,false,[]⟩,⟨⟨.t 61,.mov (.p 10),none⟩,false,false,[]⟩,
 ⟨⟨.t 62,.bin .add (.t 60) (.t 61),none⟩,false,false,[]⟩,⟨⟨.t 63,.mov (.p 0),none⟩,false,false,[]⟩,⟨⟨.t 64,.mov (.p 3),none⟩,false,false,[]⟩,⟨⟨.t 65,.mov (.p 11),none⟩,false,false,[]⟩,
 ⟨⟨.t 66,.bin .add (.t 64) (.t 65),none⟩,false,false,[]⟩,⟨⟨.t 67,.mov (.p 0),none⟩,false,false,[]⟩,⟨⟨.t 68,.mov (.p 3),none⟩,false,false,[]⟩,⟨⟨.t 69,.mov (.p 11),none⟩,false,false,[]⟩,
 ⟨⟨.t 70,.bin .add (.t 68) (.t 69),none⟩,false,false,[]⟩,⟨⟨.t 71,.idxAddr 2 (.t 67) (.t 70),none⟩,false,false,[]⟩,⟨⟨.t 72,.loadN 2 (.t 71),none⟩,false,false,[]⟩,⟨⟨.t 73,.mov (.p 0),none⟩,false,false,[]⟩,
 ⟨⟨.t 74,.mov (.p 3),none⟩,false,false,[]⟩,⟨⟨.t 75,.mov (.p 10),none⟩,false,false,[]⟩,⟨⟨.t 76,.bin .add (.t 74) (.t 75),none⟩,false,false,[]⟩,⟨⟨.t 77,.idxAddr 2 (.t 73) (.t 76),none⟩,false,false,[]⟩,
 ⟨⟨.t 78,.loadN 2 (.t 77),none⟩,false,false,[]⟩,⟨⟨.t 79,.idxAddr 2 (.t 59) (.t 62),none⟩,false,false,[]⟩,⟨⟨.no,.store 2 (.t 79) (.t 72),none⟩,false,false,[]⟩,⟨⟨.t 80,.idxAddr 2 (.t 63) (.t 66),none⟩,false,false,[]⟩,
 ⟨⟨.no,.store 2 (.t 80) (.t 78),none⟩,false,false,[]⟩]) (.reg [⟨.t 81,.mov (.p 11),none⟩,⟨.p 10,.mov (.t 81),none⟩]))))))
def bd_slices_siftDownCmpFunc_runes_span : CCode :=
 .seq (.reg [⟨.t 12,.mov (.p 1),none⟩,⟨.p 10,.mov (.t 12),none⟩]) (.block 0 [] (.loop [0,2,3,4,10] lb_slices_siftDownCmpFunc_runes_span_0))
def cf_slices_siftDownCmpFunc_runes_span : CFunc :=
{ nargs := 5,ps := [0,1,2,3,4,10,11,18,40,58],results := [],body := bd_slices_siftDownCmpFunc_runes_span }
def bd_slices_nextPowerOfTwo : CCode :=
 .seq (.reg [⟨.p 2,.mov (.c (.int .u64 0)),none⟩]) (.seq (.reg [⟨.t 3,.mov (.p 0),none⟩,⟨.t 4,.convI .u64 (.t 3),none⟩,⟨.t 5,.call F_bits_Len [.t 4],none⟩,⟨.t 6,.bin .shl (.c (.int .u64 1)) (.t 5),none⟩,
 ⟨.p 2,.mov (.t 6),none⟩]) (.ret))
def cf_slices_nextPowerOfTwo : CFunc :=
{ nargs := 1,ps := [0,2],results := [.slot 2],body := bd_slices_nextPowerOfTwo }
def bd_slices_xorshift_Next : CCode :=
 .seq (.reg [⟨.p 2,.mov (.c (.int .u64 0)),none⟩]) (.seq (.dreg [⟨⟨.t 3,.mov (.p 0),none⟩,false,false,[]⟩,⟨⟨.t 4,.nilCheck (.t 3),none⟩,false,false,[]⟩,⟨⟨.t 5,.load1 (.t 4),none⟩,false,false,[]⟩,
 ⟨⟨.t 6,.mov (.p 0),none⟩,false,false,[]⟩,⟨⟨.t 7,.nilCheck (.t 6),none⟩,false,false,[]⟩,⟨⟨.t 8,.load1 (.t 7),none⟩,false,false,[]⟩,⟨⟨.t 9,.bin .shl (.t 8) (.c (.int .u64 13)),none⟩,false,false,[]⟩,
 ⟨⟨.t 10,.bin .xor (.t 5) (.t 9),none⟩,false,false,[]⟩,⟨⟨.t 11,.nilCheck (.t 3),none⟩,false,false,[]⟩,⟨⟨.no,.store 1 (.t 11) (.t 10),none⟩,false,false,[]⟩]) (.seq (.dreg [⟨⟨.t 12,.mov (.p 0),none⟩,false,false,[]⟩,
 ⟨⟨.t 13,.nilCheck (.t 12),none⟩,false,false,[]⟩,⟨⟨.t 14,.load1 (.t 13),none⟩,false,false,[]⟩,⟨⟨.t 15,.mov (.p 0),none⟩,false,false,[]⟩,⟨⟨.t 16,.nilCheck (.t 15),none⟩,false,false,[]⟩,
 ⟨⟨.t 17,.load1 (.t 16),none⟩,false,false,[]⟩,⟨⟨.t 18,.bin .shr (.t 17) (.c (.int .u64 7)),none⟩,false,false,[]⟩,⟨⟨.t 19,.bin .xor (.t 14) (.t 18),none⟩,false,false,[]⟩,⟨⟨.t 20,.nilCheck (.t 12),none⟩,false,false,[]⟩,
 ⟨⟨.no,.store 1 (.t 20) (.t 19),none⟩,false,false,[]⟩]) (.seq (.dreg [⟨⟨.t 21,.mov (.p 0),none⟩,false,false,[]⟩,⟨⟨.t 22,.nilCheck (.t 21),none⟩,false,false,[]⟩,⟨⟨.t 23,.load1 (.t 22),none⟩,false,false,[]⟩,
 ⟨⟨.t 24,.mov (.p 0),none⟩,false,false,[]⟩,⟨⟨.t 25,.nilCheck (.t 24),none⟩,false,false,[]⟩,⟨⟨.t 26,.load1 (.t 25),none⟩,false,false,[]⟩,⟨⟨.t 27,.bin .shl (.t 26) (.c (.int .u64 17)),none⟩,false,false,[]⟩,
 ⟨⟨.t 28,.bin .xor (.t 23) (.t 27),none⟩,false,false,[]⟩,⟨⟨.t 29,.nilCheck (.t 21),none⟩,false,false,[]⟩,⟨⟨.no,.store 1 (.t 29) (.t 28),none⟩,false,false,[]⟩]) (.seq (.reg [⟨.t 30,.mov (.p 0),none⟩,
 ⟨.t 31,.nilCheck (.t 30),none⟩,⟨.t 32,.load1 (.t 31),none⟩,⟨.p 2,.mov (.t 32),none⟩]) (.ret)))))
def cf_slices_xorshift_Next : CFunc :=
{ nargs := 1,ps := [0,2],results := [.slot 2],body := bd_slices_xorshift_Next }
def bd_slices_medianAdjacentCmpFunc_runes_span : CCode :=
 .seq (.reg [⟨.p 8,.mov (.c (.int .i64 0)),none⟩]) (.seq (.reg [⟨.t 9,.mov (.p 0),none⟩,⟨.t 10,.mov (.p 1),none⟩,⟨.t 11,.bin .sub (.t 10) (.c (.int .i64 1)),none⟩,⟨.t 12,.mov (.p 1),none⟩,
 ⟨.t 13,.mov (.p 1),none⟩,⟨.t 14,.bin .add (.t 13) (.c (.int .i64 1)),none⟩,⟨.t 15,.mov (.p 2),none⟩,⟨.t 16,.mov (.p 3),none⟩,⟨.t 17,.call F_slices_medianCmpFunc_runes_span [.t 9,.t 11,.t 12,.t 14,.t 15,.t 16],none⟩,
 ⟨.p 8,.mov (.t 17),none⟩]) (.ret))
def cf_slices_medianAdjacentCmpFunc_runes_span : CFunc :=
{ nargs := 4,ps := [0,1,2,3,8],results := [.slot 8],body := bd_slices_medianAdjacentCmpFunc_runes_span }
def bd_slices_medianCmpFunc_runes_span : CCode :=
 .seq (.reg [⟨.p 12,.mov (.c (.int .i64 0)),none⟩]) (.seq (.reg [⟨.t 14,.mov (.p 0),none⟩,⟨.t 15,.mov (.p 1),none⟩,⟨.t 16,.mov (.p 2),none⟩,⟨.t 17,.mov (.p 4),none⟩,⟨.t 18,.mov (.p 5),none⟩,
 ⟨.t 19,.call F_slices_order2CmpFunc_runes_span [.t 14,.t 15,.t 16,.t 17,.t 18],none⟩,⟨.t 13,.mov (.t 19),none⟩,⟨.t 20,.extract (.t 13) 0,none⟩,⟨.t 21,.extract (.t 13) 1,none⟩,⟨.p 1,.mov (.t 20),none⟩,
 ⟨.p 2,.mov (.t 21),none⟩]) (.seq (.reg [⟨.t 23,.mov (.p 0),none⟩,⟨.t 24,.mov (.p 2),none⟩,⟨.t 25,.mov (.p 3),none⟩,⟨.t 26,.mov (.p 4),none⟩,⟨.t 27,.mov (.p 5),none⟩,⟨.t 28,.call F_slices_order2CmpFunc_runes_span [.t 23,.t 24,.t 25,.t 26,.t 27],none⟩,
 ⟨.t 22,.mov (.t 28),none⟩,⟨.t 29,.extract (.t 22) 0,none⟩,⟨.t 30,.extract (.t 22) 1,none⟩,⟨.p 2,.mov (.t 29),none⟩,⟨.p 3,.mov (.t 30),none⟩]) (.seq (.reg [⟨.t 32,.mov (.p 0),none⟩,
 ⟨.t 33,.mov (.p 1),none⟩,⟨.t 34,.mov (.p 2),none⟩,⟨.t 35,.mov (.p 4),none⟩,⟨.t 36,.mov (.p 5),none⟩,⟨.t 37,.call F_slices_order2CmpFunc_runes_span [.t 32,.t 33,.t 34,.t 35,.t 36],none⟩,
 ⟨.t 31,.mov (.t 37),none⟩,⟨.t 38,.extract (.t 31) 0,none⟩,⟨.t 39,.extract (.t 31) 1,none⟩,⟨.p 1,.mov (.t 38),none⟩,⟨.p 2,.mov (.t 39),none⟩]) (.seq (.reg [⟨.t 40,.mov (.p 2),none⟩,⟨.p 12,.mov (.t 40),none⟩]) (.ret)))))
def cf_slices_medianCmpFunc_runes_span : CFunc :=
{ nargs := 6,ps := [0,1,2,3,4,5,12],results := [.slot 12],body := bd_slices_medianCmpFunc_runes_span }
def bd_slices_order2CmpFunc_runes_span : CCode :=
 .seq (.reg [⟨.p 10,.mov (.c (.int .i64 0)),none⟩,⟨.p 11,.mov (.c (.int .i64 0)),none⟩]) (.seq (.seq (.dreg [⟨⟨.t 12,.mov (.p 4),none⟩,false,false,[]⟩,⟨⟨.t 13,.mov (.p 0),none⟩,false,false,[]⟩,
 ⟨⟨.t 14,.mov (.p 2),none⟩,false,false,[]⟩,⟨⟨.t 15,.idxAddr 2 (.t 13) (.t 14),none⟩,false,false,[]⟩,⟨⟨.t 16,.loadN 2 (.t 15),none⟩,false,false,[]⟩,⟨⟨.t 17,.mov (.p 0),none⟩,false,false,[]⟩,
 ⟨⟨.t 18,.mov (.p 1),none⟩,false,false,[]⟩,⟨⟨.t 19,.idxAddr 2 (.t 17) (.t 18),none⟩,false,false,[]⟩,⟨⟨.t 20,.loadN 2 (.t 19),none⟩,false,false,[]⟩,⟨⟨.t 21,.callV (.t 12) [.t 16,.t 20],none⟩,false,false,[]⟩,
 ⟨⟨.p 22,.bin .lss (.t 21) (.c (.int .i64 0)),none⟩,false,false,[]⟩]) (.cond (.p 22) (.seq (.reg [⟨.t 23,.mov (.p 3),none⟩,⟨.t 24,.nilCheck (.t 23),none⟩,⟨.t 25,.load1 (.t 24),none⟩,
 ⟨.t 26,.bin .add (.t 25) (.c (.int .i64 1)),none⟩,⟨.t 27,.nilCheck (.t 23),none⟩,⟨.no,.store 1 (.t 27) (.t 26),none⟩]) (.seq (.reg [⟨.t 28,.mov (.p 2),none⟩,⟨.t 29,.mov (.p 1),none⟩,
 ⟨.p 10,.mov (.t 28),none⟩,⟨.p 11,.mov (.t 29),none⟩]) (.ret))) (.skip))) (.seq (.reg [⟨.t 30,.mov (.p 1),none⟩,⟨.t 31,.mov (.p 2),none⟩,⟨.p 10,.mov (.t 30),none⟩,⟨.p 11,.mov (.t 31),none⟩]) (.ret)))
def cf_slices_order2CmpFunc_runes_span : CFunc :=
{ nargs := 5,ps := [0,1,2,3,4,10,11,22],results := [.slot 10,.slot 11],body := bd_slices_order2CmpFunc_runes_span }
end Go.Ev
