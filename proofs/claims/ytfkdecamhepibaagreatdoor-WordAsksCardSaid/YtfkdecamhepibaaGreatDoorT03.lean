/- Functions of the program, printed by gen.py. -/
import Derived.Test.YtfkdecamhepibaaGreatDoorT02
set_option linter.unusedSimpArgs false
set_option linter.unusedVariables false
namespace Go.Ev
open Go
def bd_gobolaw12_WordAsks : CCode :=
 .seq (.reg [⟨.p 4,.mov (.c (.bool false)),none⟩]) (.seq (.seq (.reg [⟨.t 17,.mov (.p 0),none⟩,⟨.t 18,.lenStr (.t 17),none⟩,⟨.t 19,.bin .gtr (.t 18) (.c (.int .i64 400)),none⟩,⟨.t 20,.mov (.t 19),none⟩,
 ⟨.t 21,.mov (.p 1),some (.t 20,false)⟩,⟨.t 22,.lenStr (.t 21),some (.t 20,false)⟩,⟨.t 23,.bin .gtr (.t 22) (.c (.int .i64 200)),some (.t 20,false)⟩,⟨.p 24,.pick (.t 20) (.c (.bool true)) (.t 23),none⟩]) (.cond (.p 24) (.seq (.reg [⟨.t 25,.call F_gobolaw12_told [],none⟩,
 ⟨.p 4,.mov (.t 25),none⟩]) (.ret)) (.skip))) (.seq (.reg [⟨.t 27,.mov (.p 0),none⟩,⟨.t 28,.call F_word_All [.t 27],none⟩,⟨.t 26,.mov (.t 28),none⟩,⟨.t 29,.extract (.t 26) 0,none⟩,⟨.t 30,.extract (.t 26) 1,none⟩,
 ⟨.t 31,.extract (.t 26) 2,none⟩,⟨.p 5,.mov (.t 29),none⟩,⟨.p 6,.mov (.t 30),none⟩,⟨.p 7,.mov (.t 31),none⟩]) (.seq (.reg [⟨.t 33,.mov (.p 0),none⟩,⟨.t 34,.call F_goboref11_Words [.t 33],none⟩,
 ⟨.t 32,.mov (.t 34),none⟩,⟨.t 35,.extract (.t 32) 0,none⟩,⟨.t 36,.extract (.t 32) 1,none⟩,⟨.t 37,.extract (.t 32) 2,none⟩,⟨.p 8,.mov (.t 35),none⟩,⟨.p 9,.mov (.t 36),none⟩,⟨.p 10,.mov (.t 37),none⟩]) (.seq (.reg [⟨.t 39,.mov (.p 1),none⟩,
 ⟨.t 40,.call F_word_Class [.t 39],none⟩,⟨.t 38,.mov (.t 40),none⟩,⟨.t 41,.extract (.t 38) 0,none⟩,⟨.t 42,.extract (.t 38) 1,none⟩,⟨.t 43,.extract (.t 38) 2,none⟩,⟨.p 11,.mov (.t 41),none⟩,
 ⟨.p 12,.mov (.t 42),none⟩,⟨.p 13,.mov (.t 43),none⟩]) (.seq (.reg [⟨.t 45,.mov (.p 1),none⟩,⟨.t 46,.call F_goboref11_Class [.t 45],none⟩,⟨.t 44,.mov (.t 46),none⟩,⟨.t 47,.extract (.t 44) 0,none⟩,
 ⟨.t 48,.extract (.t 44) 1,none⟩,⟨.t 49,.extract (.t 44) 2,none⟩,⟨.p 14,.mov (.t 47),none⟩,⟨.p 15,.mov (.t 48),none⟩,⟨.p 16,.mov (.t 49),none⟩]) (.seq (.reg [⟨.t 50,.call F_gobolaw12_told [],none⟩,
 ⟨.t 51,.mov (.t 50),none⟩,⟨.t 52,.mov (.p 6),some (.t 51,true)⟩,⟨.t 53,.mov (.p 9),some (.t 51,true)⟩,⟨.t 54,.bin .eql (.t 52) (.t 53),some (.t 51,true)⟩,⟨.t 55,.pick (.t 51) (.t 54) (.c (.bool false)),none⟩,
 ⟨.t 56,.mov (.t 55),none⟩,⟨.t 57,.mov (.p 7),some (.t 56,true)⟩,⟨.t 58,.mov (.p 10),some (.t 56,true)⟩,⟨.t 59,.bin .eql (.t 57) (.t 58),some (.t 56,true)⟩,⟨.t 60,.pick (.t 56) (.t 59) (.c (.bool false)),none⟩,
 ⟨.t 61,.mov (.t 60),none⟩,⟨.t 62,.mov (.p 5),some (.t 61,true)⟩,⟨.t 63,.mov (.p 8),some (.t 61,true)⟩,⟨.t 64,.call F_gobolaw12_words [.t 62,.t 63],some (.t 61,true)⟩,⟨.t 65,.pick (.t 61) (.t 64) (.c (.bool false)),none⟩,
 ⟨.t 66,.mov (.t 65),none⟩,⟨.t 67,.mov (.p 12),some (.t 66,true)⟩,⟨.t 68,.mov (.p 15),some (.t 66,true)⟩,⟨.t 69,.bin .eql (.t 67) (.t 68),some (.t 66,true)⟩,⟨.t 70,.pick (.t 66) (.t 69) (.c (.bool false)),none⟩,
 ⟨.t 71,.mov (.t 70),none⟩,⟨.t 72,.mov (.p 13),some (.t 71,true)⟩,⟨.t 73,.mov (.p 16),some (.t 71,true)⟩,⟨.t 74,.bin .eql (.t 72) (.t 73),some (.t 71,true)⟩,⟨.t 75,.pick (.t 71) (.t 74) (.c (.bool false)),none⟩,
 ⟨.t 76,.mov (.t 75),none⟩,⟨.t 77,.mov (.p 11),some (.t 76,true)⟩,⟨.t 78,.mov (.p 14),some (.t 76,true)⟩,⟨.t 79,.call F_goboref3_Same [.t 77,.t 78],some (.t 76,true)⟩,⟨.t 80,.pick (.t 76) (.t 79) (.c (.bool false)),none⟩,
 ⟨.p 4,.mov (.t 80),none⟩]) (.ret)))))))
def cf_gobolaw12_WordAsks : CFunc :=
{ nargs := 2,ps := [0,1,4,5,6,7,8,9,10,11,12,13,14,15,16,24],results := [.slot 4],body := bd_gobolaw12_WordAsks }
def bd_gobolaw12_told : CCode :=
 .seq (.reg [⟨.p 0,.mov (.c (.bool false)),none⟩]) (.seq (.reg [⟨.t 17,.call F_word_All [.c (.str [116,111,107,32,97,32,47,120,92,47,121,47,32,35,32,110,111,10])],none⟩,⟨.t 16,.mov (.t 17),none⟩,
 ⟨.t 18,.extract (.t 16) 0,none⟩,⟨.t 19,.extract (.t 16) 1,none⟩,⟨.t 20,.extract (.t 16) 2,none⟩,⟨.p 1,.mov (.t 18),none⟩,⟨.p 2,.mov (.t 19),none⟩,⟨.t 3,.mov (.t 20),none⟩]) (.seq (.reg [⟨.t 22,.call F_word_All [.c (.str [97,32,63])],none⟩,
 ⟨.t 21,.mov (.t 22),none⟩,⟨.t 23,.extract (.t 21) 0,none⟩,⟨.t 24,.extract (.t 21) 1,none⟩,⟨.t 25,.extract (.t 21) 2,none⟩,⟨.t 4,.mov (.t 23),none⟩,⟨.p 5,.mov (.t 24),none⟩,⟨.p 6,.mov (.t 25),none⟩]) (.seq (.reg [⟨.t 27,.call F_word_All [.c (.str [97,32,47,120])],none⟩,
 ⟨.t 26,.mov (.t 27),none⟩,⟨.t 28,.extract (.t 26) 0,none⟩,⟨.t 29,.extract (.t 26) 1,none⟩,⟨.t 30,.extract (.t 26) 2,none⟩,⟨.t 7,.mov (.t 28),none⟩,⟨.p 8,.mov (.t 29),none⟩,⟨.p 9,.mov (.t 30),none⟩]) (.seq (.reg [⟨.t 32,.call F_word_Class [.c (.str [97,45,99])],none⟩,
 ⟨.t 31,.mov (.t 32),none⟩,⟨.t 33,.extract (.t 31) 0,none⟩,⟨.t 34,.extract (.t 31) 1,none⟩,⟨.t 35,.extract (.t 31) 2,none⟩,⟨.p 10,.mov (.t 33),none⟩,⟨.p 11,.mov (.t 34),none⟩,⟨.t 12,.mov (.t 35),none⟩]) (.seq (.reg [⟨.t 37,.call F_word_Class [.c (.str [99,45,97])],none⟩,
 ⟨.t 36,.mov (.t 37),none⟩,⟨.t 38,.extract (.t 36) 0,none⟩,⟨.t 39,.extract (.t 36) 1,none⟩,⟨.t 40,.extract (.t 36) 2,none⟩,⟨.t 13,.mov (.t 38),none⟩,⟨.p 14,.mov (.t 39),none⟩,⟨.p 15,.mov (.t 40),none⟩]) (.seq (.reg [⟨.t 41,.mov (.p 2),none⟩,
 ⟨.t 42,.bin .eql (.t 41) (.c (.int .i64 0)),none⟩,⟨.t 43,.mov (.t 42),none⟩,⟨.t 44,.mov (.p 1),some (.t 43,true)⟩,⟨.t 45,.lenSl (.t 44),some (.t 43,true)⟩,⟨.t 46,.bin .eql (.t 45) (.c (.int .i64 4)),some (.t 43,true)⟩,
 ⟨.t 47,.pick (.t 43) (.t 46) (.c (.bool false)),none⟩,⟨.t 48,.mov (.t 47),none⟩,⟨.t 49,.mov (.p 1),some (.t 48,true)⟩,⟨.t 50,.idxAddr 3 (.t 49) (.c (.int .i64 0)),some (.t 48,true)⟩,
 ⟨.t 51,.loadN 3 (.t 50),some (.t 48,true)⟩,⟨.t 52,.build [.int .i64 0,.str [],.int .i64 0] [(0,1,.c (.int .i64 1)),(1,1,.c (.str [116,111,107]))],some (.t 48,true)⟩,⟨.t 53,.eqv false (.agg [(0,.i),(1,.s),(2,.i)]) (.t 51) (.t 52),some (.t 48,true)⟩,
 ⟨.t 54,.pick (.t 48) (.t 53) (.c (.bool false)),none⟩,⟨.t 55,.mov (.t 54),none⟩,⟨.t 56,.mov (.p 1),some (.t 55,true)⟩,⟨.t 57,.idxAddr 3 (.t 56) (.c (.int .i64 2)),some (.t 55,true)⟩,
 ⟨.t 58,.loadN 3 (.t 57),some (.t 55,true)⟩,⟨.t 59,.build [.int .i64 0,.str [],.int .i64 0] [(0,1,.c (.int .i64 4)),(1,1,.c (.str [120,92,47,121])),(2,1,.c (.int .i64 6))],some (.t 55,true)⟩,
 ⟨.t 60,.eqv false (.agg [(0,.i),(1,.s),(2,.i)]) (.t 58) (.t 59),some (.t 55,true)⟩,⟨.t 61,.pick (.t 55) (.t 60) (.c (.bool false)),none⟩,⟨.t 62,.mov (.t 61),none⟩,⟨.t 63,.mov (.p 1),some (.t 62,true)⟩,
 ⟨.t 64,.idxAddr 3 (.t 63) (.c (.int .i64 3)),some (.t 62,true)⟩,⟨.t 65,.fieldAddr 0 (.t 64),some (.t 62,true)⟩,⟨.t 66,.load1 (.t 65),some (.t 62,true)⟩,⟨.t 67,.bin .eql (.t 66) (.c (.int .i64 5)),some (.t 62,true)⟩,
 ⟨.t 68,.pick (.t 62) (.t 67) (.c (.bool false)),none⟩,⟨.t 69,.mov (.t 68),none⟩,⟨.t 70,.mov (.p 5),some (.t 69,true)⟩,⟨.t 71,.bin .eql (.t 70) (.c (.int .i64 2)),some (.t 69,true)⟩,
 ⟨.t 72,.pick (.t 69) (.t 71) (.c (.bool false)),none⟩,⟨.t 73,.mov (.t 72),none⟩,⟨.t 74,.mov (.p 6),some (.t 73,true)⟩,⟨.t 75,.bin .eql (.t 74) (.c (.int .i64 2)),some (.t 73,true)⟩,
 ⟨.t 76,.pick (.t 73) (.t 75) (.c (.bool false)),none⟩,⟨.t 77,.mov (.t 76),none⟩,⟨.t 78,.mov (.p 8),some (.t 77,true)⟩,⟨.t 79,.bin .eql (.t 78) (.c (.int .i64 2)),some (.t 77,true)⟩,
 ⟨.t 80,.pick (.t 77) (.t 79) (.c (.bool false)),none⟩,⟨.t 81,.mov (.t 80),none⟩,⟨.t 82,.mov (.p 9),some (.t 81,true)⟩,⟨.t 83,.bin .eql (.t 82) (.c (.int .i64 2)),some (.t 81,true)⟩,
 ⟨.t 84,.pick (.t 81) (.t 83) (.c (.bool false)),none⟩,⟨.t 85,.mov (.t 84),none⟩,⟨.t 86,.mov (.p 11),some (.t 85,true)⟩,⟨.t 87,.bin .eql (.t 86) (.c (.int .i64 0)),some (.t 85,true)⟩,
 ⟨.t 88,.pick (.t 85) (.t 87) (.c (.bool false)),none⟩,⟨.t 89,.mov (.t 88),none⟩,⟨.t 90,.mov (.p 10),some (.t 89,true)⟩,⟨.t 91,.lenSl (.t 90),some (.t 89,true)⟩,⟨.t 92,.bin .eql (.t 91) (.c (.int .i64 1)),some (.t 89,true)⟩,
 ⟨.t 93,.pick (.t 89) (.t 92) (.c (.bool false)),none⟩,⟨.t 94,.mov (.t 93),none⟩,⟨.t 95,.mov (.p 10),some (.t 94,true)⟩,⟨.t 96,.idxAddr 2 (.t 95) (.c (.int .i64 0)),some (.t 94,true)⟩,
 ⟨.t 97,.loadN 2 (.t 96),some (.t 94,true)⟩,⟨.t 98,.build [.int .i32 0,.int .i32 0] [(0,1,.c (.int .i32 97)),(1,1,.c (.int .i32 99))],some (.t 94,true)⟩,⟨.t 99,.eqv false (.agg [(0,.i),(1,.i)]) (.t 97) (.t 98),some (.t 94,true)⟩,
 ⟨.t 100,.pick (.t 94) (.t 99) (.c (.bool false)),none⟩,⟨.t 101,.mov (.t 100),none⟩,⟨.t 102,.mov (.p 14),some (.t 101,true)⟩,⟨.t 103,.bin .eql (.t 102) (.c (.int .i64 3)),some (.t 101,true)⟩,
 ⟨.t 104,.pick (.t 101) (.t 103) (.c (.bool false)),none⟩,⟨.t 105,.mov (.t 104),none⟩,⟨.t 106,.mov (.p 15),some (.t 105,true)⟩,⟨.t 107,.bin .eql (.t 106) (.c (.int .i64 2)),some (.t 105,true)⟩,
 ⟨.t 108,.pick (.t 105) (.t 107) (.c (.bool false)),none⟩,⟨.p 0,.mov (.t 108),none⟩]) (.ret)))))))
def cf_gobolaw12_told : CFunc :=
{ nargs := 0,ps := [0,1,2,5,6,8,9,10,11,14,15],results := [.slot 0],body := bd_gobolaw12_told }
def lb_word_All_0 : CCode :=
 .seq (.reg [⟨.p 19,.bin .lss (.p 18) (.p 17),none⟩]) (.seq (.cond (.p 19) (.skip) (.exit 0)) (.seq (.block 1 [5,6,16,17,18] (.seq (.reg [⟨.t 20,.idxAddr 5 (.p 16) (.p 18),none⟩,⟨.t 21,.loadN 5 (.t 20),none⟩,
 ⟨.p 8,.alloc [.int .i32 0,.int .i64 0,.int .i64 0,.bool false,.bool false],none⟩,⟨.no,.store 5 (.p 8) (.t 21),none⟩]) (.seq (.reg [⟨.t 22,.fieldAddr 3 (.p 8),none⟩,⟨.t 23,.load1 (.t 22),none⟩,
 ⟨.t 24,.mov (.t 23),none⟩,⟨.t 25,.fieldAddr 0 (.p 6),some (.t 24,true)⟩,⟨.t 26,.load1 (.t 25),some (.t 24,true)⟩,⟨.t 27,.bin .eql (.t 26) (.c (.int .i64 0)),some (.t 24,true)⟩,⟨.t 28,.mov (.t 27),some (.t 24,true)⟩,
 ⟨.t 29,.fieldAddr 1 (.p 8),some (.t 28,false)⟩,⟨.t 30,.load1 (.t 29),some (.t 28,false)⟩,⟨.t 31,.fieldAddr 1 (.p 6),some (.t 28,false)⟩,⟨.t 32,.load1 (.t 31),some (.t 28,false)⟩,⟨.t 33,.bin .lss (.t 30) (.t 32),some (.t 28,false)⟩,
 ⟨.t 34,.pick (.t 28) (.c (.bool true)) (.t 33),some (.t 24,true)⟩,⟨.p 35,.pick (.t 24) (.t 34) (.c (.bool false)),none⟩]) (.cond (.p 35) (.seq (.reg [⟨.t 36,.fieldAddr 1 (.p 8),none⟩,
 ⟨.t 37,.load1 (.t 36),none⟩,⟨.t 38,.build [.int .i64 0,.int .i64 0] [(0,1,.c (.int .i64 2)),(1,1,.t 37)],none⟩,⟨.no,.store 2 (.p 6) (.t 38),none⟩]) (.exit 0)) (.skip))))) (.reg [⟨.t 39,.bin .add (.p 18) (.c (.int .i64 1)),none⟩,
 ⟨.p 18,.mov (.t 39),none⟩])))
def bd_word_All : CCode :=
 .seq (.reg [⟨.p 1,.box (.p 0),none⟩,⟨.p 2,.mov (.c (.nils)),none⟩,⟨.p 3,.mov (.c (.int .i64 0)),none⟩,⟨.p 4,.mov (.c (.int .i64 0)),none⟩]) (.seq (.seq (.reg [⟨.t 9,.load1 (.p 1),none⟩,
 ⟨.t 10,.lenStr (.t 9),none⟩,⟨.p 11,.bin .gtr (.t 10) (.c (.int .i64 4000)),none⟩]) (.cond (.p 11) (.seq (.reg [⟨.p 2,.mov (.c (.nils)),none⟩,⟨.p 3,.mov (.c (.int .i64 6)),none⟩,⟨.p 4,.mov (.c (.int .i64 0)),none⟩]) (.ret)) (.skip))) (.seq (.reg [⟨.p 5,.alloc [.nils],none⟩]) (.seq (.reg [⟨.t 12,.mkFn F_word_All_1 [.p 1,.p 5],none⟩,
 ⟨.t 13,.call F_word_Caught [.t 12],none⟩,⟨.p 6,.alloc [.int .i64 0,.int .i64 0],none⟩,⟨.no,.store 2 (.p 6) (.t 13),none⟩]) (.seq (.seq (.reg [⟨.t 14,.load1 (.p 1),none⟩,⟨.t 15,.strBytes (.t 14),none⟩,
 ⟨.p 16,.call F_decode_All [.t 15],none⟩,⟨.p 17,.lenSl (.p 16),none⟩,⟨.p 18,.mov (.c (.int .i64 0)),none⟩]) (.block 0 [5,6] (.loop [5,6,16,17,18] lb_word_All_0))) (.seq (.seq (.reg [⟨.t 40,.fieldAddr 0 (.p 6),none⟩,
 ⟨.t 41,.load1 (.t 40),none⟩,⟨.p 42,.bin .neq (.t 41) (.c (.int .i64 0)),none⟩]) (.cond (.p 42) (.seq (.dreg [⟨⟨.t 43,.fieldAddr 0 (.p 6),none⟩,false,false,[]⟩,⟨⟨.t 44,.load1 (.t 43),none⟩,false,false,[]⟩,
 ⟨⟨.t 45,.fieldAddr 1 (.p 6),none⟩,false,false,[]⟩,⟨⟨.t 46,.load1 (.t 45),none⟩,false,false,[]⟩,⟨⟨.p 2,.mov (.c (.nils)),none⟩,false,false,[]⟩,⟨⟨.p 3,.mov (.t 44),none⟩,false,false,[]⟩,
 ⟨⟨.p 4,.mov (.t 46),none⟩,false,false,[]⟩]) (.ret)) (.skip))) (.seq (.reg [⟨.t 47,.load1 (.p 5),none⟩,⟨.p 2,.mov (.t 47),none⟩,⟨.p 3,.mov (.c (.int .i64 0)),none⟩,⟨.p 4,.mov (.c (.int .i64 0)),none⟩]) (.ret)))))))
def cf_word_All : CFunc :=
{ nargs := 1,ps := [0,1,2,3,4,5,6,8,11,16,17,18,19,35,42],results := [.slot 2,.slot 3,.slot 4],body := bd_word_All }
def lb_goboref11_Words_0 : CCode :=
 .seq (.seq (.reg [⟨.t 22,.mov (.p 7),none⟩,⟨.p 23,.bin .geq (.t 22) (.c (.int .i64 0)),none⟩]) (.cond (.p 23) (.skip) (.exit 0))) (.seq (.block 1 [0,5,6,7] (.seq (.reg [⟨.t 26,.mov (.p 5),none⟩,
 ⟨.t 27,.mov (.p 7),none⟩,⟨.t 28,.idxAddr 5 (.t 26) (.t 27),none⟩,⟨.t 29,.fieldAddr 3 (.t 28),none⟩,⟨.p 30,.load1 (.t 29),none⟩]) (.cond (.p 30) (.reg [⟨.t 31,.mov (.p 5),none⟩,⟨.t 32,.mov (.p 7),none⟩,
 ⟨.t 33,.idxAddr 5 (.t 31) (.t 32),none⟩,⟨.t 34,.fieldAddr 1 (.t 33),none⟩,⟨.t 35,.load1 (.t 34),none⟩,⟨.p 6,.mov (.t 35),none⟩]) (.skip)))) (.reg [⟨.t 24,.mov (.p 7),none⟩,⟨.t 25,.bin .sub (.t 24) (.c (.int .i64 1)),none⟩,
 ⟨.p 7,.mov (.t 25),none⟩]))
def lb_goboref11_Words_1 : CCode :=
 .seq (.seq (.reg [⟨.t 36,.mov (.p 9),none⟩,⟨.t 37,.mov (.p 0),none⟩,⟨.t 38,.lenStr (.t 37),none⟩,⟨.p 39,.bin .lss (.t 36) (.t 38),none⟩]) (.cond (.p 39) (.skip) (.exit 2))) (.block 3 [0,6,8,9] (.seq (.seq (.reg [⟨.t 40,.mov (.p 9),none⟩,
 ⟨.t 41,.mov (.p 6),none⟩,⟨.p 42,.bin .geq (.t 40) (.t 41),none⟩]) (.cond (.p 42) (.seq (.reg [⟨.t 43,.mov (.p 6),none⟩,⟨.p 2,.mov (.c (.nils)),none⟩,⟨.p 3,.mov (.c (.int .i64 2)),none⟩,
 ⟨.p 4,.mov (.t 43),none⟩]) (.ret)) (.skip))) (.seq (.reg [⟨.t 45,.mov (.p 0),none⟩,⟨.t 46,.mov (.p 9),none⟩,⟨.t 47,.call F_goboref11_word [.t 45,.t 46],none⟩,⟨.t 44,.mov (.t 47),none⟩,
 ⟨.t 48,.extract (.t 44) 0,none⟩,⟨.t 49,.extract (.t 44) 1,none⟩,⟨.p 10,.alloc [.int .i64 0,.str [],.int .i64 0],none⟩,⟨.no,.store 3 (.p 10) (.t 48),none⟩,⟨.p 11,.mov (.t 49),none⟩]) (.seq (.seq (.reg [⟨.t 50,.mov (.p 11),none⟩,
 ⟨.p 51,.bin .eql (.t 50) (.c (.int .i64 0)),none⟩]) (.cond (.p 51) (.seq (.reg [⟨.t 52,.mov (.p 9),none⟩,⟨.p 2,.mov (.c (.nils)),none⟩,⟨.p 3,.mov (.c (.int .i64 2)),none⟩,⟨.p 4,.mov (.t 52),none⟩]) (.ret)) (.skip))) (.seq (.seq (.reg [⟨.t 53,.mov (.p 9),none⟩,
 ⟨.t 54,.mov (.p 11),none⟩,⟨.t 55,.bin .add (.t 53) (.t 54),none⟩,⟨.t 56,.mov (.p 6),none⟩,⟨.p 57,.bin .gtr (.t 55) (.t 56),none⟩]) (.cond (.p 57) (.seq (.reg [⟨.t 58,.mov (.p 6),none⟩,
 ⟨.p 2,.mov (.c (.nils)),none⟩,⟨.p 3,.mov (.c (.int .i64 2)),none⟩,⟨.p 4,.mov (.t 58),none⟩]) (.ret)) (.skip))) (.seq (.seq (.reg [⟨.t 59,.fieldAddr 0 (.p 10),none⟩,⟨.t 60,.load1 (.t 59),none⟩,
 ⟨.p 61,.bin .gtr (.t 60) (.c (.int .i64 0)),none⟩]) (.cond (.p 61) (.reg [⟨.t 62,.mov (.p 8),none⟩,⟨.t 63,.loadN 3 (.p 10),none⟩,⟨.t 64,.lit [.int .i64 0,.str [],.int .i64 0] 1 [(0,3,.t 63)],none⟩,
 ⟨.t 65,.append 3 32 (.t 62) (.t 64),none⟩,⟨.p 8,.mov (.t 65),none⟩]) (.skip))) (.reg [⟨.t 66,.mov (.p 9),none⟩,⟨.t 67,.mov (.p 11),none⟩,⟨.t 68,.bin .add (.t 66) (.t 67),none⟩,⟨.p 9,.mov (.t 68),none⟩])))))))
def bd_goboref11_Words : CCode :=
 .seq (.reg [⟨.p 2,.mov (.c (.nils)),none⟩,⟨.p 3,.mov (.c (.int .i64 0)),none⟩,⟨.p 4,.mov (.c (.int .i64 0)),none⟩]) (.seq (.seq (.reg [⟨.t 12,.mov (.p 0),none⟩,⟨.t 13,.lenStr (.t 12),none⟩,
 ⟨.p 14,.bin .gtr (.t 13) (.c (.int .i64 4000)),none⟩]) (.cond (.p 14) (.seq (.reg [⟨.p 2,.mov (.c (.nils)),none⟩,⟨.p 3,.mov (.c (.int .i64 6)),none⟩,⟨.p 4,.mov (.c (.int .i64 0)),none⟩]) (.ret)) (.skip))) (.seq (.reg [⟨.t 15,.mov (.p 0),none⟩,
 ⟨.t 16,.call F_goboref3_All [.t 15],none⟩,⟨.p 5,.mov (.t 16),none⟩]) (.seq (.reg [⟨.t 17,.mov (.p 0),none⟩,⟨.t 18,.lenStr (.t 17),none⟩,⟨.p 6,.mov (.t 18),none⟩]) (.seq (.seq (.reg [⟨.t 19,.mov (.p 5),none⟩,
 ⟨.t 20,.lenSl (.t 19),none⟩,⟨.t 21,.bin .sub (.t 20) (.c (.int .i64 1)),none⟩,⟨.p 7,.mov (.t 21),none⟩]) (.block 0 [0,6] (.loop [0,5,6,7] lb_goboref11_Words_0))) (.seq (.reg [⟨.p 8,.mov (.c (.nils)),none⟩]) (.seq (.seq (.reg [⟨.p 9,.mov (.c (.int .i64 0)),none⟩]) (.block 2 [8] (.loop [0,6,8,9] lb_goboref11_Words_1))) (.seq (.reg [⟨.t 69,.mov (.p 8),none⟩,
 ⟨.p 2,.mov (.t 69),none⟩,⟨.p 3,.mov (.c (.int .i64 0)),none⟩,⟨.p 4,.mov (.c (.int .i64 0)),none⟩]) (.ret))))))))
def cf_goboref11_Words : CFunc :=
{ nargs := 1,ps := [0,2,3,4,5,6,7,8,9,10,11,14,23,30,39,42,51,57,61],results := [.slot 2,.slot 3,.slot 4],body := bd_goboref11_Words }
def bd_word_Class : CCode :=
 .seq (.reg [⟨.p 1,.box (.p 0),none⟩,⟨.p 2,.mov (.c (.nils)),none⟩,⟨.p 3,.mov (.c (.int .i64 0)),none⟩,⟨.p 4,.mov (.c (.int .i64 0)),none⟩]) (.seq (.reg [⟨.p 5,.alloc [.nils],none⟩]) (.seq (.seq (.reg [⟨.t 7,.mkFn F_word_Class_1 [.p 1,.p 5],none⟩,
 ⟨.t 8,.call F_word_Caught [.t 7],none⟩,⟨.p 6,.alloc [.int .i64 0,.int .i64 0],none⟩,⟨.no,.store 2 (.p 6) (.t 8),none⟩]) (.seq (.reg [⟨.t 9,.fieldAddr 0 (.p 6),none⟩,⟨.t 10,.load1 (.t 9),none⟩,
 ⟨.p 11,.bin .neq (.t 10) (.c (.int .i64 0)),none⟩]) (.cond (.p 11) (.seq (.dreg [⟨⟨.t 12,.fieldAddr 0 (.p 6),none⟩,false,false,[]⟩,⟨⟨.t 13,.load1 (.t 12),none⟩,false,false,[]⟩,⟨⟨.t 14,.fieldAddr 1 (.p 6),none⟩,false,false,[]⟩,
 ⟨⟨.t 15,.load1 (.t 14),none⟩,false,false,[]⟩,⟨⟨.p 2,.mov (.c (.nils)),none⟩,false,false,[]⟩,⟨⟨.p 3,.mov (.t 13),none⟩,false,false,[]⟩,⟨⟨.p 4,.mov (.t 15),none⟩,false,false,[]⟩]) (.ret)) (.skip)))) (.seq (.reg [⟨.t 16,.load1 (.p 5),none⟩,
 ⟨.p 2,.mov (.t 16),none⟩,⟨.p 3,.mov (.c (.int .i64 0)),none⟩,⟨.p 4,.mov (.c (.int .i64 0)),none⟩]) (.ret))))
def cf_word_Class : CFunc :=
{ nargs := 1,ps := [0,1,2,3,4,5,6,11],results := [.slot 2,.slot 3,.slot 4],body := bd_word_Class }
def bd_goboref11_Class : CCode :=
 .seq (.reg [⟨.p 2,.mov (.c (.nils)),none⟩,⟨.p 3,.mov (.c (.int .i64 0)),none⟩,⟨.p 4,.mov (.c (.int .i64 0)),none⟩]) (.seq (.reg [⟨.t 7,.mov (.p 0),none⟩,⟨.t 8,.call F_goboref3_All [.t 7],none⟩,
 ⟨.t 9,.mov (.p 0),none⟩,⟨.t 10,.lenStr (.t 9),none⟩,⟨.t 11,.build [.nils,.int .i64 0,.int .i64 0,.int .i64 0,.int .i64 0] [(0,1,.t 8),(1,1,.t 10)],none⟩,⟨.t 12,.box (.t 11),none⟩,⟨.p 5,.mov (.t 12),none⟩]) (.seq (.reg [⟨.t 13,.mov (.p 5),none⟩,
 ⟨.t 14,.call F_goboref11_E_class [.t 13,.c (.int .i32 (-1))],none⟩,⟨.p 6,.mov (.t 14),none⟩]) (.seq (.seq (.reg [⟨.t 15,.mov (.p 5),none⟩,⟨.t 16,.nilCheck (.t 15),none⟩,⟨.t 17,.fieldAddr 3 (.t 16),none⟩,
 ⟨.t 18,.load1 (.t 17),none⟩,⟨.t 19,.bin .eql (.t 18) (.c (.int .i64 0)),none⟩,⟨.t 20,.mov (.t 19),none⟩,⟨.t 21,.mov (.p 6),some (.t 20,true)⟩,⟨.t 22,.lenSl (.t 21),some (.t 20,true)⟩,
 ⟨.t 23,.bin .eql (.t 22) (.c (.int .i64 0)),some (.t 20,true)⟩,⟨.p 24,.pick (.t 20) (.t 23) (.c (.bool false)),none⟩]) (.cond (.p 24) (.reg [⟨.t 25,.mov (.p 5),none⟩,⟨.t 26,.call F_goboref11_E_fail [.t 25,.c (.int .i64 3)],none⟩]) (.skip))) (.seq (.seq (.reg [⟨.t 27,.mov (.p 5),none⟩,
 ⟨.t 28,.nilCheck (.t 27),none⟩,⟨.t 29,.fieldAddr 3 (.t 28),none⟩,⟨.t 30,.load1 (.t 29),none⟩,⟨.p 31,.bin .neq (.t 30) (.c (.int .i64 0)),none⟩]) (.cond (.p 31) (.seq (.dreg [⟨⟨.t 32,.mov (.p 5),none⟩,false,false,[]⟩,
 ⟨⟨.t 33,.nilCheck (.t 32),none⟩,false,false,[]⟩,⟨⟨.t 34,.fieldAddr 3 (.t 33),none⟩,false,false,[]⟩,⟨⟨.t 35,.load1 (.t 34),none⟩,false,false,[]⟩,⟨⟨.t 36,.mov (.p 5),none⟩,false,false,[]⟩,
 ⟨⟨.t 37,.nilCheck (.t 36),none⟩,false,false,[]⟩,⟨⟨.t 38,.fieldAddr 4 (.t 37),none⟩,false,false,[]⟩,⟨⟨.t 39,.load1 (.t 38),none⟩,false,false,[]⟩,⟨⟨.p 2,.mov (.c (.nils)),none⟩,false,false,[]⟩,
 ⟨⟨.p 3,.mov (.t 35),none⟩,false,false,[]⟩,⟨⟨.p 4,.mov (.t 39),none⟩,false,false,[]⟩]) (.ret)) (.skip))) (.seq (.reg [⟨.t 40,.mov (.p 6),none⟩,⟨.p 2,.mov (.t 40),none⟩,⟨.p 3,.mov (.c (.int .i64 0)),none⟩,
 ⟨.p 4,.mov (.c (.int .i64 0)),none⟩]) (.ret))))))
def cf_goboref11_Class : CFunc :=
{ nargs := 1,ps := [0,2,3,4,5,6,24,31],results := [.slot 2,.slot 3,.slot 4],body := bd_goboref11_Class }
def lb_gobolaw12_words_0 : CCode :=
 .seq (.seq (.reg [⟨.t 11,.mov (.p 5),none⟩,⟨.t 12,.mov (.p 0),none⟩,⟨.t 13,.lenSl (.t 12),none⟩,⟨.p 14,.bin .lss (.t 11) (.t 13),none⟩]) (.cond (.p 14) (.skip) (.exit 0))) (.seq (.block 1 [0,1,5] (.seq (.dreg [⟨⟨.t 17,.mov (.p 0),none⟩,false,false,[]⟩,
 ⟨⟨.t 18,.mov (.p 5),none⟩,false,false,[]⟩,⟨⟨.t 19,.idxAddr 3 (.t 17) (.t 18),none⟩,false,false,[]⟩,⟨⟨.t 20,.fieldAddr 0 (.t 19),none⟩,false,false,[]⟩,⟨⟨.t 21,.load1 (.t 20),none⟩,false,false,[]⟩,
 ⟨⟨.t 22,.mov (.p 1),none⟩,false,false,[]⟩,⟨⟨.t 23,.mov (.p 5),none⟩,false,false,[]⟩,⟨⟨.t 24,.idxAddr 3 (.t 22) (.t 23),none⟩,false,false,[]⟩,⟨⟨.t 25,.fieldAddr 0 (.t 24),none⟩,false,false,[]⟩,
 ⟨⟨.t 26,.load1 (.t 25),none⟩,false,false,[]⟩,⟨⟨.t 27,.bin .neq (.t 21) (.t 26),none⟩,false,false,[]⟩,⟨⟨.t 28,.mov (.t 27),none⟩,false,false,[]⟩,⟨⟨.t 29,.mov (.p 0),some (.t 28,false)⟩,false,false,[]⟩,
 ⟨⟨.t 30,.mov (.p 5),some (.t 28,false)⟩,false,false,[]⟩,⟨⟨.t 31,.idxAddr 3 (.t 29) (.t 30),some (.t 28,false)⟩,false,false,[]⟩,⟨⟨.t 32,.fieldAddr 1 (.t 31),some (.t 28,false)⟩,false,false,[]⟩,
 ⟨⟨.t 33,.load1 (.t 32),some (.t 28,false)⟩,false,false,[]⟩,⟨⟨.t 34,.mov (.p 1),some (.t 28,false)⟩,false,false,[]⟩,⟨⟨.t 35,.mov (.p 5),some (.t 28,false)⟩,false,false,[]⟩,⟨⟨.t 36,.idxAddr 3 (.t 34) (.t 35),some (.t 28,false)⟩,false,false,[]⟩,
 ⟨⟨.t 37,.fieldAddr 1 (.t 36),some (.t 28,false)⟩,false,false,[]⟩,⟨⟨.t 38,.load1 (.t 37),some (.t 28,false)⟩,false,false,[]⟩,⟨⟨.t 39,.bin .neq (.t 33) (.t 38),some (.t 28,false)⟩,false,false,[]⟩,
 ⟨⟨.t 40,.pick (.t 28) (.c (.bool true)) (.t 39),none⟩,false,false,[]⟩,⟨⟨.t 41,.mov (.t 40),none⟩,false,false,[]⟩,⟨⟨.t 42,.mov (.p 0),some (.t 41,false)⟩,false,false,[]⟩,⟨⟨.t 43,.mov (.p 5),some (.t 41,false)⟩,false,false,[]⟩,
 ⟨⟨.t 44,.idxAddr 3 (.t 42) (.t 43),some (.t 41,false)⟩,false,false,[]⟩,⟨⟨.t 45,.fieldAddr 2 (.t 44),some (.t 41,false)⟩,false,false,[]⟩,⟨⟨.t 46,.load1 (.t 45),some (.t 41,false)⟩,false,false,[]⟩,
 ⟨⟨.t 47,.mov (.p 1),some (.t 41,false)⟩,false,false,[]⟩,⟨⟨.t 48,.mov (.p 5),some (.t 41,false)⟩,false,false,[]⟩,⟨⟨.t 49,.idxAddr 3 (.t 47) (.t 48),some (.t 41,false)⟩,false,false,[]⟩,
 ⟨⟨.t 50,.fieldAddr 2 (.t 49),some (.t 41,false)⟩,false,false,[]⟩,⟨⟨.t 51,.load1 (.t 50),some (.t 41,false)⟩,false,false,[]⟩,⟨⟨.t 52,.bin .neq (.t 46) (.t 51),some (.t 41,false)⟩,false,false,[]⟩,
 ⟨⟨.p 53,.pick (.t 41) (.c (.bool true)) (.t 52),none⟩,false,false,[]⟩]) (.cond (.p 53) (.seq (.reg [⟨.p 4,.mov (.c (.bool false)),none⟩]) (.ret)) (.skip)))) (.reg [⟨.t 15,.mov (.p 5),none⟩,
 ⟨.t 16,.bin .add (.t 15) (.c (.int .i64 1)),none⟩,⟨.p 5,.mov (.t 16),none⟩]))
def bd_gobolaw12_words : CCode :=
 .seq (.reg [⟨.p 4,.mov (.c (.bool false)),none⟩]) (.seq (.seq (.reg [⟨.t 6,.mov (.p 0),none⟩,⟨.t 7,.lenSl (.t 6),none⟩,⟨.t 8,.mov (.p 1),none⟩,⟨.t 9,.lenSl (.t 8),none⟩,⟨.p 10,.bin .neq (.t 7) (.t 9),none⟩]) (.cond (.p 10) (.seq (.reg [⟨.p 4,.mov (.c (.bool false)),none⟩]) (.ret)) (.skip))) (.seq (.seq (.reg [⟨.p 5,.mov (.c (.int .i64 0)),none⟩]) (.block 0 [] (.loop [0,1,5] lb_gobolaw12_words_0))) (.seq (.reg [⟨.p 4,.mov (.c (.bool true)),none⟩]) (.ret))))
def cf_gobolaw12_words : CFunc :=
{ nargs := 2,ps := [0,1,4,5,10,14,53],results := [.slot 4],body := bd_gobolaw12_words }
def lb_goboref3_Same_0 : CCode :=
 .seq (.seq (.reg [⟨.t 11,.mov (.p 5),none⟩,⟨.t 12,.mov (.p 0),none⟩,⟨.t 13,.lenSl (.t 12),none⟩,⟨.p 14,.bin .lss (.t 11) (.t 13),none⟩]) (.cond (.p 14) (.skip) (.exit 0))) (.seq (.block 1 [0,1,5] (.seq (.dreg [⟨⟨.t 17,.mov (.p 0),none⟩,false,false,[]⟩,
 ⟨⟨.t 18,.mov (.p 5),none⟩,false,false,[]⟩,⟨⟨.t 19,.idxAddr 2 (.t 17) (.t 18),none⟩,false,false,[]⟩,⟨⟨.t 20,.loadN 2 (.t 19),none⟩,false,false,[]⟩,⟨⟨.t 21,.mov (.p 1),none⟩,false,false,[]⟩,
 ⟨⟨.t 22,.mov (.p 5),none⟩,false,false,[]⟩,⟨⟨.t 23,.idxAddr 2 (.t 21) (.t 22),none⟩,false,false,[]⟩,⟨⟨.t 24,.loadN 2 (.t 23),none⟩,false,false,[]⟩,⟨⟨.p 25,.eqv true (.agg [(0,.i),(1,.i)]) (.t 20) (.t 24),none⟩,false,false,[]⟩]) (.cond (.p 25) (.seq (.reg [⟨.p 4,.mov (.c (.bool false)),none⟩]) (.ret)) (.skip)))) (.reg [⟨.t 15,.mov (.p 5),none⟩,
 ⟨.t 16,.bin .add (.t 15) (.c (.int .i64 1)),none⟩,⟨.p 5,.mov (.t 16),none⟩]))
def bd_goboref3_Same : CCode :=
 .seq (.reg [⟨.p 4,.mov (.c (.bool false)),none⟩]) (.seq (.seq (.reg [⟨.t 6,.mov (.p 0),none⟩,⟨.t 7,.lenSl (.t 6),none⟩,⟨.t 8,.mov (.p 1),none⟩,⟨.t 9,.lenSl (.t 8),none⟩,⟨.p 10,.bin .neq (.t 7) (.t 9),none⟩]) (.cond (.p 10) (.seq (.reg [⟨.p 4,.mov (.c (.bool false)),none⟩]) (.ret)) (.skip))) (.seq (.seq (.reg [⟨.p 5,.mov (.c (.int .i64 0)),none⟩]) (.block 0 [] (.loop [0,1,5] lb_goboref3_Same_0))) (.seq (.reg [⟨.p 4,.mov (.c (.bool true)),none⟩]) (.ret))))
def cf_goboref3_Same : CFunc :=
{ nargs := 2,ps := [0,1,4,5,10,14,25],results := [.slot 4],body := bd_goboref3_Same }
def bd_word_Caught : CCode :=
 .seq (.reg [⟨.p 2,.alloc [.int .i64 0,.int .i64 0],none⟩]) (.seq (.reg [⟨.t 3,.mkFn F_word_Caught_1 [.p 2],none⟩,⟨.no,.dfr (.t 3) [],none⟩]) (.seq (.reg [⟨.t 4,.mov (.p 0),none⟩,⟨.t 5,.callV (.t 4) [],none⟩]) (.seq (.reg [⟨.t 6,.build [.int .i64 0,.int .i64 0] [],none⟩,
 ⟨.no,.store 2 (.p 2) (.t 6),none⟩]) (.ret))))
def cf_word_Caught : CFunc :=
{ nargs := 1,ps := [0,2],results := [.cellN 2 2],body := bd_word_Caught }
def bd_word_All_1 : CCode :=
 .reg [⟨.t 2,.load1 (.p 0),none⟩,⟨.t 3,.call F_word_words [.t 2],none⟩,⟨.no,.store 1 (.p 1) (.t 3),none⟩]
def cf_word_All_1 : CFunc :=
{ nargs := 2,ps := [0,1],results := [],body := bd_word_All_1 }
def lb_word_words_0 : CCode :=
 .seq (.seq (.reg [⟨.t 7,.mov (.p 4),none⟩,⟨.t 8,.mov (.p 0),none⟩,⟨.t 9,.lenStr (.t 8),none⟩,⟨.p 10,.bin .lss (.t 7) (.t 9),none⟩]) (.cond (.p 10) (.skip) (.exit 0))) (.block 1 [0,3,4] (.seq (.reg [⟨.t 11,.mov (.p 0),none⟩,
 ⟨.t 12,.mov (.p 4),none⟩,⟨.t 13,.idxStr (.t 11) (.t 12),none⟩,⟨.t 14,.mov (.p 4),none⟩,⟨.p 5,.mov (.t 13),none⟩,⟨.p 6,.mov (.t 14),none⟩]) (.block 2 [0,3,4] (.seq (.reg [⟨.t 18,.mov (.p 5),none⟩,
 ⟨.t 19,.bin .eql (.t 18) (.c (.int .u8 32)),none⟩,⟨.t 20,.mov (.t 19),none⟩,⟨.t 21,.mov (.p 5),some (.t 20,false)⟩,⟨.t 22,.bin .eql (.t 21) (.c (.int .u8 9)),some (.t 20,false)⟩,⟨.t 23,.pick (.t 20) (.c (.bool true)) (.t 22),none⟩,
 ⟨.t 24,.mov (.t 23),none⟩,⟨.t 25,.mov (.p 5),some (.t 24,false)⟩,⟨.t 26,.bin .eql (.t 25) (.c (.int .u8 13)),some (.t 24,false)⟩,⟨.t 27,.pick (.t 24) (.c (.bool true)) (.t 26),none⟩,
 ⟨.p 17,.mov (.t 27),none⟩]) (.cond (.p 17) (.reg [⟨.t 28,.mov (.p 4),none⟩,⟨.t 29,.bin .add (.t 28) (.c (.int .i64 1)),none⟩,⟨.p 4,.mov (.t 29),none⟩]) (.seq (.reg [⟨.t 31,.mov (.p 5),none⟩,
 ⟨.t 32,.bin .eql (.t 31) (.c (.int .u8 35)),none⟩,⟨.p 30,.mov (.t 32),none⟩]) (.cond (.p 30) (.reg [⟨.t 33,.mov (.p 0),none⟩,⟨.t 34,.mov (.p 4),none⟩,⟨.t 35,.call F_word_run [.t 33,.t 34,.f F_word_words_1],none⟩,
 ⟨.p 4,.mov (.t 35),none⟩]) (.seq (.reg [⟨.t 37,.mov (.p 5),none⟩,⟨.t 38,.bin .eql (.t 37) (.c (.int .u8 10)),none⟩,⟨.p 36,.mov (.t 38),none⟩]) (.cond (.p 36) (.seq (.reg [⟨.t 39,.mov (.p 4),none⟩,
 ⟨.t 40,.bin .add (.t 39) (.c (.int .i64 1)),none⟩,⟨.p 4,.mov (.t 40),none⟩]) (.reg [⟨.t 41,.mov (.p 3),none⟩,⟨.t 42,.mov (.p 6),none⟩,⟨.t 43,.build [.int .i64 0,.str [],.int .i64 0] [(0,1,.c (.int .i64 5)),(1,1,.c (.str [])),(2,1,.t 42)],none⟩,
 ⟨.t 44,.lit [.int .i64 0,.str [],.int .i64 0] 1 [(0,3,.t 43)],none⟩,⟨.t 45,.append 3 32 (.t 41) (.t 44),none⟩,⟨.p 3,.mov (.t 45),none⟩])) (.seq (.reg [⟨.t 47,.mov (.p 5),none⟩,⟨.t 48,.call F_word_letter [.t 47],none⟩,
 ⟨.p 46,.mov (.t 48),none⟩]) (.cond (.p 46) (.seq (.reg [⟨.t 49,.mov (.p 0),none⟩,⟨.t 50,.mov (.p 4),none⟩,⟨.t 51,.call F_word_run [.t 49,.t 50,.f F_word_words_2],none⟩,⟨.p 4,.mov (.t 51),none⟩]) (.reg [⟨.t 52,.mov (.p 3),none⟩,
 ⟨.t 53,.mov (.p 0),none⟩,⟨.t 54,.mov (.p 6),none⟩,⟨.t 55,.mov (.p 4),none⟩,⟨.t 56,.sliceStr (.t 53) (some (.t 54)) (some (.t 55)),none⟩,⟨.t 57,.mov (.p 6),none⟩,⟨.t 58,.build [.int .i64 0,.str [],.int .i64 0] [(0,1,.c (.int .i64 1)),(1,1,.t 56),(2,1,.t 57)],none⟩,
 ⟨.t 59,.lit [.int .i64 0,.str [],.int .i64 0] 1 [(0,3,.t 58)],none⟩,⟨.t 60,.append 3 32 (.t 52) (.t 59),none⟩,⟨.p 3,.mov (.t 60),none⟩])) (.seq (.reg [⟨.t 62,.mov (.p 5),none⟩,⟨.t 63,.call F_word_digit [.t 62],none⟩,
 ⟨.p 61,.mov (.t 63),none⟩]) (.cond (.p 61) (.seq (.reg [⟨.t 64,.mov (.p 0),none⟩,⟨.t 65,.mov (.p 4),none⟩,⟨.t 66,.call F_word_run [.t 64,.t 65,.f F_word_digit],none⟩,⟨.p 4,.mov (.t 66),none⟩]) (.reg [⟨.t 67,.mov (.p 3),none⟩,
 ⟨.t 68,.mov (.p 0),none⟩,⟨.t 69,.mov (.p 6),none⟩,⟨.t 70,.mov (.p 4),none⟩,⟨.t 71,.sliceStr (.t 68) (some (.t 69)) (some (.t 70)),none⟩,⟨.t 72,.mov (.p 6),none⟩,⟨.t 73,.build [.int .i64 0,.str [],.int .i64 0] [(0,1,.c (.int .i64 2)),(1,1,.t 71),(2,1,.t 72)],none⟩,
 ⟨.t 74,.lit [.int .i64 0,.str [],.int .i64 0] 1 [(0,3,.t 73)],none⟩,⟨.t 75,.append 3 32 (.t 67) (.t 74),none⟩,⟨.p 3,.mov (.t 75),none⟩])) (.seq (.reg [⟨.t 77,.mov (.p 5),none⟩,⟨.t 78,.call F_strings_IndexByte [.c (.str [123,125,40,41,124,42,94,60,62,58,95,61]),.t 77],none⟩,
 ⟨.t 79,.bin .geq (.t 78) (.c (.int .i64 0)),none⟩,⟨.p 76,.mov (.t 79),none⟩]) (.cond (.p 76) (.seq (.reg [⟨.t 80,.mov (.p 4),none⟩,⟨.t 81,.bin .add (.t 80) (.c (.int .i64 1)),none⟩,
 ⟨.p 4,.mov (.t 81),none⟩]) (.reg [⟨.t 82,.mov (.p 3),none⟩,⟨.t 83,.mov (.p 0),none⟩,⟨.t 84,.mov (.p 6),none⟩,⟨.t 85,.mov (.p 4),none⟩,⟨.t 86,.sliceStr (.t 83) (some (.t 84)) (some (.t 85)),none⟩,
 ⟨.t 87,.mov (.p 6),none⟩,⟨.t 88,.build [.int .i64 0,.str [],.int .i64 0] [(0,1,.c (.int .i64 3)),(1,1,.t 86),(2,1,.t 87)],none⟩,⟨.t 89,.lit [.int .i64 0,.str [],.int .i64 0] 1 [(0,3,.t 88)],none⟩,
 ⟨.t 90,.append 3 32 (.t 82) (.t 89),none⟩,⟨.p 3,.mov (.t 90),none⟩])) (.seq (.reg [⟨.t 92,.mov (.p 5),none⟩,⟨.t 93,.bin .eql (.t 92) (.c (.int .u8 47)),none⟩,⟨.p 91,.mov (.t 93),none⟩]) (.cond (.p 91) (.seq (.reg [⟨.t 94,.mov (.p 0),none⟩,
 ⟨.t 95,.mov (.p 6),none⟩,⟨.t 96,.call F_word_closed [.t 94,.t 95],none⟩,⟨.p 4,.mov (.t 96),none⟩]) (.seq (.reg [⟨.t 97,.mov (.p 3),none⟩,⟨.t 98,.mov (.p 0),none⟩,⟨.t 99,.mov (.p 6),none⟩,
 ⟨.t 100,.bin .add (.t 99) (.c (.int .i64 1)),none⟩,⟨.t 101,.mov (.p 4),none⟩,⟨.t 102,.sliceStr (.t 98) (some (.t 100)) (some (.t 101)),none⟩,⟨.t 103,.mov (.p 6),none⟩,⟨.t 104,.build [.int .i64 0,.str [],.int .i64 0] [(0,1,.c (.int .i64 4)),(1,1,.t 102),(2,1,.t 103)],none⟩,
 ⟨.t 105,.lit [.int .i64 0,.str [],.int .i64 0] 1 [(0,3,.t 104)],none⟩,⟨.t 106,.append 3 32 (.t 97) (.t 105),none⟩,⟨.p 3,.mov (.t 106),none⟩]) (.reg [⟨.t 107,.mov (.p 4),none⟩,⟨.t 108,.bin .add (.t 107) (.c (.int .i64 1)),none⟩,
 ⟨.p 4,.mov (.t 108),none⟩]))) (.reg [⟨.t 15,.mov (.p 4),none⟩,⟨.t 16,.call F_word_Fail [.c (.int .i64 2),.t 15],none⟩]))))))))))))))))))
def bd_word_words : CCode :=
 .seq (.reg [⟨.p 2,.mov (.c (.nils)),none⟩]) (.seq (.reg [⟨.p 3,.mov (.c (.nils)),none⟩]) (.seq (.seq (.reg [⟨.p 4,.mov (.c (.int .i64 0)),none⟩]) (.block 0 [3] (.loop [0,3,4] lb_word_words_0))) (.seq (.reg [⟨.t 109,.mov (.p 3),none⟩,
 ⟨.p 2,.mov (.t 109),none⟩]) (.ret))))
def cf_word_words : CFunc :=
{ nargs := 1,ps := [0,2,3,4,5,6,10,17,30,36,46,61,76,91],results := [.slot 2],body := bd_word_words }
def bd_decode_All : CCode :=
 .seq (.reg [⟨.p 2,.mov (.c (.nils)),none⟩]) (.seq (.reg [⟨.t 4,.call F_decode_New [],none⟩,⟨.p 3,.mov (.t 4),none⟩]) (.seq (.reg [⟨.t 5,.mov (.p 3),none⟩,⟨.t 6,.mov (.p 0),none⟩,⟨.t 7,.call F_decode_Dec_Feed [.t 5,.t 6],none⟩,
 ⟨.t 8,.mov (.p 3),none⟩,⟨.t 9,.call F_decode_Dec_Close [.t 8],none⟩,⟨.t 10,.append 5 32 (.t 7) (.t 9),none⟩,⟨.p 2,.mov (.t 10),none⟩]) (.ret)))
def cf_decode_All : CFunc :=
{ nargs := 1,ps := [0,2,3],results := [.slot 2],body := bd_decode_All }
def bd_goboref3_All : CCode :=
 .seq (.reg [⟨.p 2,.mov (.c (.nils)),none⟩]) (.seq (.reg [⟨.t 3,.mov (.p 0),none⟩,⟨.t 4,.call F_goboref3_items [.t 3,.c (.bool true)],none⟩,⟨.p 2,.mov (.t 4),none⟩]) (.ret))
def cf_goboref3_All : CFunc :=
{ nargs := 1,ps := [0,2],results := [.slot 2],body := bd_goboref3_All }
def lb_goboref11_word_0 : CCode :=
 .seq (.seq (.reg [⟨.t 32,.mov (.p 1),none⟩,⟨.t 33,.mov (.p 7),none⟩,⟨.t 34,.bin .add (.t 32) (.t 33),none⟩,⟨.t 35,.mov (.p 0),none⟩,⟨.t 36,.lenStr (.t 35),none⟩,⟨.t 37,.bin .lss (.t 34) (.t 36),none⟩,
 ⟨.t 38,.mov (.t 37),none⟩,⟨.t 39,.mov (.p 0),some (.t 38,true)⟩,⟨.t 40,.mov (.p 1),some (.t 38,true)⟩,⟨.t 41,.mov (.p 7),some (.t 38,true)⟩,⟨.t 42,.bin .add (.t 40) (.t 41),some (.t 38,true)⟩,
 ⟨.t 43,.idxStr (.t 39) (.t 42),some (.t 38,true)⟩,⟨.t 44,.bin .neq (.t 43) (.c (.int .u8 10)),some (.t 38,true)⟩,⟨.p 45,.pick (.t 38) (.t 44) (.c (.bool false)),none⟩]) (.cond (.p 45) (.skip) (.exit 1))) (.block 2 [0,1,4,7] (.reg [⟨.t 46,.mov (.p 7),none⟩,
 ⟨.t 47,.bin .add (.t 46) (.c (.int .i64 1)),none⟩,⟨.p 7,.mov (.t 47),none⟩]))
def lb_goboref11_word_1 : CCode :=
 .seq (.seq (.reg [⟨.t 53,.mov (.p 1),none⟩,⟨.t 54,.mov (.p 7),none⟩,⟨.t 55,.bin .add (.t 53) (.t 54),none⟩,⟨.t 56,.mov (.p 0),none⟩,⟨.t 57,.lenStr (.t 56),none⟩,⟨.t 58,.bin .lss (.t 55) (.t 57),none⟩,
 ⟨.t 59,.mov (.t 58),none⟩,⟨.t 60,.mov (.p 0),some (.t 59,true)⟩,⟨.t 61,.mov (.p 1),some (.t 59,true)⟩,⟨.t 62,.mov (.p 7),some (.t 59,true)⟩,⟨.t 63,.bin .add (.t 61) (.t 62),some (.t 59,true)⟩,
 ⟨.t 64,.idxStr (.t 60) (.t 63),some (.t 59,true)⟩,⟨.t 65,.call F_goboref11_small [.t 64],some (.t 59,true)⟩,⟨.t 66,.mov (.t 65),some (.t 59,true)⟩,⟨.t 67,.mov (.p 0),some (.t 66,false)⟩,
 ⟨.t 68,.mov (.p 1),some (.t 66,false)⟩,⟨.t 69,.mov (.p 7),some (.t 66,false)⟩,⟨.t 70,.bin .add (.t 68) (.t 69),some (.t 66,false)⟩,⟨.t 71,.idxStr (.t 67) (.t 70),some (.t 66,false)⟩,
 ⟨.t 72,.call F_goboref11_digit [.t 71],some (.t 66,false)⟩,⟨.t 73,.pick (.t 66) (.c (.bool true)) (.t 72),some (.t 59,true)⟩,⟨.p 74,.pick (.t 59) (.t 73) (.c (.bool false)),none⟩]) (.cond (.p 74) (.skip) (.exit 3))) (.block 4 [0,1,4,7] (.reg [⟨.t 75,.mov (.p 7),none⟩,
 ⟨.t 76,.bin .add (.t 75) (.c (.int .i64 1)),none⟩,⟨.p 7,.mov (.t 76),none⟩]))
def lb_goboref11_word_2 : CCode :=
 .seq (.seq (.reg [⟨.t 89,.mov (.p 1),none⟩,⟨.t 90,.mov (.p 7),none⟩,⟨.t 91,.bin .add (.t 89) (.t 90),none⟩,⟨.t 92,.mov (.p 0),none⟩,⟨.t 93,.lenStr (.t 92),none⟩,⟨.t 94,.bin .lss (.t 91) (.t 93),none⟩,
 ⟨.t 95,.mov (.t 94),none⟩,⟨.t 96,.mov (.p 0),some (.t 95,true)⟩,⟨.t 97,.mov (.p 1),some (.t 95,true)⟩,⟨.t 98,.mov (.p 7),some (.t 95,true)⟩,⟨.t 99,.bin .add (.t 97) (.t 98),some (.t 95,true)⟩,
 ⟨.t 100,.idxStr (.t 96) (.t 99),some (.t 95,true)⟩,⟨.t 101,.call F_goboref11_digit [.t 100],some (.t 95,true)⟩,⟨.p 102,.pick (.t 95) (.t 101) (.c (.bool false)),none⟩]) (.cond (.p 102) (.skip) (.exit 5))) (.block 6 [0,1,4,7] (.reg [⟨.t 103,.mov (.p 7),none⟩,
 ⟨.t 104,.bin .add (.t 103) (.c (.int .i64 1)),none⟩,⟨.p 7,.mov (.t 104),none⟩]))
def lb_goboref11_word_3 : CCode :=
 .seq (.seq (.reg [⟨.t 117,.mov (.p 1),none⟩,⟨.t 118,.mov (.p 7),none⟩,⟨.t 119,.bin .add (.t 117) (.t 118),none⟩,⟨.t 120,.mov (.p 0),none⟩,⟨.t 121,.lenStr (.t 120),none⟩,⟨.t 122,.bin .lss (.t 119) (.t 121),none⟩,
 ⟨.t 123,.mov (.t 122),none⟩,⟨.t 124,.mov (.p 0),some (.t 123,true)⟩,⟨.t 125,.mov (.p 1),some (.t 123,true)⟩,⟨.t 126,.mov (.p 7),some (.t 123,true)⟩,⟨.t 127,.bin .add (.t 125) (.t 126),some (.t 123,true)⟩,
 ⟨.t 128,.idxStr (.t 124) (.t 127),some (.t 123,true)⟩,⟨.t 129,.bin .neq (.t 128) (.c (.int .u8 47)),some (.t 123,true)⟩,⟨.t 130,.pick (.t 123) (.t 129) (.c (.bool false)),none⟩,⟨.t 131,.mov (.t 130),none⟩,
 ⟨.t 132,.mov (.p 0),some (.t 131,true)⟩,⟨.t 133,.mov (.p 1),some (.t 131,true)⟩,⟨.t 134,.mov (.p 7),some (.t 131,true)⟩,⟨.t 135,.bin .add (.t 133) (.t 134),some (.t 131,true)⟩,⟨.t 136,.idxStr (.t 132) (.t 135),some (.t 131,true)⟩,
 ⟨.t 137,.bin .neq (.t 136) (.c (.int .u8 10)),some (.t 131,true)⟩,⟨.p 138,.pick (.t 131) (.t 137) (.c (.bool false)),none⟩]) (.cond (.p 138) (.skip) (.exit 7))) (.block 8 [0,1,4,7] (.seq (.seq (.reg [⟨.t 139,.mov (.p 0),none⟩,
 ⟨.t 140,.mov (.p 1),none⟩,⟨.t 141,.mov (.p 7),none⟩,⟨.t 142,.bin .add (.t 140) (.t 141),none⟩,⟨.t 143,.idxStr (.t 139) (.t 142),none⟩,⟨.t 144,.bin .eql (.t 143) (.c (.int .u8 92)),none⟩,
 ⟨.t 145,.mov (.t 144),none⟩,⟨.t 146,.mov (.p 1),some (.t 145,true)⟩,⟨.t 147,.mov (.p 7),some (.t 145,true)⟩,⟨.t 148,.bin .add (.t 146) (.t 147),some (.t 145,true)⟩,⟨.t 149,.bin .add (.t 148) (.c (.int .i64 1)),some (.t 145,true)⟩,
 ⟨.t 150,.mov (.p 0),some (.t 145,true)⟩,⟨.t 151,.lenStr (.t 150),some (.t 145,true)⟩,⟨.t 152,.bin .lss (.t 149) (.t 151),some (.t 145,true)⟩,⟨.t 153,.pick (.t 145) (.t 152) (.c (.bool false)),none⟩,
 ⟨.t 154,.mov (.t 153),none⟩,⟨.t 155,.mov (.p 0),some (.t 154,true)⟩,⟨.t 156,.mov (.p 1),some (.t 154,true)⟩,⟨.t 157,.mov (.p 7),some (.t 154,true)⟩,⟨.t 158,.bin .add (.t 156) (.t 157),some (.t 154,true)⟩,
 ⟨.t 159,.bin .add (.t 158) (.c (.int .i64 1)),some (.t 154,true)⟩,⟨.t 160,.idxStr (.t 155) (.t 159),some (.t 154,true)⟩,⟨.t 161,.bin .neq (.t 160) (.c (.int .u8 10)),some (.t 154,true)⟩,
 ⟨.p 162,.pick (.t 154) (.t 161) (.c (.bool false)),none⟩]) (.cond (.p 162) (.reg [⟨.t 163,.mov (.p 7),none⟩,⟨.t 164,.bin .add (.t 163) (.c (.int .i64 1)),none⟩,⟨.p 7,.mov (.t 164),none⟩]) (.skip))) (.reg [⟨.t 165,.mov (.p 7),none⟩,
 ⟨.t 166,.bin .add (.t 165) (.c (.int .i64 1)),none⟩,⟨.p 7,.mov (.t 166),none⟩])))
def lb_goboref11_word_4 : CCode :=
 .seq (.seq (.reg [⟨.t 193,.mov (.p 8),none⟩,⟨.p 194,.bin .lss (.t 193) (.c (.int .i64 12)),none⟩]) (.cond (.p 194) (.skip) (.exit 9))) (.seq (.block 10 [0,1,4,6,8] (.seq (.reg [⟨.t 197,.mov (.p 8),none⟩,
 ⟨.t 198,.idxStr (.c (.str [123,125,40,41,124,42,94,60,62,58,95,61])) (.t 197),none⟩,⟨.t 199,.mov (.p 6),none⟩,⟨.p 200,.bin .eql (.t 198) (.t 199),none⟩]) (.cond (.p 200) (.seq (.reg [⟨.t 201,.mov (.p 0),none⟩,
 ⟨.t 202,.mov (.p 1),none⟩,⟨.t 203,.mov (.p 1),none⟩,⟨.t 204,.bin .add (.t 203) (.c (.int .i64 1)),none⟩,⟨.t 205,.sliceStr (.t 201) (some (.t 202)) (some (.t 204)),none⟩,⟨.t 206,.mov (.p 1),none⟩,
 ⟨.t 207,.build [.int .i64 0,.str [],.int .i64 0] [(0,1,.c (.int .i64 3)),(1,1,.t 205),(2,1,.t 206)],none⟩,⟨.no,.store 3 (.p 4) (.t 207),none⟩,⟨.p 5,.mov (.c (.int .i64 1)),none⟩]) (.ret)) (.skip)))) (.reg [⟨.t 195,.mov (.p 8),none⟩,
 ⟨.t 196,.bin .add (.t 195) (.c (.int .i64 1)),none⟩,⟨.p 8,.mov (.t 196),none⟩]))
def bd_goboref11_word : CCode :=
 .seq (.reg [⟨.p 4,.alloc [.int .i64 0,.str [],.int .i64 0],none⟩,⟨.p 5,.mov (.c (.int .i64 0)),none⟩]) (.seq (.reg [⟨.t 9,.mov (.p 0),none⟩,⟨.t 10,.mov (.p 1),none⟩,⟨.t 11,.idxStr (.t 9) (.t 10),none⟩,
 ⟨.p 6,.mov (.t 11),none⟩]) (.seq (.reg [⟨.p 7,.mov (.c (.int .i64 1)),none⟩]) (.seq (.block 0 [0,1,4,6] (.seq (.reg [⟨.t 13,.mov (.p 6),none⟩,⟨.t 14,.bin .eql (.t 13) (.c (.int .u8 32)),none⟩,
 ⟨.t 15,.mov (.t 14),none⟩,⟨.t 16,.mov (.p 6),some (.t 15,false)⟩,⟨.t 17,.bin .eql (.t 16) (.c (.int .u8 9)),some (.t 15,false)⟩,⟨.t 18,.pick (.t 15) (.c (.bool true)) (.t 17),none⟩,
 ⟨.t 19,.mov (.t 18),none⟩,⟨.t 20,.mov (.p 6),some (.t 19,false)⟩,⟨.t 21,.bin .eql (.t 20) (.c (.int .u8 13)),some (.t 19,false)⟩,⟨.t 22,.pick (.t 19) (.c (.bool true)) (.t 21),none⟩,
 ⟨.p 12,.mov (.t 22),none⟩]) (.cond (.p 12) (.seq (.reg [⟨.t 23,.build [.int .i64 0,.str [],.int .i64 0] [],none⟩,⟨.no,.store 3 (.p 4) (.t 23),none⟩,⟨.p 5,.mov (.c (.int .i64 1)),none⟩]) (.ret)) (.seq (.reg [⟨.t 25,.mov (.p 6),none⟩,
 ⟨.t 26,.bin .eql (.t 25) (.c (.int .u8 10)),none⟩,⟨.p 24,.mov (.t 26),none⟩]) (.cond (.p 24) (.seq (.reg [⟨.t 27,.mov (.p 1),none⟩,⟨.t 28,.build [.int .i64 0,.str [],.int .i64 0] [(0,1,.c (.int .i64 5)),(2,1,.t 27)],none⟩,
 ⟨.no,.store 3 (.p 4) (.t 28),none⟩,⟨.p 5,.mov (.c (.int .i64 1)),none⟩]) (.ret)) (.seq (.reg [⟨.t 30,.mov (.p 6),none⟩,⟨.t 31,.bin .eql (.t 30) (.c (.int .u8 35)),none⟩,⟨.p 29,.mov (.t 31),none⟩]) (.cond (.p 29) (.seq (.block 1 [4,7] (.loop [0,1,4,7] lb_goboref11_word_0)) (.seq (.reg [⟨.t 48,.build [.int .i64 0,.str [],.int .i64 0] [],none⟩,
 ⟨.t 49,.mov (.p 7),none⟩,⟨.no,.store 3 (.p 4) (.t 48),none⟩,⟨.p 5,.mov (.t 49),none⟩]) (.ret))) (.seq (.reg [⟨.t 51,.mov (.p 6),none⟩,⟨.t 52,.call F_goboref11_small [.t 51],none⟩,⟨.p 50,.mov (.t 52),none⟩]) (.cond (.p 50) (.seq (.block 3 [0,1,4,7] (.loop [0,1,4,7] lb_goboref11_word_1)) (.seq (.reg [⟨.t 77,.mov (.p 0),none⟩,
 ⟨.t 78,.mov (.p 1),none⟩,⟨.t 79,.mov (.p 1),none⟩,⟨.t 80,.mov (.p 7),none⟩,⟨.t 81,.bin .add (.t 79) (.t 80),none⟩,⟨.t 82,.sliceStr (.t 77) (some (.t 78)) (some (.t 81)),none⟩,⟨.t 83,.mov (.p 1),none⟩,
 ⟨.t 84,.build [.int .i64 0,.str [],.int .i64 0] [(0,1,.c (.int .i64 1)),(1,1,.t 82),(2,1,.t 83)],none⟩,⟨.t 85,.mov (.p 7),none⟩,⟨.no,.store 3 (.p 4) (.t 84),none⟩,⟨.p 5,.mov (.t 85),none⟩]) (.ret))) (.seq (.reg [⟨.t 87,.mov (.p 6),none⟩,
 ⟨.t 88,.call F_goboref11_digit [.t 87],none⟩,⟨.p 86,.mov (.t 88),none⟩]) (.cond (.p 86) (.seq (.block 5 [0,1,4,7] (.loop [0,1,4,7] lb_goboref11_word_2)) (.seq (.reg [⟨.t 105,.mov (.p 0),none⟩,
 ⟨.t 106,.mov (.p 1),none⟩,⟨.t 107,.mov (.p 1),none⟩,⟨.t 108,.mov (.p 7),none⟩,⟨.t 109,.bin .add (.t 107) (.t 108),none⟩,⟨.t 110,.sliceStr (.t 105) (some (.t 106)) (some (.t 109)),none⟩,
 ⟨.t 111,.mov (.p 1),none⟩,⟨.t 112,.build [.int .i64 0,.str [],.int .i64 0] [(0,1,.c (.int .i64 2)),(1,1,.t 110),(2,1,.t 111)],none⟩,⟨.t 113,.mov (.p 7),none⟩,⟨.no,.store 3 (.p 4) (.t 112),none⟩,
 ⟨.p 5,.mov (.t 113),none⟩]) (.ret))) (.seq (.reg [⟨.t 115,.mov (.p 6),none⟩,⟨.t 116,.bin .eql (.t 115) (.c (.int .u8 47)),none⟩,⟨.p 114,.mov (.t 116),none⟩]) (.cond (.p 114) (.seq (.block 7 [0,1,4,7] (.loop [0,1,4,7] lb_goboref11_word_3)) (.seq (.seq (.reg [⟨.t 167,.mov (.p 1),none⟩,
 ⟨.t 168,.mov (.p 7),none⟩,⟨.t 169,.bin .add (.t 167) (.t 168),none⟩,⟨.t 170,.mov (.p 0),none⟩,⟨.t 171,.lenStr (.t 170),none⟩,⟨.t 172,.bin .geq (.t 169) (.t 171),none⟩,⟨.t 173,.mov (.t 172),none⟩,
 ⟨.t 174,.mov (.p 0),some (.t 173,false)⟩,⟨.t 175,.mov (.p 1),some (.t 173,false)⟩,⟨.t 176,.mov (.p 7),some (.t 173,false)⟩,⟨.t 177,.bin .add (.t 175) (.t 176),some (.t 173,false)⟩,
 ⟨.t 178,.idxStr (.t 174) (.t 177),some (.t 173,false)⟩,⟨.t 179,.bin .neq (.t 178) (.c (.int .u8 47)),some (.t 173,false)⟩,⟨.p 180,.pick (.t 173) (.c (.bool true)) (.t 179),none⟩]) (.cond (.p 180) (.seq (.reg [⟨.t 181,.build [.int .i64 0,.str [],.int .i64 0] [],none⟩,
 ⟨.no,.store 3 (.p 4) (.t 181),none⟩,⟨.p 5,.mov (.c (.int .i64 0)),none⟩]) (.ret)) (.skip))) (.seq (.reg [⟨.t 182,.mov (.p 0),none⟩,⟨.t 183,.mov (.p 1),none⟩,⟨.t 184,.bin .add (.t 183) (.c (.int .i64 1)),none⟩,
 ⟨.t 185,.mov (.p 1),none⟩,⟨.t 186,.mov (.p 7),none⟩,⟨.t 187,.bin .add (.t 185) (.t 186),none⟩,⟨.t 188,.sliceStr (.t 182) (some (.t 184)) (some (.t 187)),none⟩,⟨.t 189,.mov (.p 1),none⟩,
 ⟨.t 190,.build [.int .i64 0,.str [],.int .i64 0] [(0,1,.c (.int .i64 4)),(1,1,.t 188),(2,1,.t 189)],none⟩,⟨.t 191,.mov (.p 7),none⟩,⟨.t 192,.bin .add (.t 191) (.c (.int .i64 1)),none⟩,
 ⟨.no,.store 3 (.p 4) (.t 190),none⟩,⟨.p 5,.mov (.t 192),none⟩]) (.ret)))) (.skip)))))))))))))) (.seq (.seq (.reg [⟨.p 8,.mov (.c (.int .i64 0)),none⟩]) (.block 9 [4] (.loop [0,1,4,6,8] lb_goboref11_word_4))) (.seq (.reg [⟨.t 208,.build [.int .i64 0,.str [],.int .i64 0] [],none⟩,
 ⟨.no,.store 3 (.p 4) (.t 208),none⟩,⟨.p 5,.mov (.c (.int .i64 0)),none⟩]) (.ret))))))
def cf_goboref11_word : CFunc :=
{ nargs := 2,ps := [0,1,4,5,6,7,8,12,24,29,45,50,74,86,102,114,138,162,180,194,200],results := [.cellN 4 3,.slot 5],body := bd_goboref11_word }
def bd_word_Class_1 : CCode :=
 .reg [⟨.t 2,.load1 (.p 0),none⟩,⟨.t 3,.call F_word_Read [.t 2],none⟩,⟨.t 4,.call F_word_Reader_Class [.t 3,.c (.int .i32 (-1))],none⟩,⟨.no,.store 1 (.p 1) (.t 4),none⟩]
def cf_word_Class_1 : CFunc :=
{ nargs := 2,ps := [0,1],results := [],body := bd_word_Class_1 }
def bd_word_Read : CCode :=
 .seq (.reg [⟨.p 2,.mov (.c (.nilp)),none⟩]) (.seq (.reg [⟨.t 3,.mov (.p 0),none⟩,⟨.t 4,.strBytes (.t 3),none⟩,⟨.t 5,.call F_decode_All [.t 4],none⟩,⟨.t 6,.mov (.p 0),none⟩,⟨.t 7,.lenStr (.t 6),none⟩,
 ⟨.t 8,.build [.nils,.int .i64 0,.int .i64 0] [(0,1,.t 5),(2,1,.t 7)],none⟩,⟨.t 9,.box (.t 8),none⟩,⟨.p 2,.mov (.t 9),none⟩]) (.ret))
def cf_word_Read : CFunc :=
{ nargs := 1,ps := [0,2],results := [.slot 2],body := bd_word_Read }
def lb_word_Reader_Class_0 : CCode :=
 .seq (.seq (.reg [⟨.t 11,.mov (.p 5),none⟩,⟨.t 12,.lenSl (.t 11),none⟩,⟨.t 13,.bin .eql (.t 12) (.c (.int .i64 0)),none⟩,⟨.t 14,.mov (.t 13),none⟩,⟨.t 15,.mov (.p 0),some (.t 14,false)⟩,
 ⟨.t 16,.call F_word_Reader_Peek [.t 15],some (.t 14,false)⟩,⟨.t 17,.mov (.p 1),some (.t 14,false)⟩,⟨.t 18,.bin .neq (.t 16) (.t 17),some (.t 14,false)⟩,⟨.p 19,.pick (.t 14) (.c (.bool true)) (.t 18),none⟩]) (.cond (.p 19) (.skip) (.exit 0))) (.block 1 [0,1,5,6] (.seq (.reg [⟨.t 20,.mov (.p 0),none⟩,
 ⟨.t 21,.call F_word_Reader_Rune [.t 20,.c (.bool true)],none⟩,⟨.t 22,.build [.int .i32 0,.int .i32 0] [(0,1,.t 21)],none⟩,⟨.p 7,.alloc [.int .i32 0,.int .i32 0],none⟩,⟨.no,.store 2 (.p 7) (.t 22),none⟩]) (.seq (.reg [⟨.t 23,.fieldAddr 0 (.p 7),none⟩,
 ⟨.t 24,.load1 (.t 23),none⟩,⟨.t 25,.fieldAddr 1 (.p 7),none⟩,⟨.no,.store 1 (.t 25) (.t 24),none⟩]) (.seq (.seq (.reg [⟨.t 26,.mov (.p 0),none⟩,⟨.p 27,.call F_word_Reader_Skip [.t 26,.c (.int .i32 45)],none⟩]) (.cond (.p 27) (.seq (.reg [⟨.t 28,.mov (.p 0),none⟩,
 ⟨.t 29,.call F_word_Reader_At [.t 28],none⟩,⟨.p 8,.mov (.t 29),none⟩]) (.seq (.reg [⟨.t 30,.mov (.p 0),none⟩,⟨.t 31,.call F_word_Reader_Rune [.t 30,.c (.bool true)],none⟩,⟨.t 32,.fieldAddr 1 (.p 7),none⟩,
 ⟨.no,.store 1 (.t 32) (.t 31),none⟩]) (.seq (.reg [⟨.t 33,.fieldAddr 1 (.p 7),none⟩,⟨.t 34,.load1 (.t 33),none⟩,⟨.t 35,.fieldAddr 0 (.p 7),none⟩,⟨.t 36,.load1 (.t 35),none⟩,⟨.p 37,.bin .lss (.t 34) (.t 36),none⟩]) (.cond (.p 37) (.reg [⟨.t 38,.mov (.p 8),none⟩,
 ⟨.t 39,.call F_word_Fail [.c (.int .i64 3),.t 38],none⟩]) (.skip))))) (.skip))) (.reg [⟨.t 40,.mov (.p 5),none⟩,⟨.t 41,.loadN 2 (.p 7),none⟩,⟨.t 42,.lit [.int .i32 0,.int .i32 0] 1 [(0,2,.t 41)],none⟩,
 ⟨.t 43,.append 2 8 (.t 40) (.t 42),none⟩,⟨.p 5,.mov (.t 43),none⟩])))))
def bd_word_Reader_Class : CCode :=
 .seq (.reg [⟨.p 4,.mov (.c (.nils)),none⟩]) (.seq (.reg [⟨.p 5,.mov (.c (.nils)),none⟩]) (.seq (.reg [⟨.t 9,.mov (.p 0),none⟩,⟨.t 10,.call F_word_Reader_Skip [.t 9,.c (.int .i32 94)],none⟩,
 ⟨.p 6,.mov (.t 10),none⟩]) (.seq (.block 0 [0,5,6] (.loop [0,1,5,6] lb_word_Reader_Class_0)) (.seq (.seq (.reg [⟨.t 44,.mov (.p 5),none⟩,⟨.t 45,.call F_runes_Norm [.t 44],none⟩,⟨.p 5,.mov (.t 45),none⟩]) (.seq (.reg [⟨.p 46,.mov (.p 6),none⟩]) (.cond (.p 46) (.reg [⟨.t 47,.mov (.p 5),none⟩,
 ⟨.t 48,.call F_runes_Not [.t 47],none⟩,⟨.p 5,.mov (.t 48),none⟩]) (.skip)))) (.seq (.seq (.reg [⟨.t 49,.mov (.p 5),none⟩,⟨.t 50,.lenSl (.t 49),none⟩,⟨.p 51,.bin .eql (.t 50) (.c (.int .i64 0)),none⟩]) (.cond (.p 51) (.reg [⟨.t 52,.mov (.p 0),none⟩,
 ⟨.t 53,.call F_word_Reader_At [.t 52],none⟩,⟨.t 54,.call F_word_Fail [.c (.int .i64 3),.t 53],none⟩]) (.skip))) (.seq (.reg [⟨.t 55,.mov (.p 5),none⟩,⟨.p 4,.mov (.t 55),none⟩]) (.ret)))))))
def cf_word_Reader_Class : CFunc :=
{ nargs := 2,ps := [0,1,4,5,6,7,8,19,27,37,46,51],results := [.slot 4],body := bd_word_Reader_Class }
def lb_goboref11_E_class_0 : CCode :=
 .seq (.seq (.dreg [⟨⟨.t 12,.mov (.p 0),none⟩,false,false,[]⟩,⟨⟨.t 13,.nilCheck (.t 12),none⟩,false,false,[]⟩,⟨⟨.t 14,.fieldAddr 3 (.t 13),none⟩,false,false,[]⟩,⟨⟨.t 15,.load1 (.t 14),none⟩,false,false,[]⟩,
 ⟨⟨.t 16,.bin .eql (.t 15) (.c (.int .i64 0)),none⟩,false,false,[]⟩,⟨⟨.t 17,.mov (.t 16),none⟩,false,false,[]⟩,⟨⟨.t 18,.mov (.p 6),some (.t 17,true)⟩,false,false,[]⟩,⟨⟨.t 19,.lenSl (.t 18),some (.t 17,true)⟩,false,false,[]⟩,
 ⟨⟨.t 20,.bin .eql (.t 19) (.c (.int .i64 0)),some (.t 17,true)⟩,false,false,[]⟩,⟨⟨.t 21,.mov (.t 20),some (.t 17,true)⟩,false,false,[]⟩,⟨⟨.t 22,.mov (.p 1),some (.t 21,false)⟩,false,false,[]⟩,
 ⟨⟨.t 23,.bin .geq (.t 22) (.c (.int .i32 0)),some (.t 21,false)⟩,false,false,[]⟩,⟨⟨.t 24,.mov (.t 23),some (.t 21,false)⟩,false,false,[]⟩,⟨⟨.t 25,.mov (.p 0),some (.t 24,true)⟩,false,false,[]⟩,
 ⟨⟨.t 26,.call F_goboref11_E_peek [.t 25],some (.t 24,true)⟩,false,false,[]⟩,⟨⟨.t 27,.mov (.p 1),some (.t 24,true)⟩,false,false,[]⟩,⟨⟨.t 28,.bin .neq (.t 26) (.t 27),some (.t 24,true)⟩,false,false,[]⟩,
 ⟨⟨.t 29,.pick (.t 24) (.t 28) (.c (.bool false)),some (.t 21,false)⟩,false,false,[]⟩,⟨⟨.t 30,.pick (.t 21) (.c (.bool true)) (.t 29),some (.t 17,true)⟩,false,false,[]⟩,⟨⟨.t 31,.mov (.t 30),some (.t 17,true)⟩,false,false,[]⟩,
 ⟨⟨.t 32,.mov (.p 1),some (.t 31,false)⟩,false,false,[]⟩,⟨⟨.t 33,.bin .lss (.t 32) (.c (.int .i32 0)),some (.t 31,false)⟩,false,false,[]⟩,⟨⟨.t 34,.mov (.t 33),some (.t 31,false)⟩,false,false,[]⟩,
 ⟨⟨.t 35,.mov (.p 0),some (.t 34,true)⟩,false,false,[]⟩,⟨⟨.t 36,.nilCheck (.t 35),some (.t 34,true)⟩,false,false,[]⟩,⟨⟨.t 37,.fieldAddr 2 (.t 36),some (.t 34,true)⟩,false,false,[]⟩,
 ⟨⟨.t 38,.load1 (.t 37),some (.t 34,true)⟩,false,false,[]⟩,⟨⟨.t 39,.mov (.p 0),some (.t 34,true)⟩,false,false,[]⟩,⟨⟨.t 40,.nilCheck (.t 39),some (.t 34,true)⟩,false,false,[]⟩,⟨⟨.t 41,.fieldAddr 0 (.t 40),some (.t 34,true)⟩,false,false,[]⟩,
 ⟨⟨.t 42,.load1 (.t 41),some (.t 34,true)⟩,false,false,[]⟩,⟨⟨.t 43,.lenSl (.t 42),some (.t 34,true)⟩,false,false,[]⟩,⟨⟨.t 44,.bin .lss (.t 38) (.t 43),some (.t 34,true)⟩,false,false,[]⟩,
 ⟨⟨.t 45,.pick (.t 34) (.t 44) (.c (.bool false)),some (.t 31,false)⟩,false,false,[]⟩,⟨⟨.t 46,.pick (.t 31) (.c (.bool true)) (.t 45),some (.t 17,true)⟩,false,false,[]⟩,⟨⟨.p 47,.pick (.t 17) (.t 46) (.c (.bool false)),none⟩,false,false,[]⟩]) (.cond (.p 47) (.skip) (.exit 0))) (.block 1 [0,1,5,6] (.seq (.reg [⟨.t 48,.mov (.p 0),none⟩,
 ⟨.t 49,.call F_goboref11_E_member [.t 48],none⟩,⟨.p 7,.mov (.t 49),none⟩]) (.seq (.reg [⟨.t 50,.mov (.p 7),none⟩,⟨.p 8,.mov (.t 50),none⟩]) (.seq (.seq (.reg [⟨.t 51,.mov (.p 0),none⟩,
 ⟨.p 52,.call F_goboref11_E_take [.t 51,.c (.int .i32 45)],none⟩]) (.cond (.p 52) (.seq (.reg [⟨.t 53,.mov (.p 0),none⟩,⟨.t 54,.nilCheck (.t 53),none⟩,⟨.t 55,.fieldAddr 2 (.t 54),none⟩,
 ⟨.t 56,.load1 (.t 55),none⟩,⟨.p 9,.mov (.t 56),none⟩]) (.seq (.reg [⟨.t 57,.mov (.p 0),none⟩,⟨.t 58,.call F_goboref11_E_member [.t 57],none⟩,⟨.p 8,.mov (.t 58),none⟩]) (.seq (.reg [⟨.t 59,.mov (.p 0),none⟩,
 ⟨.t 60,.nilCheck (.t 59),none⟩,⟨.t 61,.fieldAddr 3 (.t 60),none⟩,⟨.t 62,.load1 (.t 61),none⟩,⟨.t 63,.bin .eql (.t 62) (.c (.int .i64 0)),none⟩,⟨.t 64,.mov (.t 63),none⟩,⟨.t 65,.mov (.p 8),some (.t 64,true)⟩,
 ⟨.t 66,.mov (.p 7),some (.t 64,true)⟩,⟨.t 67,.bin .lss (.t 65) (.t 66),some (.t 64,true)⟩,⟨.p 68,.pick (.t 64) (.t 67) (.c (.bool false)),none⟩]) (.cond (.p 68) (.seq (.reg [⟨.t 69,.mov (.p 0),none⟩,
 ⟨.t 70,.mov (.p 9),none⟩,⟨.t 71,.nilCheck (.t 69),none⟩,⟨.t 72,.fieldAddr 2 (.t 71),none⟩,⟨.no,.store 1 (.t 72) (.t 70),none⟩]) (.reg [⟨.t 73,.mov (.p 0),none⟩,⟨.t 74,.call F_goboref11_E_fail [.t 73,.c (.int .i64 3)],none⟩])) (.skip))))) (.skip))) (.reg [⟨.t 75,.mov (.p 6),none⟩,
 ⟨.t 76,.mov (.p 7),none⟩,⟨.t 77,.mov (.p 8),none⟩,⟨.t 78,.build [.int .i32 0,.int .i32 0] [(0,1,.t 76),(1,1,.t 77)],none⟩,⟨.t 79,.lit [.int .i32 0,.int .i32 0] 1 [(0,2,.t 78)],none⟩,
 ⟨.t 80,.append 2 8 (.t 75) (.t 79),none⟩,⟨.p 6,.mov (.t 80),none⟩])))))
def bd_goboref11_E_class : CCode :=
 .seq (.reg [⟨.p 4,.mov (.c (.nils)),none⟩]) (.seq (.reg [⟨.t 10,.mov (.p 0),none⟩,⟨.t 11,.call F_goboref11_E_take [.t 10,.c (.int .i32 94)],none⟩,⟨.p 5,.mov (.t 11),none⟩]) (.seq (.reg [⟨.p 6,.mov (.c (.nils)),none⟩]) (.seq (.block 0 [5,6] (.loop [0,1,5,6] lb_goboref11_E_class_0)) (.seq (.seq (.reg [⟨.p 81,.mov (.p 5),none⟩]) (.cond (.p 81) (.seq (.reg [⟨.t 82,.mov (.p 6),none⟩,
 ⟨.t 83,.call F_goboref3_Not [.t 82],none⟩,⟨.p 4,.mov (.t 83),none⟩]) (.ret)) (.skip))) (.seq (.reg [⟨.t 84,.mov (.p 6),none⟩,⟨.t 85,.call F_goboref3_Norm [.t 84],none⟩,⟨.p 4,.mov (.t 85),none⟩]) (.ret))))))
def cf_goboref11_E_class : CFunc :=
{ nargs := 2,ps := [0,1,4,5,6,7,8,9,47,52,68,81],results := [.slot 4],body := bd_goboref11_E_class }
def bd_goboref11_E_fail : CCode :=
 .seq (.reg [⟨.t 4,.mov (.p 0),none⟩,⟨.t 5,.nilCheck (.t 4),none⟩,⟨.t 6,.fieldAddr 3 (.t 5),none⟩,⟨.t 7,.load1 (.t 6),none⟩,⟨.p 8,.bin .eql (.t 7) (.c (.int .i64 0)),none⟩]) (.cond (.p 8) (.seq (.reg [⟨.t 9,.mov (.p 0),none⟩,
 ⟨.t 10,.mov (.p 0),none⟩,⟨.t 11,.mov (.p 1),none⟩,⟨.t 12,.mov (.p 0),none⟩,⟨.t 13,.nilCheck (.t 12),none⟩,⟨.t 14,.fieldAddr 1 (.t 13),none⟩,⟨.t 15,.load1 (.t 14),none⟩,⟨.t 16,.nilCheck (.t 9),none⟩,
 ⟨.t 17,.fieldAddr 3 (.t 16),none⟩,⟨.no,.store 1 (.t 17) (.t 11),none⟩,⟨.t 18,.nilCheck (.t 10),none⟩,⟨.t 19,.fieldAddr 4 (.t 18),none⟩,⟨.no,.store 1 (.t 19) (.t 15),none⟩]) (.seq (.dreg [⟨⟨.t 20,.mov (.p 0),none⟩,false,false,[]⟩,
 ⟨⟨.t 21,.nilCheck (.t 20),none⟩,false,false,[]⟩,⟨⟨.t 22,.fieldAddr 2 (.t 21),none⟩,false,false,[]⟩,⟨⟨.t 23,.load1 (.t 22),none⟩,false,false,[]⟩,⟨⟨.t 24,.mov (.p 0),none⟩,false,false,[]⟩,
 ⟨⟨.t 25,.nilCheck (.t 24),none⟩,false,false,[]⟩,⟨⟨.t 26,.fieldAddr 0 (.t 25),none⟩,false,false,[]⟩,⟨⟨.t 27,.load1 (.t 26),none⟩,false,false,[]⟩,⟨⟨.t 28,.lenSl (.t 27),none⟩,false,false,[]⟩,
 ⟨⟨.p 29,.bin .lss (.t 23) (.t 28),none⟩,false,false,[]⟩]) (.cond (.p 29) (.dreg [⟨⟨.t 30,.mov (.p 0),none⟩,false,false,[]⟩,⟨⟨.t 31,.mov (.p 0),none⟩,false,false,[]⟩,⟨⟨.t 32,.nilCheck (.t 31),none⟩,false,false,[]⟩,
 ⟨⟨.t 33,.fieldAddr 0 (.t 32),none⟩,false,false,[]⟩,⟨⟨.t 34,.load1 (.t 33),none⟩,false,false,[]⟩,⟨⟨.t 35,.mov (.p 0),none⟩,false,false,[]⟩,⟨⟨.t 36,.nilCheck (.t 35),none⟩,false,false,[]⟩,
 ⟨⟨.t 37,.fieldAddr 2 (.t 36),none⟩,false,false,[]⟩,⟨⟨.t 38,.load1 (.t 37),none⟩,false,false,[]⟩,⟨⟨.t 39,.idxAddr 5 (.t 34) (.t 38),none⟩,false,false,[]⟩,⟨⟨.t 40,.fieldAddr 1 (.t 39),none⟩,false,false,[]⟩,
 ⟨⟨.t 41,.load1 (.t 40),none⟩,false,false,[]⟩,⟨⟨.t 42,.nilCheck (.t 30),none⟩,false,false,[]⟩,⟨⟨.t 43,.fieldAddr 4 (.t 42),none⟩,false,false,[]⟩,⟨⟨.no,.store 1 (.t 43) (.t 41),none⟩,false,false,[]⟩]) (.skip)))) (.skip))
def cf_goboref11_E_fail : CFunc :=
{ nargs := 2,ps := [0,1,8,29],results := [],body := bd_goboref11_E_fail }
def bd_word_Caught_1 : CCode :=
 .seq (.reg [⟨.t 4,.recover,none⟩,⟨.p 1,.mov (.t 4),none⟩]) (.seq (.reg [⟨.t 5,.mov (.p 1),none⟩,⟨.p 6,.eqv true .iface (.t 5) (.c (.nili)),none⟩]) (.cond (.p 6) (.seq (.reg [⟨.t 8,.mov (.p 1),none⟩,
 ⟨.t 9,.assert T_word_Fault (some (.agg [.int .i64 0,.int .i64 0])) (.t 8),none⟩,⟨.t 7,.mov (.t 9),none⟩,⟨.t 10,.extract (.t 7) 0,none⟩,⟨.t 11,.extract (.t 7) 1,none⟩,⟨.p 2,.alloc [.int .i64 0,.int .i64 0],none⟩,
 ⟨.no,.store 2 (.p 2) (.t 10),none⟩,⟨.p 3,.mov (.t 11),none⟩]) (.seq (.seq (.reg [⟨.t 12,.mov (.p 3),none⟩,⟨.p 13,.un .not (.t 12),none⟩]) (.cond (.p 13) (.reg [⟨.t 14,.mov (.p 1),none⟩,
 ⟨.no,.panic (.t 14),none⟩]) (.skip))) (.reg [⟨.t 15,.loadN 2 (.p 2),none⟩,⟨.no,.store 2 (.p 0) (.t 15),none⟩]))) (.skip)))
def cf_word_Caught_1 : CFunc :=
{ nargs := 1,ps := [0,1,2,3,6,13],results := [],body := bd_word_Caught_1 }
def lb_word_run_0 : CCode :=
 .seq (.seq (.reg [⟨.t 7,.mov (.p 1),none⟩,⟨.t 8,.mov (.p 0),none⟩,⟨.t 9,.lenStr (.t 8),none⟩,⟨.t 10,.bin .lss (.t 7) (.t 9),none⟩,⟨.t 11,.mov (.t 10),none⟩,⟨.t 12,.mov (.p 2),some (.t 11,true)⟩,
 ⟨.t 13,.mov (.p 0),some (.t 11,true)⟩,⟨.t 14,.mov (.p 1),some (.t 11,true)⟩,⟨.t 15,.idxStr (.t 13) (.t 14),some (.t 11,true)⟩,⟨.t 16,.callV (.t 12) [.t 15],some (.t 11,true)⟩,⟨.p 17,.pick (.t 11) (.t 16) (.c (.bool false)),none⟩]) (.cond (.p 17) (.skip) (.exit 0))) (.block 1 [0,1,2] (.reg [⟨.t 18,.mov (.p 1),none⟩,
 ⟨.t 19,.bin .add (.t 18) (.c (.int .i64 1)),none⟩,⟨.p 1,.mov (.t 19),none⟩]))
def bd_word_run : CCode :=
 .seq (.reg [⟨.p 6,.mov (.c (.int .i64 0)),none⟩]) (.seq (.block 0 [1] (.loop [0,1,2] lb_word_run_0)) (.seq (.reg [⟨.t 20,.mov (.p 1),none⟩,⟨.p 6,.mov (.t 20),none⟩]) (.ret)))
def cf_word_run : CFunc :=
{ nargs := 3,ps := [0,1,2,6,17],results := [.slot 6],body := bd_word_run }
def bd_word_words_1 : CCode :=
 .seq (.reg [⟨.p 2,.mov (.c (.bool false)),none⟩]) (.seq (.reg [⟨.t 3,.mov (.p 0),none⟩,⟨.t 4,.bin .neq (.t 3) (.c (.int .u8 10)),none⟩,⟨.p 2,.mov (.t 4),none⟩]) (.ret))
def cf_word_words_1 : CFunc :=
{ nargs := 1,ps := [0,2],results := [.slot 2],body := bd_word_words_1 }
def bd_word_letter : CCode :=
 .seq (.reg [⟨.p 2,.mov (.c (.bool false)),none⟩]) (.seq (.reg [⟨.t 3,.mov (.p 0),none⟩,⟨.t 4,.bin .geq (.t 3) (.c (.int .u8 97)),none⟩,⟨.t 5,.mov (.t 4),none⟩,⟨.t 6,.mov (.p 0),some (.t 5,true)⟩,
 ⟨.t 7,.bin .leq (.t 6) (.c (.int .u8 122)),some (.t 5,true)⟩,⟨.t 8,.pick (.t 5) (.t 7) (.c (.bool false)),none⟩,⟨.p 2,.mov (.t 8),none⟩]) (.ret))
def cf_word_letter : CFunc :=
{ nargs := 1,ps := [0,2],results := [.slot 2],body := bd_word_letter }
def bd_word_words_2 : CCode :=
 .seq (.reg [⟨.p 2,.mov (.c (.bool false)),none⟩]) (.seq (.reg [⟨.t 3,.mov (.p 0),none⟩,⟨.t 4,.call F_word_letter [.t 3],none⟩,⟨.t 5,.mov (.t 4),none⟩,⟨.t 6,.mov (.p 0),some (.t 5,false)⟩,
 ⟨.t 7,.call F_word_digit [.t 6],some (.t 5,false)⟩,⟨.t 8,.pick (.t 5) (.c (.bool true)) (.t 7),none⟩,⟨.p 2,.mov (.t 8),none⟩]) (.ret))
def cf_word_words_2 : CFunc :=
{ nargs := 1,ps := [0,2],results := [.slot 2],body := bd_word_words_2 }
def bd_word_digit : CCode :=
 .seq (.reg [⟨.p 2,.mov (.c (.bool false)),none⟩]) (.seq (.reg [⟨.t 3,.mov (.p 0),none⟩,⟨.t 4,.bin .geq (.t 3) (.c (.int .u8 48)),none⟩,⟨.t 5,.mov (.t 4),none⟩,⟨.t 6,.mov (.p 0),some (.t 5,true)⟩,
 ⟨.t 7,.bin .leq (.t 6) (.c (.int .u8 57)),some (.t 5,true)⟩,⟨.t 8,.pick (.t 5) (.t 7) (.c (.bool false)),none⟩,⟨.p 2,.mov (.t 8),none⟩]) (.ret))
def cf_word_digit : CFunc :=
{ nargs := 1,ps := [0,2],results := [.slot 2],body := bd_word_digit }
def bd_strings_IndexByte : CCode :=
 .seq (.reg [⟨.p 4,.mov (.c (.int .i64 0)),none⟩]) (.seq (.reg [⟨.t 5,.mov (.p 0),none⟩,⟨.t 6,.mov (.p 1),none⟩,⟨.t 7,.call F_stringslite_IndexByte [.t 5,.t 6],none⟩,⟨.p 4,.mov (.t 7),none⟩]) (.ret))
def cf_strings_IndexByte : CFunc :=
{ nargs := 2,ps := [0,1,4],results := [.slot 4],body := bd_strings_IndexByte }
def lb_word_closed_0 : CCode :=
 .seq (.seq (.reg [⟨.t 8,.mov (.p 5),none⟩,⟨.t 9,.mov (.p 0),none⟩,⟨.t 10,.lenStr (.t 9),none⟩,⟨.t 11,.bin .lss (.t 8) (.t 10),none⟩,⟨.t 12,.mov (.t 11),none⟩,⟨.t 13,.mov (.p 0),some (.t 12,true)⟩,
 ⟨.t 14,.mov (.p 5),some (.t 12,true)⟩,⟨.t 15,.idxStr (.t 13) (.t 14),some (.t 12,true)⟩,⟨.t 16,.bin .neq (.t 15) (.c (.int .u8 10)),some (.t 12,true)⟩,⟨.p 17,.pick (.t 12) (.t 16) (.c (.bool false)),none⟩]) (.cond (.p 17) (.skip) (.exit 0))) (.seq (.block 1 [0,1,5] (.seq (.reg [⟨.t 20,.mov (.p 0),none⟩,
 ⟨.t 21,.mov (.p 5),none⟩,⟨.p 22,.idxStr (.t 20) (.t 21),none⟩]) (.block 2 [0,1,5] (.seq (.reg [⟨.t 24,.bin .eql (.p 22) (.c (.int .u8 47)),none⟩,⟨.p 23,.mov (.t 24),none⟩]) (.cond (.p 23) (.seq (.reg [⟨.t 25,.mov (.p 5),none⟩,
 ⟨.p 4,.mov (.t 25),none⟩]) (.ret)) (.seq (.reg [⟨.t 27,.bin .eql (.p 22) (.c (.int .u8 92)),none⟩,⟨.p 26,.mov (.t 27),none⟩]) (.cond (.p 26) (.seq (.reg [⟨.t 28,.mov (.p 5),none⟩,⟨.t 29,.bin .add (.t 28) (.c (.int .i64 1)),none⟩,
 ⟨.p 5,.mov (.t 29),none⟩]) (.seq (.reg [⟨.t 30,.mov (.p 5),none⟩,⟨.t 31,.mov (.p 0),none⟩,⟨.t 32,.lenStr (.t 31),none⟩,⟨.t 33,.bin .eql (.t 30) (.t 32),none⟩,⟨.t 34,.mov (.t 33),none⟩,
 ⟨.t 35,.mov (.p 0),some (.t 34,false)⟩,⟨.t 36,.mov (.p 5),some (.t 34,false)⟩,⟨.t 37,.idxStr (.t 35) (.t 36),some (.t 34,false)⟩,⟨.t 38,.bin .eql (.t 37) (.c (.int .u8 10)),some (.t 34,false)⟩,
 ⟨.p 39,.pick (.t 34) (.c (.bool true)) (.t 38),none⟩]) (.cond (.p 39) (.reg [⟨.t 40,.mov (.p 1),none⟩,⟨.t 41,.call F_word_Fail [.c (.int .i64 2),.t 40],none⟩]) (.skip)))) (.skip)))))))) (.reg [⟨.t 18,.mov (.p 5),none⟩,
 ⟨.t 19,.bin .add (.t 18) (.c (.int .i64 1)),none⟩,⟨.p 5,.mov (.t 19),none⟩]))
def bd_word_closed : CCode :=
 .seq (.reg [⟨.p 4,.mov (.c (.int .i64 0)),none⟩]) (.seq (.seq (.reg [⟨.t 6,.mov (.p 1),none⟩,⟨.t 7,.bin .add (.t 6) (.c (.int .i64 1)),none⟩,⟨.p 5,.mov (.t 7),none⟩]) (.block 0 [1] (.loop [0,1,5] lb_word_closed_0))) (.seq (.reg [⟨.t 42,.mov (.p 1),none⟩,
 ⟨.t 43,.call F_word_Fail [.c (.int .i64 2),.t 42],none⟩]) (.seq (.reg [⟨.p 4,.mov (.c (.int .i64 0)),none⟩]) (.ret))))
def cf_word_closed : CFunc :=
{ nargs := 2,ps := [0,1,4,5,17,22,23,26,39],results := [.slot 4],body := bd_word_closed }
def bd_word_Fail : CCode :=
 .reg [⟨.t 4,.mov (.p 0),none⟩,⟨.t 5,.mov (.p 1),none⟩,⟨.t 6,.build [.int .i64 0,.int .i64 0] [(0,1,.t 4),(1,1,.t 5)],none⟩,⟨.t 7,.mkIface T_word_Fault (.t 6),none⟩,⟨.no,.panic (.t 7),none⟩]
def cf_word_Fail : CFunc :=
{ nargs := 2,ps := [0,1],results := [],body := bd_word_Fail }
def bd_decode_New : CCode :=
 .seq (.reg [⟨.p 0,.mov (.c (.nilp)),none⟩]) (.seq (.reg [⟨.t 1,.build [.nils,.int .i64 0,.bool false,.nils] [],none⟩,⟨.t 2,.box (.t 1),none⟩,⟨.p 0,.mov (.t 2),none⟩]) (.ret))
def cf_decode_New : CFunc :=
{ nargs := 0,ps := [0],results := [.slot 0],body := bd_decode_New }
def lb_decode_Dec_Feed_0 : CCode :=
 .seq (.reg [⟨.p 18,.bin .lss (.p 17) (.p 16),none⟩]) (.seq (.cond (.p 18) (.skip) (.exit 0)) (.seq (.block 1 [0,15,16,17] (.seq (.reg [⟨.t 19,.idxAddr 1 (.p 15) (.p 17),none⟩,⟨.t 20,.load1 (.t 19),none⟩,
 ⟨.p 6,.mov (.t 20),none⟩]) (.reg [⟨.t 21,.mov (.p 0),none⟩,⟨.t 22,.mov (.p 6),none⟩,⟨.t 23,.call F_decode_Dec_take [.t 21,.t 22],none⟩]))) (.reg [⟨.t 24,.bin .add (.p 17) (.c (.int .i64 1)),none⟩,
 ⟨.p 17,.mov (.t 24),none⟩])))
def bd_decode_Dec_Feed : CCode :=
 .seq (.reg [⟨.p 4,.mov (.c (.nils)),none⟩]) (.seq (.seq (.reg [⟨.t 7,.mov (.p 0),none⟩,⟨.t 8,.eqv false .ptr (.t 7) (.c (.nilp)),none⟩,⟨.t 9,.mov (.t 8),none⟩,⟨.t 10,.mov (.p 0),some (.t 9,false)⟩,
 ⟨.t 11,.nilCheck (.t 10),some (.t 9,false)⟩,⟨.t 12,.fieldAddr 2 (.t 11),some (.t 9,false)⟩,⟨.t 13,.load1 (.t 12),some (.t 9,false)⟩,⟨.p 14,.pick (.t 9) (.c (.bool true)) (.t 13),none⟩]) (.cond (.p 14) (.seq (.reg [⟨.p 4,.mov (.c (.nils)),none⟩]) (.ret)) (.skip))) (.seq (.seq (.reg [⟨.p 15,.mov (.p 1),none⟩,
 ⟨.p 16,.lenSl (.p 15),none⟩,⟨.p 17,.mov (.c (.int .i64 0)),none⟩]) (.block 0 [0] (.loop [0,15,16,17] lb_decode_Dec_Feed_0))) (.seq (.reg [⟨.t 25,.mov (.p 0),none⟩,⟨.t 26,.call F_decode_Dec_taken [.t 25],none⟩,
 ⟨.p 4,.mov (.t 26),none⟩]) (.ret))))
def cf_decode_Dec_Feed : CFunc :=
{ nargs := 2,ps := [0,1,4,6,14,15,16,17,18],results := [.slot 4],body := bd_decode_Dec_Feed }
def bd_decode_Dec_Close : CCode :=
 .seq (.reg [⟨.p 2,.mov (.c (.nils)),none⟩]) (.seq (.seq (.reg [⟨.t 3,.mov (.p 0),none⟩,⟨.t 4,.eqv false .ptr (.t 3) (.c (.nilp)),none⟩,⟨.t 5,.mov (.t 4),none⟩,⟨.t 6,.mov (.p 0),some (.t 5,false)⟩,
 ⟨.t 7,.nilCheck (.t 6),some (.t 5,false)⟩,⟨.t 8,.fieldAddr 2 (.t 7),some (.t 5,false)⟩,⟨.t 9,.load1 (.t 8),some (.t 5,false)⟩,⟨.p 10,.pick (.t 5) (.c (.bool true)) (.t 9),none⟩]) (.cond (.p 10) (.seq (.reg [⟨.p 2,.mov (.c (.nils)),none⟩]) (.ret)) (.skip))) (.seq (.seq (.reg [⟨.t 11,.mov (.p 0),none⟩,
 ⟨.t 12,.nilCheck (.t 11),none⟩,⟨.t 13,.fieldAddr 2 (.t 12),none⟩,⟨.no,.store 1 (.t 13) (.c (.bool true)),none⟩]) (.seq (.reg [⟨.t 14,.mov (.p 0),none⟩,⟨.t 15,.nilCheck (.t 14),none⟩,
 ⟨.t 16,.fieldAddr 0 (.t 15),none⟩,⟨.t 17,.load1 (.t 16),none⟩,⟨.t 18,.lenSl (.t 17),none⟩,⟨.p 19,.bin .gtr (.t 18) (.c (.int .i64 0)),none⟩]) (.cond (.p 19) (.reg [⟨.t 20,.mov (.p 0),none⟩,
 ⟨.t 21,.call F_decode_Dec_tell [.t 20,.c (.bool true),.c (.bool true)],none⟩]) (.skip)))) (.seq (.reg [⟨.t 22,.mov (.p 0),none⟩,⟨.t 23,.call F_decode_Dec_taken [.t 22],none⟩,⟨.p 2,.mov (.t 23),none⟩]) (.ret))))
def cf_decode_Dec_Close : CFunc :=
{ nargs := 1,ps := [0,2,10,19],results := [.slot 2],body := bd_decode_Dec_Close }
def lb_goboref3_items_0 : CCode :=
 .seq (.seq (.reg [⟨.t 9,.mov (.p 6),none⟩,⟨.t 10,.mov (.p 0),none⟩,⟨.t 11,.lenStr (.t 10),none⟩,⟨.p 12,.bin .lss (.t 9) (.t 11),none⟩]) (.cond (.p 12) (.skip) (.exit 0))) (.block 1 [0,1,5,6] (.seq (.reg [⟨.t 14,.mov (.p 0),none⟩,
 ⟨.t 15,.mov (.p 6),none⟩,⟨.t 16,.call F_goboref3_One [.t 14,.t 15],none⟩,⟨.t 13,.mov (.t 16),none⟩,⟨.t 17,.extract (.t 13) 0,none⟩,⟨.t 18,.extract (.t 13) 1,none⟩,⟨.p 7,.alloc [.int .i32 0,.int .i64 0,.int .i64 0,.bool false,.bool false],none⟩,
 ⟨.no,.store 5 (.p 7) (.t 17),none⟩,⟨.p 8,.mov (.t 18),none⟩]) (.seq (.seq (.reg [⟨.t 19,.mov (.p 8),none⟩,⟨.t 20,.un .not (.t 19),none⟩,⟨.t 21,.mov (.t 20),none⟩,⟨.t 22,.mov (.p 1),some (.t 21,true)⟩,
 ⟨.t 23,.un .not (.t 22),some (.t 21,true)⟩,⟨.p 24,.pick (.t 21) (.t 23) (.c (.bool false)),none⟩]) (.cond (.p 24) (.exit 0) (.skip))) (.seq (.reg [⟨.t 25,.mov (.p 5),none⟩,⟨.t 26,.loadN 5 (.p 7),none⟩,
 ⟨.t 27,.lit [.int .i32 0,.int .i64 0,.int .i64 0,.bool false,.bool false] 1 [(0,5,.t 26)],none⟩,⟨.t 28,.append 5 32 (.t 25) (.t 27),none⟩,⟨.p 5,.mov (.t 28),none⟩]) (.reg [⟨.t 29,.fieldAddr 2 (.p 7),none⟩,
 ⟨.t 30,.load1 (.t 29),none⟩,⟨.p 6,.mov (.t 30),none⟩])))))
def bd_goboref3_items : CCode :=
 .seq (.reg [⟨.p 4,.mov (.c (.nils)),none⟩]) (.seq (.reg [⟨.p 5,.mov (.c (.nils)),none⟩]) (.seq (.seq (.reg [⟨.p 6,.mov (.c (.int .i64 0)),none⟩]) (.block 0 [5] (.loop [0,1,5,6] lb_goboref3_items_0))) (.seq (.reg [⟨.t 31,.mov (.p 5),none⟩,
 ⟨.p 4,.mov (.t 31),none⟩]) (.ret))))
def cf_goboref3_items : CFunc :=
{ nargs := 2,ps := [0,1,4,5,6,7,8,12,24],results := [.slot 4],body := bd_goboref3_items }
def bd_goboref11_small : CCode :=
 .seq (.reg [⟨.p 2,.mov (.c (.bool false)),none⟩]) (.seq (.reg [⟨.t 3,.mov (.p 0),none⟩,⟨.t 4,.bin .geq (.t 3) (.c (.int .u8 97)),none⟩,⟨.t 5,.mov (.t 4),none⟩,⟨.t 6,.mov (.p 0),some (.t 5,true)⟩,
 ⟨.t 7,.bin .leq (.t 6) (.c (.int .u8 122)),some (.t 5,true)⟩,⟨.t 8,.pick (.t 5) (.t 7) (.c (.bool false)),none⟩,⟨.p 2,.mov (.t 8),none⟩]) (.ret))
def cf_goboref11_small : CFunc :=
{ nargs := 1,ps := [0,2],results := [.slot 2],body := bd_goboref11_small }
def bd_goboref11_digit : CCode :=
 .seq (.reg [⟨.p 2,.mov (.c (.bool false)),none⟩]) (.seq (.reg [⟨.t 3,.mov (.p 0),none⟩,⟨.t 4,.bin .geq (.t 3) (.c (.int .u8 48)),none⟩,⟨.t 5,.mov (.t 4),none⟩,⟨.t 6,.mov (.p 0),some (.t 5,true)⟩,
 ⟨.t 7,.bin .leq (.t 6) (.c (.int .u8 57)),some (.t 5,true)⟩,⟨.t 8,.pick (.t 5) (.t 7) (.c (.bool false)),none⟩,⟨.p 2,.mov (.t 8),none⟩]) (.ret))
def cf_goboref11_digit : CFunc :=
{ nargs := 1,ps := [0,2],results := [.slot 2],body := bd_goboref11_digit }
def bd_word_Reader_Skip : CCode :=
 .seq (.reg [⟨.p 4,.mov (.c (.bool false)),none⟩]) (.seq (.seq (.reg [⟨.t 5,.mov (.p 0),none⟩,⟨.t 6,.call F_word_Reader_Peek [.t 5],none⟩,⟨.t 7,.mov (.p 1),none⟩,⟨.p 8,.bin .neq (.t 6) (.t 7),none⟩]) (.cond (.p 8) (.seq (.reg [⟨.p 4,.mov (.c (.bool false)),none⟩]) (.ret)) (.skip))) (.seq (.reg [⟨.t 9,.mov (.p 0),none⟩,
 ⟨.t 10,.nilCheck (.t 9),none⟩,⟨.t 11,.fieldAddr 1 (.t 10),none⟩,⟨.t 12,.load1 (.t 11),none⟩,⟨.t 13,.bin .add (.t 12) (.c (.int .i64 1)),none⟩,⟨.t 14,.nilCheck (.t 9),none⟩,⟨.t 15,.fieldAddr 1 (.t 14),none⟩,
 ⟨.no,.store 1 (.t 15) (.t 13),none⟩]) (.seq (.reg [⟨.p 4,.mov (.c (.bool true)),none⟩]) (.ret))))
def cf_word_Reader_Skip : CFunc :=
{ nargs := 2,ps := [0,1,4,8],results := [.slot 4],body := bd_word_Reader_Skip }
def bd_word_Reader_Peek : CCode :=
 .seq (.reg [⟨.p 2,.mov (.c (.int .i32 0)),none⟩]) (.seq (.block 0 [0] (.seq (.dreg [⟨⟨.t 4,.mov (.p 0),none⟩,false,false,[]⟩,⟨⟨.t 5,.nilCheck (.t 4),none⟩,false,false,[]⟩,⟨⟨.t 6,.fieldAddr 1 (.t 5),none⟩,false,false,[]⟩,
 ⟨⟨.t 7,.load1 (.t 6),none⟩,false,false,[]⟩,⟨⟨.t 8,.mov (.p 0),none⟩,false,false,[]⟩,⟨⟨.t 9,.nilCheck (.t 8),none⟩,false,false,[]⟩,⟨⟨.t 10,.fieldAddr 0 (.t 9),none⟩,false,false,[]⟩,
 ⟨⟨.t 11,.load1 (.t 10),none⟩,false,false,[]⟩,⟨⟨.t 12,.lenSl (.t 11),none⟩,false,false,[]⟩,⟨⟨.t 13,.bin .eql (.t 7) (.t 12),none⟩,false,false,[]⟩,⟨⟨.p 3,.mov (.t 13),none⟩,false,false,[]⟩]) (.cond (.p 3) (.seq (.reg [⟨.p 2,.mov (.c (.int .i32 (-1))),none⟩]) (.ret)) (.seq (.dreg [⟨⟨.t 15,.mov (.p 0),none⟩,false,false,[]⟩,
 ⟨⟨.t 16,.nilCheck (.t 15),none⟩,false,false,[]⟩,⟨⟨.t 17,.fieldAddr 0 (.t 16),none⟩,false,false,[]⟩,⟨⟨.t 18,.load1 (.t 17),none⟩,false,false,[]⟩,⟨⟨.t 19,.mov (.p 0),none⟩,false,false,[]⟩,
 ⟨⟨.t 20,.nilCheck (.t 19),none⟩,false,false,[]⟩,⟨⟨.t 21,.fieldAddr 1 (.t 20),none⟩,false,false,[]⟩,⟨⟨.t 22,.load1 (.t 21),none⟩,false,false,[]⟩,⟨⟨.t 23,.idxAddr 5 (.t 18) (.t 22),none⟩,false,false,[]⟩,
 ⟨⟨.t 24,.fieldAddr 3 (.t 23),none⟩,false,false,[]⟩,⟨⟨.t 25,.load1 (.t 24),none⟩,false,false,[]⟩,⟨⟨.p 14,.mov (.t 25),none⟩,false,false,[]⟩]) (.cond (.p 14) (.seq (.reg [⟨.p 2,.mov (.c (.int .i32 (-2))),none⟩]) (.ret)) (.skip)))))) (.seq (.dreg [⟨⟨.t 26,.mov (.p 0),none⟩,false,false,[]⟩,
 ⟨⟨.t 27,.nilCheck (.t 26),none⟩,false,false,[]⟩,⟨⟨.t 28,.fieldAddr 0 (.t 27),none⟩,false,false,[]⟩,⟨⟨.t 29,.load1 (.t 28),none⟩,false,false,[]⟩,⟨⟨.t 30,.mov (.p 0),none⟩,false,false,[]⟩,
 ⟨⟨.t 31,.nilCheck (.t 30),none⟩,false,false,[]⟩,⟨⟨.t 32,.fieldAddr 1 (.t 31),none⟩,false,false,[]⟩,⟨⟨.t 33,.load1 (.t 32),none⟩,false,false,[]⟩,⟨⟨.t 34,.idxAddr 5 (.t 29) (.t 33),none⟩,false,false,[]⟩,
 ⟨⟨.t 35,.fieldAddr 0 (.t 34),none⟩,false,false,[]⟩,⟨⟨.t 36,.load1 (.t 35),none⟩,false,false,[]⟩,⟨⟨.p 2,.mov (.t 36),none⟩,false,false,[]⟩]) (.ret)))
def cf_word_Reader_Peek : CFunc :=
{ nargs := 1,ps := [0,2,3,14],results := [.slot 2],body := bd_word_Reader_Peek }
def bd_word_Reader_Rune : CCode :=
 .seq (.reg [⟨.p 4,.mov (.c (.int .i32 0)),none⟩]) (.seq (.reg [⟨.t 7,.mov (.p 0),none⟩,⟨.t 8,.call F_word_Reader_Peek [.t 7],none⟩,⟨.p 5,.mov (.t 8),none⟩]) (.seq (.reg [⟨.p 6,.mov (.c (.str [47,124,42,40,41,91,93,46])),none⟩]) (.seq (.seq (.reg [⟨.p 9,.mov (.p 1),none⟩]) (.cond (.p 9) (.reg [⟨.p 6,.mov (.c (.str [47,124,42,40,41,91,93,45])),none⟩]) (.skip))) (.seq (.seq (.reg [⟨.t 10,.mov (.p 5),none⟩,
 ⟨.t 11,.bin .lss (.t 10) (.c (.int .i32 32)),none⟩,⟨.t 12,.mov (.t 11),none⟩,⟨.t 13,.mov (.p 6),some (.t 12,false)⟩,⟨.t 14,.mov (.p 5),some (.t 12,false)⟩,⟨.t 15,.call F_word_hasRune [.t 13,.t 14],some (.t 12,false)⟩,
 ⟨.p 16,.pick (.t 12) (.c (.bool true)) (.t 15),none⟩]) (.cond (.p 16) (.reg [⟨.t 17,.mov (.p 0),none⟩,⟨.t 18,.call F_word_Reader_At [.t 17],none⟩,⟨.t 19,.call F_word_Fail [.c (.int .i64 3),.t 18],none⟩]) (.skip))) (.seq (.seq (.reg [⟨.t 20,.mov (.p 0),none⟩,
 ⟨.t 21,.nilCheck (.t 20),none⟩,⟨.t 22,.fieldAddr 1 (.t 21),none⟩,⟨.t 23,.load1 (.t 22),none⟩,⟨.t 24,.bin .add (.t 23) (.c (.int .i64 1)),none⟩,⟨.t 25,.nilCheck (.t 20),none⟩,⟨.t 26,.fieldAddr 1 (.t 25),none⟩,
 ⟨.no,.store 1 (.t 26) (.t 24),none⟩]) (.seq (.reg [⟨.t 27,.mov (.p 5),none⟩,⟨.p 28,.bin .neq (.t 27) (.c (.int .i32 92)),none⟩]) (.cond (.p 28) (.seq (.reg [⟨.t 29,.mov (.p 5),none⟩,
 ⟨.p 4,.mov (.t 29),none⟩]) (.ret)) (.skip)))) (.seq (.reg [⟨.t 30,.mov (.p 0),none⟩,⟨.t 31,.call F_word_Reader_Peek [.t 30],none⟩,⟨.p 5,.mov (.t 31),none⟩]) (.seq (.block 0 [0,5] (.seq (.reg [⟨.t 33,.mov (.p 0),none⟩,
 ⟨.t 34,.call F_word_Reader_Skip [.t 33,.c (.int .i32 110)],none⟩,⟨.p 32,.mov (.t 34),none⟩]) (.cond (.p 32) (.seq (.reg [⟨.p 4,.mov (.c (.int .i32 10)),none⟩]) (.ret)) (.seq (.reg [⟨.t 36,.mov (.p 0),none⟩,
 ⟨.t 37,.call F_word_Reader_Skip [.t 36,.c (.int .i32 114)],none⟩,⟨.p 35,.mov (.t 37),none⟩]) (.cond (.p 35) (.seq (.reg [⟨.p 4,.mov (.c (.int .i32 13)),none⟩]) (.ret)) (.seq (.reg [⟨.t 39,.mov (.p 0),none⟩,
 ⟨.t 40,.call F_word_Reader_Skip [.t 39,.c (.int .i32 116)],none⟩,⟨.p 38,.mov (.t 40),none⟩]) (.cond (.p 38) (.seq (.reg [⟨.p 4,.mov (.c (.int .i32 9)),none⟩]) (.ret)) (.seq (.reg [⟨.t 42,.mov (.p 0),none⟩,
 ⟨.t 43,.call F_word_Reader_Skip [.t 42,.c (.int .i32 117)],none⟩,⟨.p 41,.mov (.t 43),none⟩]) (.cond (.p 41) (.seq (.reg [⟨.t 44,.mov (.p 0),none⟩,⟨.t 45,.call F_word_Reader_number [.t 44],none⟩,
 ⟨.p 4,.mov (.t 45),none⟩]) (.ret)) (.seq (.reg [⟨.t 47,.mov (.p 5),none⟩,⟨.t 48,.bin .lss (.t 47) (.c (.int .i32 0)),none⟩,⟨.t 49,.mov (.t 48),none⟩,⟨.t 50,.mov (.p 5),some (.t 49,false)⟩,
 ⟨.t 51,.call F_word_hasRune [.c (.str [47,124,42,40,41,91,93,92,46,45,94,123,125]),.t 50],some (.t 49,false)⟩,⟨.t 52,.un .not (.t 51),some (.t 49,false)⟩,⟨.t 53,.pick (.t 49) (.c (.bool true)) (.t 52),none⟩,
 ⟨.p 46,.mov (.t 53),none⟩]) (.cond (.p 46) (.reg [⟨.t 54,.mov (.p 0),none⟩,⟨.t 55,.call F_word_Reader_At [.t 54],none⟩,⟨.t 56,.call F_word_Fail [.c (.int .i64 3),.t 55],none⟩]) (.skip)))))))))))) (.seq (.reg [⟨.t 57,.mov (.p 0),none⟩,
 ⟨.t 58,.nilCheck (.t 57),none⟩,⟨.t 59,.fieldAddr 1 (.t 58),none⟩,⟨.t 60,.load1 (.t 59),none⟩,⟨.t 61,.bin .add (.t 60) (.c (.int .i64 1)),none⟩,⟨.t 62,.nilCheck (.t 57),none⟩,⟨.t 63,.fieldAddr 1 (.t 62),none⟩,
 ⟨.no,.store 1 (.t 63) (.t 61),none⟩]) (.seq (.reg [⟨.t 64,.mov (.p 5),none⟩,⟨.p 4,.mov (.t 64),none⟩]) (.ret))))))))))
def cf_word_Reader_Rune : CFunc :=
{ nargs := 2,ps := [0,1,4,5,6,9,16,28,32,35,38,41,46],results := [.slot 4],body := bd_word_Reader_Rune }
def bd_word_Reader_At : CCode :=
 .seq (.reg [⟨.p 2,.mov (.c (.int .i64 0)),none⟩]) (.seq (.seq (.dreg [⟨⟨.t 3,.mov (.p 0),none⟩,false,false,[]⟩,⟨⟨.t 4,.nilCheck (.t 3),none⟩,false,false,[]⟩,⟨⟨.t 5,.fieldAddr 1 (.t 4),none⟩,false,false,[]⟩,
 ⟨⟨.t 6,.load1 (.t 5),none⟩,false,false,[]⟩,⟨⟨.t 7,.mov (.p 0),none⟩,false,false,[]⟩,⟨⟨.t 8,.nilCheck (.t 7),none⟩,false,false,[]⟩,⟨⟨.t 9,.fieldAddr 0 (.t 8),none⟩,false,false,[]⟩,⟨⟨.t 10,.load1 (.t 9),none⟩,false,false,[]⟩,
 ⟨⟨.t 11,.lenSl (.t 10),none⟩,false,false,[]⟩,⟨⟨.p 12,.bin .eql (.t 6) (.t 11),none⟩,false,false,[]⟩]) (.cond (.p 12) (.seq (.reg [⟨.t 13,.mov (.p 0),none⟩,⟨.t 14,.nilCheck (.t 13),none⟩,
 ⟨.t 15,.fieldAddr 2 (.t 14),none⟩,⟨.t 16,.load1 (.t 15),none⟩,⟨.p 2,.mov (.t 16),none⟩]) (.ret)) (.skip))) (.seq (.dreg [⟨⟨.t 17,.mov (.p 0),none⟩,false,false,[]⟩,⟨⟨.t 18,.nilCheck (.t 17),none⟩,false,false,[]⟩,
 ⟨⟨.t 19,.fieldAddr 0 (.t 18),none⟩,false,false,[]⟩,⟨⟨.t 20,.load1 (.t 19),none⟩,false,false,[]⟩,⟨⟨.t 21,.mov (.p 0),none⟩,false,false,[]⟩,⟨⟨.t 22,.nilCheck (.t 21),none⟩,false,false,[]⟩,
 ⟨⟨.t 23,.fieldAddr 1 (.t 22),none⟩,false,false,[]⟩,⟨⟨.t 24,.load1 (.t 23),none⟩,false,false,[]⟩,⟨⟨.t 25,.idxAddr 5 (.t 20) (.t 24),none⟩,false,false,[]⟩,⟨⟨.t 26,.fieldAddr 1 (.t 25),none⟩,false,false,[]⟩,
 ⟨⟨.t 27,.load1 (.t 26),none⟩,false,false,[]⟩,⟨⟨.p 2,.mov (.t 27),none⟩,false,false,[]⟩]) (.ret)))
def cf_word_Reader_At : CFunc :=
{ nargs := 1,ps := [0,2,12],results := [.slot 2],body := bd_word_Reader_At }
def bd_runes_Norm : CCode :=
 .seq (.reg [⟨.p 2,.mov (.c (.nils)),none⟩]) (.seq (.reg [⟨.t 3,.mov (.p 0),none⟩,⟨.t 4,.call F_runes_spans [.t 3],none⟩,⟨.t 5,.call F_runes_ranges [.t 4],none⟩,⟨.p 2,.mov (.t 5),none⟩]) (.ret))
def cf_runes_Norm : CFunc :=
{ nargs := 1,ps := [0,2],results := [.slot 2],body := bd_runes_Norm }
def lb_runes_Not_0 : CCode :=
 .seq (.reg [⟨.p 13,.bin .lss (.p 12) (.p 11),none⟩]) (.seq (.cond (.p 13) (.skip) (.exit 0)) (.seq (.block 1 [3,4,5,10,11,12] (.seq (.reg [⟨.t 14,.idxAddr 2 (.p 10) (.p 12),none⟩,⟨.t 15,.loadN 2 (.t 14),none⟩,
 ⟨.p 7,.alloc [.int .i64 0,.int .i64 0],none⟩,⟨.no,.store 2 (.p 7) (.t 15),none⟩]) (.seq (.reg [⟨.t 16,.mov (.p 5),none⟩,⟨.t 17,.fieldAddr 0 (.p 7),none⟩,⟨.t 18,.load1 (.t 17),none⟩,
 ⟨.t 19,.callV (.t 16) [.t 18],none⟩]) (.reg [⟨.t 20,.fieldAddr 1 (.p 7),none⟩,⟨.t 21,.load1 (.t 20),none⟩,⟨.no,.store 1 (.p 4) (.t 21),none⟩])))) (.reg [⟨.t 22,.bin .add (.p 12) (.c (.int .i64 1)),none⟩,
 ⟨.p 12,.mov (.t 22),none⟩])))
def bd_runes_Not : CCode :=
 .seq (.reg [⟨.p 2,.mov (.c (.nils)),none⟩]) (.seq (.reg [⟨.p 3,.alloc [.nils],none⟩]) (.seq (.reg [⟨.p 4,.alloc [.int .i64 0],none⟩,⟨.no,.store 1 (.p 4) (.c (.int .i64 0)),none⟩]) (.seq (.reg [⟨.t 8,.mkFn F_runes_Not_1 [.p 4,.p 3],none⟩,
 ⟨.p 5,.mov (.t 8),none⟩]) (.seq (.seq (.reg [⟨.t 9,.mov (.p 0),none⟩,⟨.p 10,.call F_runes_spans [.t 9],none⟩,⟨.p 11,.lenSl (.p 10),none⟩,⟨.p 12,.mov (.c (.int .i64 0)),none⟩]) (.block 0 [3,5] (.loop [3,4,5,10,11,12] lb_runes_Not_0))) (.seq (.reg [⟨.t 23,.mov (.p 5),none⟩,
 ⟨.t 24,.callV (.t 23) [.c (.int .i64 1112064)],none⟩]) (.seq (.reg [⟨.t 25,.load1 (.p 3),none⟩,⟨.t 26,.call F_runes_ranges [.t 25],none⟩,⟨.p 2,.mov (.t 26),none⟩]) (.ret)))))))
def cf_runes_Not : CFunc :=
{ nargs := 1,ps := [0,2,3,4,5,7,10,11,12,13],results := [.slot 2],body := bd_runes_Not }
def bd_goboref11_E_take : CCode :=
 .seq (.reg [⟨.p 4,.mov (.c (.bool false)),none⟩]) (.seq (.seq (.reg [⟨.t 5,.mov (.p 0),none⟩,⟨.t 6,.call F_goboref11_E_peek [.t 5],none⟩,⟨.t 7,.mov (.p 1),none⟩,⟨.p 8,.bin .neq (.t 6) (.t 7),none⟩]) (.cond (.p 8) (.seq (.reg [⟨.p 4,.mov (.c (.bool false)),none⟩]) (.ret)) (.skip))) (.seq (.reg [⟨.t 9,.mov (.p 0),none⟩,
 ⟨.t 10,.nilCheck (.t 9),none⟩,⟨.t 11,.fieldAddr 2 (.t 10),none⟩,⟨.t 12,.load1 (.t 11),none⟩,⟨.t 13,.bin .add (.t 12) (.c (.int .i64 1)),none⟩,⟨.t 14,.nilCheck (.t 9),none⟩,⟨.t 15,.fieldAddr 2 (.t 14),none⟩,
 ⟨.no,.store 1 (.t 15) (.t 13),none⟩]) (.seq (.reg [⟨.p 4,.mov (.c (.bool true)),none⟩]) (.ret))))
def cf_goboref11_E_take : CFunc :=
{ nargs := 2,ps := [0,1,4,8],results := [.slot 4],body := bd_goboref11_E_take }
def bd_goboref11_E_peek : CCode :=
 .seq (.reg [⟨.p 2,.mov (.c (.int .i32 0)),none⟩]) (.seq (.seq (.dreg [⟨⟨.t 3,.mov (.p 0),none⟩,false,false,[]⟩,⟨⟨.t 4,.nilCheck (.t 3),none⟩,false,false,[]⟩,⟨⟨.t 5,.fieldAddr 3 (.t 4),none⟩,false,false,[]⟩,
 ⟨⟨.t 6,.load1 (.t 5),none⟩,false,false,[]⟩,⟨⟨.t 7,.bin .neq (.t 6) (.c (.int .i64 0)),none⟩,false,false,[]⟩,⟨⟨.t 8,.mov (.t 7),none⟩,false,false,[]⟩,⟨⟨.t 9,.mov (.p 0),some (.t 8,false)⟩,false,false,[]⟩,
 ⟨⟨.t 10,.nilCheck (.t 9),some (.t 8,false)⟩,false,false,[]⟩,⟨⟨.t 11,.fieldAddr 2 (.t 10),some (.t 8,false)⟩,false,false,[]⟩,⟨⟨.t 12,.load1 (.t 11),some (.t 8,false)⟩,false,false,[]⟩,
 ⟨⟨.t 13,.mov (.p 0),some (.t 8,false)⟩,false,false,[]⟩,⟨⟨.t 14,.nilCheck (.t 13),some (.t 8,false)⟩,false,false,[]⟩,⟨⟨.t 15,.fieldAddr 0 (.t 14),some (.t 8,false)⟩,false,false,[]⟩,
 ⟨⟨.t 16,.load1 (.t 15),some (.t 8,false)⟩,false,false,[]⟩,⟨⟨.t 17,.lenSl (.t 16),some (.t 8,false)⟩,false,false,[]⟩,⟨⟨.t 18,.bin .geq (.t 12) (.t 17),some (.t 8,false)⟩,false,false,[]⟩,
 ⟨⟨.t 19,.pick (.t 8) (.c (.bool true)) (.t 18),none⟩,false,false,[]⟩,⟨⟨.t 20,.mov (.t 19),none⟩,false,false,[]⟩,⟨⟨.t 21,.mov (.p 0),some (.t 20,false)⟩,false,false,[]⟩,⟨⟨.t 22,.nilCheck (.t 21),some (.t 20,false)⟩,false,false,[]⟩,
 ⟨⟨.t 23,.fieldAddr 0 (.t 22),some (.t 20,false)⟩,false,false,[]⟩,⟨⟨.t 24,.load1 (.t 23),some (.t 20,false)⟩,false,false,[]⟩,⟨⟨.t 25,.mov (.p 0),some (.t 20,false)⟩,false,false,[]⟩,
 ⟨⟨.t 26,.nilCheck (.t 25),some (.t 20,false)⟩,false,false,[]⟩,⟨⟨.t 27,.fieldAddr 2 (.t 26),some (.t 20,false)⟩,false,false,[]⟩,⟨⟨.t 28,.load1 (.t 27),some (.t 20,false)⟩,false,false,[]⟩,
 ⟨⟨.t 29,.idxAddr 5 (.t 24) (.t 28),some (.t 20,false)⟩,false,false,[]⟩,⟨⟨.t 30,.fieldAddr 3 (.t 29),some (.t 20,false)⟩,false,false,[]⟩,⟨⟨.t 31,.load1 (.t 30),some (.t 20,false)⟩,false,false,[]⟩,
 ⟨⟨.p 32,.pick (.t 20) (.c (.bool true)) (.t 31),none⟩,false,false,[]⟩]) (.cond (.p 32) (.seq (.reg [⟨.p 2,.mov (.c (.int .i32 (-1))),none⟩]) (.ret)) (.skip))) (.seq (.dreg [⟨⟨.t 33,.mov (.p 0),none⟩,false,false,[]⟩,
 ⟨⟨.t 34,.nilCheck (.t 33),none⟩,false,false,[]⟩,⟨⟨.t 35,.fieldAddr 0 (.t 34),none⟩,false,false,[]⟩,⟨⟨.t 36,.load1 (.t 35),none⟩,false,false,[]⟩,⟨⟨.t 37,.mov (.p 0),none⟩,false,false,[]⟩,
 ⟨⟨.t 38,.nilCheck (.t 37),none⟩,false,false,[]⟩,⟨⟨.t 39,.fieldAddr 2 (.t 38),none⟩,false,false,[]⟩,⟨⟨.t 40,.load1 (.t 39),none⟩,false,false,[]⟩,⟨⟨.t 41,.idxAddr 5 (.t 36) (.t 40),none⟩,false,false,[]⟩,
 ⟨⟨.t 42,.fieldAddr 0 (.t 41),none⟩,false,false,[]⟩,⟨⟨.t 43,.load1 (.t 42),none⟩,false,false,[]⟩,⟨⟨.p 2,.mov (.t 43),none⟩,false,false,[]⟩]) (.ret)))
def cf_goboref11_E_peek : CFunc :=
{ nargs := 1,ps := [0,2,32],results := [.slot 2],body := bd_goboref11_E_peek }
def bd_goboref11_E_member : CCode :=
 .seq (.reg [⟨.p 2,.mov (.c (.int .i32 0)),none⟩]) (.seq (.seq (.reg [⟨.t 4,.mov (.p 0),none⟩,⟨.p 5,.call F_goboref11_E_take [.t 4,.c (.int .i32 92)],none⟩]) (.cond (.p 5) (.seq (.reg [⟨.t 6,.mov (.p 0),none⟩,
 ⟨.t 7,.call F_goboref11_E_escape [.t 6],none⟩,⟨.p 2,.mov (.t 7),none⟩]) (.ret)) (.skip))) (.seq (.reg [⟨.t 8,.mov (.p 0),none⟩,⟨.t 9,.call F_goboref11_E_peek [.t 8],none⟩,⟨.p 3,.mov (.t 9),none⟩]) (.seq (.seq (.reg [⟨.t 10,.mov (.p 3),none⟩,
 ⟨.t 11,.bin .lss (.t 10) (.c (.int .i32 32)),none⟩,⟨.t 12,.mov (.t 11),none⟩,⟨.t 13,.mov (.p 3),some (.t 12,false)⟩,⟨.t 14,.call F_goboref11_among [.c (.str [47,124,42,40,41,91,93,92,45]),.t 13],some (.t 12,false)⟩,
 ⟨.p 15,.pick (.t 12) (.c (.bool true)) (.t 14),none⟩]) (.cond (.p 15) (.seq (.reg [⟨.t 16,.mov (.p 0),none⟩,⟨.t 17,.call F_goboref11_E_fail [.t 16,.c (.int .i64 3)],none⟩]) (.seq (.reg [⟨.p 2,.mov (.c (.int .i32 0)),none⟩]) (.ret))) (.skip))) (.seq (.reg [⟨.t 18,.mov (.p 0),none⟩,
 ⟨.t 19,.nilCheck (.t 18),none⟩,⟨.t 20,.fieldAddr 2 (.t 19),none⟩,⟨.t 21,.load1 (.t 20),none⟩,⟨.t 22,.bin .add (.t 21) (.c (.int .i64 1)),none⟩,⟨.t 23,.nilCheck (.t 18),none⟩,⟨.t 24,.fieldAddr 2 (.t 23),none⟩,
 ⟨.no,.store 1 (.t 24) (.t 22),none⟩]) (.seq (.reg [⟨.t 25,.mov (.p 3),none⟩,⟨.p 2,.mov (.t 25),none⟩]) (.ret))))))
def cf_goboref11_E_member : CFunc :=
{ nargs := 1,ps := [0,2,3,5,15],results := [.slot 2],body := bd_goboref11_E_member }
def bd_goboref3_Not : CCode :=
 .seq (.reg [⟨.p 2,.mov (.c (.nils)),none⟩]) (.seq (.reg [⟨.t 3,.mov (.p 0),none⟩,⟨.t 4,.call F_goboref3_cells [.t 3],none⟩,⟨.t 5,.call F_goboref3_pick [.t 4,.c (.nils),.c (.int .i64 5)],none⟩,
 ⟨.p 2,.mov (.t 5),none⟩]) (.ret))
def cf_goboref3_Not : CFunc :=
{ nargs := 1,ps := [0,2],results := [.slot 2],body := bd_goboref3_Not }
def bd_goboref3_Norm : CCode :=
 .seq (.reg [⟨.p 2,.mov (.c (.nils)),none⟩]) (.seq (.reg [⟨.t 3,.mov (.p 0),none⟩,⟨.t 4,.call F_goboref3_cells [.t 3],none⟩,⟨.t 5,.call F_goboref3_pick [.t 4,.c (.nils),.c (.int .i64 1)],none⟩,
 ⟨.p 2,.mov (.t 5),none⟩]) (.ret))
def cf_goboref3_Norm : CFunc :=
{ nargs := 1,ps := [0,2],results := [.slot 2],body := bd_goboref3_Norm }
def bd_stringslite_IndexByte : CCode :=
 .seq (.reg [⟨.p 4,.mov (.c (.int .i64 0)),none⟩]) (.seq (.reg [⟨.t 5,.mov (.p 0),none⟩,⟨.t 6,.mov (.p 1),none⟩,⟨.t 7,.idxByte (.t 5) (.t 6),none⟩,⟨.p 4,.mov (.t 7),none⟩]) (.ret))
def cf_stringslite_IndexByte : CFunc :=
{ nargs := 2,ps := [0,1,4],results := [.slot 4],body := bd_stringslite_IndexByte }
def bd_decode_Dec_take : CCode :=
 .seq (.seq (.reg [⟨.t 4,.mov (.p 0),none⟩,⟨.t 5,.mov (.p 1),none⟩,⟨.p 6,.call F_decode_Dec_more [.t 4,.t 5],none⟩]) (.cond (.p 6) (.ret) (.skip))) (.seq (.seq (.reg [⟨.t 7,.mov (.p 0),none⟩,
 ⟨.t 8,.nilCheck (.t 7),none⟩,⟨.t 9,.fieldAddr 0 (.t 8),none⟩,⟨.t 10,.load1 (.t 9),none⟩,⟨.t 11,.lenSl (.t 10),none⟩,⟨.p 12,.bin .gtr (.t 11) (.c (.int .i64 0)),none⟩]) (.cond (.p 12) (.seq (.reg [⟨.t 13,.mov (.p 0),none⟩,
 ⟨.t 14,.call F_decode_Dec_tell [.t 13,.c (.bool true),.c (.bool true)],none⟩]) (.seq (.reg [⟨.t 15,.mov (.p 0),none⟩,⟨.t 16,.mov (.p 1),none⟩,⟨.t 17,.call F_decode_Dec_take [.t 15,.t 16],none⟩]) (.ret))) (.skip))) (.seq (.reg [⟨.t 18,.mov (.p 0),none⟩,
 ⟨.t 19,.mov (.p 1),none⟩,⟨.t 20,.lit [.int .u8 0] 1 [(0,1,.t 19)],none⟩,⟨.t 21,.nilCheck (.t 18),none⟩,⟨.t 22,.fieldAddr 0 (.t 21),none⟩,⟨.no,.store 1 (.t 22) (.t 20),none⟩]) (.reg [⟨.t 23,.mov (.p 0),none⟩,
 ⟨.t 24,.call F_decode_Dec_tell [.t 23,.c (.bool true),.c (.bool false)],none⟩])))
def cf_decode_Dec_take : CFunc :=
{ nargs := 2,ps := [0,1,6,12],results := [],body := bd_decode_Dec_take }
def bd_decode_Dec_taken : CCode :=
 .seq (.reg [⟨.p 2,.mov (.c (.nils)),none⟩]) (.seq (.reg [⟨.t 4,.mov (.p 0),none⟩,⟨.t 5,.nilCheck (.t 4),none⟩,⟨.t 6,.fieldAddr 3 (.t 5),none⟩,⟨.t 7,.load1 (.t 6),none⟩,⟨.p 3,.mov (.t 7),none⟩]) (.seq (.reg [⟨.t 8,.mov (.p 0),none⟩,
 ⟨.t 9,.nilCheck (.t 8),none⟩,⟨.t 10,.fieldAddr 3 (.t 9),none⟩,⟨.no,.store 1 (.t 10) (.c (.nils)),none⟩]) (.seq (.reg [⟨.t 11,.mov (.p 3),none⟩,⟨.p 2,.mov (.t 11),none⟩]) (.ret))))
def cf_decode_Dec_taken : CFunc :=
{ nargs := 1,ps := [0,2,3],results := [.slot 2],body := bd_decode_Dec_taken }
def bd_decode_Dec_tell : CCode :=
 .seq (.dreg [⟨⟨.t 7,.mov (.p 0),none⟩,false,false,[]⟩,⟨⟨.t 8,.nilCheck (.t 7),none⟩,false,false,[]⟩,⟨⟨.t 9,.fieldAddr 1 (.t 8),none⟩,false,false,[]⟩,⟨⟨.t 10,.load1 (.t 9),none⟩,true,false,[]⟩,
 ⟨⟨.t 11,.mov (.p 0),none⟩,false,false,[]⟩,⟨⟨.t 12,.nilCheck (.t 11),none⟩,false,false,[]⟩,⟨⟨.t 13,.fieldAddr 1 (.t 12),none⟩,false,false,[]⟩,⟨⟨.t 14,.load1 (.t 13),none⟩,true,false,[]⟩,
 ⟨⟨.t 15,.mov (.p 0),none⟩,false,false,[]⟩,⟨⟨.t 16,.nilCheck (.t 15),none⟩,false,false,[]⟩,⟨⟨.t 17,.fieldAddr 0 (.t 16),none⟩,false,false,[]⟩,⟨⟨.t 18,.load1 (.t 17),none⟩,true,false,[]⟩,
 ⟨⟨.t 19,.lenSl (.t 18),none⟩,false,false,[]⟩,⟨⟨.t 20,.bin .add (.t 14) (.t 19),none⟩,false,false,[]⟩,⟨⟨.t 21,.mov (.p 1),none⟩,false,false,[]⟩,⟨⟨.t 22,.mov (.p 2),none⟩,false,false,[]⟩,
 ⟨⟨.t 23,.build [.int .i32 0,.int .i64 0,.int .i64 0,.bool false,.bool false] [(0,1,.c (.int .i32 65533)),(1,1,.t 10),(2,1,.t 20),(3,1,.t 21),(4,1,.t 22)],none⟩,false,false,[]⟩,⟨⟨.p 6,.alloc [.int .i32 0,.int .i64 0,.int .i64 0,.bool false,.bool false],none⟩,false,false,[3,7,11]⟩,
 ⟨⟨.no,.store 5 (.p 6) (.t 23),none⟩,false,false,[]⟩]) (.seq (.seq (.reg [⟨.t 24,.mov (.p 1),none⟩,⟨.p 25,.un .not (.t 24),none⟩]) (.cond (.p 25) (.reg [⟨.t 27,.mov (.p 0),none⟩,⟨.t 28,.nilCheck (.t 27),none⟩,
 ⟨.t 29,.fieldAddr 0 (.t 28),none⟩,⟨.t 30,.load1 (.t 29),none⟩,⟨.t 31,.call F_utf8_DecodeRune [.t 30],none⟩,⟨.t 26,.mov (.t 31),none⟩,⟨.t 32,.extract (.t 26) 0,none⟩,⟨.t 33,.extract (.t 26) 1,none⟩,
 ⟨.t 34,.fieldAddr 0 (.p 6),none⟩,⟨.no,.store 1 (.t 34) (.t 32),none⟩]) (.skip))) (.seq (.dreg [⟨⟨.t 35,.mov (.p 0),none⟩,false,false,[]⟩,⟨⟨.t 36,.mov (.p 0),none⟩,false,false,[]⟩,⟨⟨.t 37,.nilCheck (.t 36),none⟩,false,false,[]⟩,
 ⟨⟨.t 38,.fieldAddr 3 (.t 37),none⟩,false,false,[]⟩,⟨⟨.t 39,.load1 (.t 38),none⟩,true,false,[]⟩,⟨⟨.t 40,.loadN 5 (.p 6),none⟩,false,false,[]⟩,⟨⟨.t 41,.lit [.int .i32 0,.int .i64 0,.int .i64 0,.bool false,.bool false] 1 [(0,5,.t 40)],none⟩,false,false,[4]⟩,
 ⟨⟨.t 42,.append 5 32 (.t 39) (.t 41),none⟩,false,false,[]⟩,⟨⟨.t 43,.nilCheck (.t 35),none⟩,false,false,[]⟩,⟨⟨.t 44,.fieldAddr 3 (.t 43),none⟩,false,false,[]⟩,⟨⟨.no,.store 1 (.t 44) (.t 42),none⟩,false,false,[]⟩]) (.dreg [⟨⟨.t 45,.mov (.p 0),none⟩,false,false,[]⟩,
 ⟨⟨.t 46,.mov (.p 0),none⟩,false,false,[]⟩,⟨⟨.t 47,.fieldAddr 2 (.p 6),none⟩,false,false,[]⟩,⟨⟨.t 48,.load1 (.t 47),none⟩,true,false,[]⟩,⟨⟨.t 49,.nilCheck (.t 45),none⟩,false,false,[]⟩,
 ⟨⟨.t 50,.fieldAddr 0 (.t 49),none⟩,false,false,[]⟩,⟨⟨.no,.store 1 (.t 50) (.c (.nils)),none⟩,false,false,[3]⟩,⟨⟨.t 51,.nilCheck (.t 46),none⟩,false,false,[]⟩,⟨⟨.t 52,.fieldAddr 1 (.t 51),none⟩,false,false,[]⟩,
 ⟨⟨.no,.store 1 (.t 52) (.t 48),none⟩,false,false,[]⟩])))
def cf_decode_Dec_tell : CFunc :=
{ nargs := 3,ps := [0,1,2,6,25],results := [],body := bd_decode_Dec_tell }
def lb_goboref3_One_0 : CCode :=
 .seq (.seq (.reg [⟨.t 39,.mov (.p 10),none⟩,⟨.t 40,.mov (.p 6),none⟩,⟨.p 41,.bin .lss (.t 39) (.t 40),none⟩]) (.cond (.p 41) (.skip) (.exit 0))) (.seq (.block 1 [0,1,4,6,7,8,9,10] (.seq (.seq (.reg [⟨.t 44,.mov (.p 1),none⟩,
 ⟨.t 45,.mov (.p 10),none⟩,⟨.t 46,.bin .add (.t 44) (.t 45),none⟩,⟨.t 47,.mov (.p 0),none⟩,⟨.t 48,.lenStr (.t 47),none⟩,⟨.p 49,.bin .eql (.t 46) (.t 48),none⟩]) (.cond (.p 49) (.seq (.reg [⟨.t 50,.mov (.p 1),none⟩,
 ⟨.t 51,.mov (.p 1),none⟩,⟨.t 52,.mov (.p 10),none⟩,⟨.t 53,.bin .add (.t 51) (.t 52),none⟩,⟨.t 54,.build [.int .i32 0,.int .i64 0,.int .i64 0,.bool false,.bool false] [(0,1,.c (.int .i32 65533)),(1,1,.t 50),(2,1,.t 53),(3,1,.c (.bool true)),(4,1,.c (.bool true))],none⟩,
 ⟨.no,.store 5 (.p 4) (.t 54),none⟩,⟨.p 5,.mov (.c (.bool false)),none⟩]) (.ret)) (.skip))) (.seq (.reg [⟨.t 55,.mov (.p 0),none⟩,⟨.t 56,.mov (.p 1),none⟩,⟨.t 57,.mov (.p 10),none⟩,
 ⟨.t 58,.bin .add (.t 56) (.t 57),none⟩,⟨.t 59,.idxStr (.t 55) (.t 58),none⟩,⟨.t 60,.convI .i64 (.t 59),none⟩,⟨.p 11,.mov (.t 60),none⟩]) (.seq (.seq (.reg [⟨.t 61,.mov (.p 10),none⟩,
 ⟨.t 62,.bin .eql (.t 61) (.c (.int .i64 1)),none⟩,⟨.t 63,.mov (.t 62),none⟩,⟨.t 64,.mov (.p 11),some (.t 63,true)⟩,⟨.t 65,.mov (.p 7),some (.t 63,true)⟩,⟨.t 66,.bin .lss (.t 64) (.t 65),some (.t 63,true)⟩,
 ⟨.t 67,.mov (.t 66),some (.t 63,true)⟩,⟨.t 68,.mov (.p 11),some (.t 67,false)⟩,⟨.t 69,.mov (.p 8),some (.t 67,false)⟩,⟨.t 70,.bin .gtr (.t 68) (.t 69),some (.t 67,false)⟩,⟨.t 71,.pick (.t 67) (.c (.bool true)) (.t 70),some (.t 63,true)⟩,
 ⟨.t 72,.pick (.t 63) (.t 71) (.c (.bool false)),none⟩,⟨.t 73,.mov (.t 72),none⟩,⟨.t 74,.mov (.p 10),some (.t 73,false)⟩,⟨.t 75,.bin .gtr (.t 74) (.c (.int .i64 1)),some (.t 73,false)⟩,
 ⟨.t 76,.mov (.t 75),some (.t 73,false)⟩,⟨.t 77,.mov (.p 11),some (.t 76,true)⟩,⟨.t 78,.bin .lss (.t 77) (.c (.int .i64 128)),some (.t 76,true)⟩,⟨.t 79,.mov (.t 78),some (.t 76,true)⟩,
 ⟨.t 80,.mov (.p 11),some (.t 79,false)⟩,⟨.t 81,.bin .gtr (.t 80) (.c (.int .i64 191)),some (.t 79,false)⟩,⟨.t 82,.pick (.t 79) (.c (.bool true)) (.t 81),some (.t 76,true)⟩,⟨.t 83,.pick (.t 76) (.t 82) (.c (.bool false)),some (.t 73,false)⟩,
 ⟨.p 84,.pick (.t 73) (.c (.bool true)) (.t 83),none⟩]) (.cond (.p 84) (.seq (.reg [⟨.t 85,.mov (.p 1),none⟩,⟨.t 86,.mov (.p 1),none⟩,⟨.t 87,.mov (.p 10),none⟩,⟨.t 88,.bin .add (.t 86) (.t 87),none⟩,
 ⟨.t 89,.build [.int .i32 0,.int .i64 0,.int .i64 0,.bool false,.bool false] [(0,1,.c (.int .i32 65533)),(1,1,.t 85),(2,1,.t 88),(3,1,.c (.bool true)),(4,1,.c (.bool true))],none⟩,⟨.no,.store 5 (.p 4) (.t 89),none⟩,
 ⟨.p 5,.mov (.c (.bool true)),none⟩]) (.ret)) (.skip))) (.reg [⟨.t 90,.mov (.p 9),none⟩,⟨.t 91,.bin .shl (.t 90) (.c (.int .u64 6)),none⟩,⟨.t 92,.mov (.p 11),none⟩,⟨.t 93,.bin .and (.t 92) (.c (.int .i64 63)),none⟩,
 ⟨.t 94,.convI .i32 (.t 93),none⟩,⟨.t 95,.bin .or (.t 91) (.t 94),none⟩,⟨.p 9,.mov (.t 95),none⟩]))))) (.reg [⟨.t 42,.mov (.p 10),none⟩,⟨.t 43,.bin .add (.t 42) (.c (.int .i64 1)),none⟩,⟨.p 10,.mov (.t 43),none⟩]))
def bd_goboref3_One : CCode :=
 .seq (.reg [⟨.p 4,.alloc [.int .i32 0,.int .i64 0,.int .i64 0,.bool false,.bool false],none⟩,⟨.p 5,.mov (.c (.bool false)),none⟩]) (.seq (.reg [⟨.t 13,.mov (.p 0),none⟩,⟨.t 14,.mov (.p 1),none⟩,
 ⟨.t 15,.idxStr (.t 13) (.t 14),none⟩,⟨.t 16,.call F_goboref3_second [.t 15],none⟩,⟨.t 12,.mov (.t 16),none⟩,⟨.t 17,.extract (.t 12) 0,none⟩,⟨.t 18,.extract (.t 12) 1,none⟩,⟨.t 19,.extract (.t 12) 2,none⟩,
 ⟨.p 6,.mov (.t 17),none⟩,⟨.p 7,.mov (.t 18),none⟩,⟨.p 8,.mov (.t 19),none⟩]) (.seq (.seq (.reg [⟨.t 20,.mov (.p 6),none⟩,⟨.p 21,.bin .eql (.t 20) (.c (.int .i64 0)),none⟩]) (.cond (.p 21) (.seq (.reg [⟨.t 22,.mov (.p 1),none⟩,
 ⟨.t 23,.mov (.p 1),none⟩,⟨.t 24,.bin .add (.t 23) (.c (.int .i64 1)),none⟩,⟨.t 25,.build [.int .i32 0,.int .i64 0,.int .i64 0,.bool false,.bool false] [(0,1,.c (.int .i32 65533)),(1,1,.t 22),(2,1,.t 24),(3,1,.c (.bool true))],none⟩,
 ⟨.no,.store 5 (.p 4) (.t 25),none⟩,⟨.p 5,.mov (.c (.bool true)),none⟩]) (.ret)) (.skip))) (.seq (.reg [⟨.t 26,.mov (.p 0),none⟩,⟨.t 27,.mov (.p 1),none⟩,⟨.t 28,.idxStr (.t 26) (.t 27),none⟩,
 ⟨.t 29,.convI .i32 (.t 28),none⟩,⟨.p 9,.mov (.t 29),none⟩]) (.seq (.seq (.reg [⟨.t 30,.mov (.p 6),none⟩,⟨.p 31,.bin .gtr (.t 30) (.c (.int .i64 1)),none⟩]) (.cond (.p 31) (.reg [⟨.t 32,.mov (.p 9),none⟩,
 ⟨.t 33,.mov (.p 6),none⟩,⟨.t 34,.bin .sub (.c (.int .i64 7)) (.t 33),none⟩,⟨.t 35,.convI .u64 (.t 34),none⟩,⟨.t 36,.bin .shl (.c (.int .i32 1)) (.t 35),none⟩,⟨.t 37,.bin .sub (.t 36) (.c (.int .i32 1)),none⟩,
 ⟨.t 38,.bin .and (.t 32) (.t 37),none⟩,⟨.p 9,.mov (.t 38),none⟩]) (.skip))) (.seq (.seq (.reg [⟨.p 10,.mov (.c (.int .i64 1)),none⟩]) (.block 0 [1,4,6,9] (.loop [0,1,4,6,7,8,9,10] lb_goboref3_One_0))) (.seq (.reg [⟨.t 96,.mov (.p 9),none⟩,
 ⟨.t 97,.mov (.p 1),none⟩,⟨.t 98,.mov (.p 1),none⟩,⟨.t 99,.mov (.p 6),none⟩,⟨.t 100,.bin .add (.t 98) (.t 99),none⟩,⟨.t 101,.build [.int .i32 0,.int .i64 0,.int .i64 0,.bool false,.bool false] [(0,1,.t 96),(1,1,.t 97),(2,1,.t 100)],none⟩,
 ⟨.no,.store 5 (.p 4) (.t 101),none⟩,⟨.p 5,.mov (.c (.bool true)),none⟩]) (.ret)))))))
def cf_goboref3_One : CFunc :=
{ nargs := 2,ps := [0,1,4,5,6,7,8,9,10,11,21,31,41,49,84],results := [.cellN 4 5,.slot 5],body := bd_goboref3_One }
def lb_word_hasRune_0 : CCode :=
 .seq (.reg [⟨.p 9,.nextStr (.p 8),none⟩,⟨.p 10,.extract (.p 9) 0,none⟩]) (.seq (.cond (.p 10) (.skip) (.exit 0)) (.block 1 [1,8] (.seq (.reg [⟨.t 11,.extract (.p 9) 2,none⟩,⟨.p 6,.mov (.t 11),none⟩]) (.seq (.reg [⟨.t 12,.mov (.p 6),none⟩,
 ⟨.t 13,.mov (.p 1),none⟩,⟨.p 14,.bin .eql (.t 12) (.t 13),none⟩]) (.cond (.p 14) (.seq (.reg [⟨.p 4,.mov (.c (.bool true)),none⟩]) (.ret)) (.skip))))))
def bd_word_hasRune : CCode :=
 .seq (.reg [⟨.p 4,.mov (.c (.bool false)),none⟩]) (.seq (.seq (.reg [⟨.t 7,.mov (.p 0),none⟩,⟨.p 8,.rangeStr (.t 7),none⟩]) (.block 0 [] (.loop [1,8] lb_word_hasRune_0))) (.seq (.reg [⟨.p 4,.mov (.c (.bool false)),none⟩]) (.ret)))
def cf_word_hasRune : CFunc :=
{ nargs := 2,ps := [0,1,4,6,8,9,10,14],results := [.slot 4],body := bd_word_hasRune }
def lb_word_Reader_number_0 : CCode :=
 .seq (.seq (.reg [⟨.t 8,.mov (.p 4),none⟩,⟨.p 9,.bin .lss (.t 8) (.c (.int .i64 6)),none⟩]) (.cond (.p 9) (.skip) (.exit 0))) (.seq (.block 1 [0,3,4] (.seq (.reg [⟨.t 12,.mov (.p 0),none⟩,
 ⟨.t 13,.call F_word_Reader_Peek [.t 12],none⟩,⟨.t 14,.call F_word_hex [.t 13],none⟩,⟨.p 5,.mov (.t 14),none⟩]) (.seq (.seq (.reg [⟨.t 15,.mov (.p 5),none⟩,⟨.t 16,.bin .lss (.t 15) (.c (.int .i32 0)),none⟩,
 ⟨.t 17,.mov (.t 16),none⟩,⟨.t 18,.mov (.p 3),some (.t 17,false)⟩,⟨.t 19,.bin .mul (.t 18) (.c (.int .i32 16)),some (.t 17,false)⟩,⟨.t 20,.mov (.p 5),some (.t 17,false)⟩,⟨.t 21,.bin .add (.t 19) (.t 20),some (.t 17,false)⟩,
 ⟨.t 22,.bin .gtr (.t 21) (.c (.int .i32 1114111)),some (.t 17,false)⟩,⟨.p 23,.pick (.t 17) (.c (.bool true)) (.t 22),none⟩]) (.cond (.p 23) (.exit 0) (.skip))) (.seq (.reg [⟨.t 24,.mov (.p 3),none⟩,
 ⟨.t 25,.bin .mul (.t 24) (.c (.int .i32 16)),none⟩,⟨.t 26,.mov (.p 5),none⟩,⟨.t 27,.bin .add (.t 25) (.t 26),none⟩,⟨.p 3,.mov (.t 27),none⟩]) (.reg [⟨.t 28,.mov (.p 0),none⟩,⟨.t 29,.nilCheck (.t 28),none⟩,
 ⟨.t 30,.fieldAddr 1 (.t 29),none⟩,⟨.t 31,.load1 (.t 30),none⟩,⟨.t 32,.bin .add (.t 31) (.c (.int .i64 1)),none⟩,⟨.t 33,.nilCheck (.t 28),none⟩,⟨.t 34,.fieldAddr 1 (.t 33),none⟩,⟨.no,.store 1 (.t 34) (.t 32),none⟩]))))) (.reg [⟨.t 10,.mov (.p 4),none⟩,
 ⟨.t 11,.bin .add (.t 10) (.c (.int .i64 1)),none⟩,⟨.p 4,.mov (.t 11),none⟩]))
def bd_word_Reader_number : CCode :=
 .seq (.reg [⟨.p 2,.mov (.c (.int .i32 0)),none⟩]) (.seq (.reg [⟨.t 6,.mov (.p 0),none⟩,⟨.t 7,.call F_word_Reader_Must [.t 6,.c (.int .i32 123)],none⟩]) (.seq (.reg [⟨.p 3,.mov (.c (.int .i32 0)),none⟩]) (.seq (.reg [⟨.p 4,.mov (.c (.int .i64 0)),none⟩]) (.seq (.block 0 [0,3,4] (.loop [0,3,4] lb_word_Reader_number_0)) (.seq (.seq (.reg [⟨.t 35,.mov (.p 4),none⟩,
 ⟨.t 36,.bin .eql (.t 35) (.c (.int .i64 0)),none⟩,⟨.t 37,.mov (.t 36),none⟩,⟨.t 38,.mov (.p 0),some (.t 37,false)⟩,⟨.t 39,.call F_word_Reader_Peek [.t 38],some (.t 37,false)⟩,⟨.t 40,.bin .neq (.t 39) (.c (.int .i32 125)),some (.t 37,false)⟩,
 ⟨.t 41,.pick (.t 37) (.c (.bool true)) (.t 40),none⟩,⟨.t 42,.mov (.t 41),none⟩,⟨.t 43,.mov (.p 3),some (.t 42,false)⟩,⟨.t 44,.bin .geq (.t 43) (.c (.int .i32 55296)),some (.t 42,false)⟩,
 ⟨.t 45,.mov (.t 44),some (.t 42,false)⟩,⟨.t 46,.mov (.p 3),some (.t 45,true)⟩,⟨.t 47,.bin .leq (.t 46) (.c (.int .i32 57343)),some (.t 45,true)⟩,⟨.t 48,.pick (.t 45) (.t 47) (.c (.bool false)),some (.t 42,false)⟩,
 ⟨.p 49,.pick (.t 42) (.c (.bool true)) (.t 48),none⟩]) (.cond (.p 49) (.reg [⟨.t 50,.mov (.p 0),none⟩,⟨.t 51,.call F_word_Reader_At [.t 50],none⟩,⟨.t 52,.call F_word_Fail [.c (.int .i64 3),.t 51],none⟩]) (.skip))) (.seq (.reg [⟨.t 53,.mov (.p 0),none⟩,
 ⟨.t 54,.nilCheck (.t 53),none⟩,⟨.t 55,.fieldAddr 1 (.t 54),none⟩,⟨.t 56,.load1 (.t 55),none⟩,⟨.t 57,.bin .add (.t 56) (.c (.int .i64 1)),none⟩,⟨.t 58,.nilCheck (.t 53),none⟩,⟨.t 59,.fieldAddr 1 (.t 58),none⟩,
 ⟨.no,.store 1 (.t 59) (.t 57),none⟩]) (.seq (.reg [⟨.t 60,.mov (.p 3),none⟩,⟨.p 2,.mov (.t 60),none⟩]) (.ret))))))))
def cf_word_Reader_number : CFunc :=
{ nargs := 1,ps := [0,2,3,4,5,9,23,49],results := [.slot 2],body := bd_word_Reader_number }
def lb_runes_ranges_0 : CCode :=
 .seq (.reg [⟨.p 9,.bin .lss (.p 8) (.p 7),none⟩]) (.seq (.cond (.p 9) (.skip) (.exit 0)) (.seq (.block 1 [3,6,7,8] (.seq (.reg [⟨.t 10,.idxAddr 2 (.p 6) (.p 8),none⟩,⟨.t 11,.loadN 2 (.t 10),none⟩,
 ⟨.p 5,.alloc [.int .i64 0,.int .i64 0],none⟩,⟨.no,.store 2 (.p 5) (.t 11),none⟩]) (.dreg [⟨⟨.t 12,.mov (.p 3),none⟩,false,false,[]⟩,⟨⟨.t 13,.fieldAddr 0 (.p 5),none⟩,false,false,[]⟩,
 ⟨⟨.t 14,.load1 (.t 13),none⟩,false,false,[]⟩,⟨⟨.t 15,.call F_runes_value [.t 14],none⟩,true,false,[]⟩,⟨⟨.t 16,.fieldAddr 1 (.p 5),none⟩,false,false,[]⟩,⟨⟨.t 17,.load1 (.t 16),none⟩,false,false,[3]⟩,
 ⟨⟨.t 18,.bin .sub (.t 17) (.c (.int .i64 1)),none⟩,false,false,[]⟩,⟨⟨.t 19,.call F_runes_value [.t 18],none⟩,false,false,[]⟩,⟨⟨.t 20,.build [.int .i32 0,.int .i32 0] [(0,1,.t 15),(1,1,.t 19)],none⟩,false,false,[]⟩,
 ⟨⟨.t 21,.lit [.int .i32 0,.int .i32 0] 1 [(0,2,.t 20)],none⟩,false,false,[]⟩,⟨⟨.t 22,.append 2 8 (.t 12) (.t 21),none⟩,false,false,[]⟩,⟨⟨.p 3,.mov (.t 22),none⟩,false,false,[]⟩]))) (.reg [⟨.t 23,.bin .add (.p 8) (.c (.int .i64 1)),none⟩,
 ⟨.p 8,.mov (.t 23),none⟩])))
def bd_runes_ranges : CCode :=
 .seq (.reg [⟨.p 2,.mov (.c (.nils)),none⟩]) (.seq (.reg [⟨.p 3,.mov (.c (.nils)),none⟩]) (.seq (.seq (.reg [⟨.p 6,.mov (.p 0),none⟩,⟨.p 7,.lenSl (.p 6),none⟩,⟨.p 8,.mov (.c (.int .i64 0)),none⟩]) (.block 0 [3] (.loop [3,6,7,8] lb_runes_ranges_0))) (.seq (.reg [⟨.t 24,.mov (.p 3),none⟩,
 ⟨.p 2,.mov (.t 24),none⟩]) (.ret))))
def cf_runes_ranges : CFunc :=
{ nargs := 1,ps := [0,2,3,5,6,7,8,9],results := [.slot 2],body := bd_runes_ranges }
def lb_runes_spans_0 : CCode :=
 .seq (.reg [⟨.p 14,.bin .lss (.p 13) (.p 12),none⟩]) (.seq (.cond (.p 14) (.skip) (.exit 0)) (.seq (.block 1 [3,11,12,13] (.seq (.reg [⟨.t 15,.idxAddr 2 (.p 11) (.p 13),none⟩,⟨.t 16,.loadN 2 (.t 15),none⟩,
 ⟨.p 5,.alloc [.int .i32 0,.int .i32 0],none⟩,⟨.no,.store 2 (.p 5) (.t 16),none⟩]) (.seq (.dreg [⟨⟨.t 17,.fieldAddr 0 (.p 5),none⟩,false,false,[]⟩,⟨⟨.t 18,.load1 (.t 17),none⟩,true,false,[]⟩,
 ⟨⟨.t 19,.callP 3 F_runes_number [.t 18],none⟩,false,false,[]⟩,⟨⟨.t 20,.fieldAddr 1 (.p 5),none⟩,false,false,[]⟩,⟨⟨.t 21,.load1 (.t 20),none⟩,true,false,[]⟩,⟨⟨.t 22,.callP 3 F_runes_behind [.t 21],none⟩,false,false,[]⟩,
 ⟨⟨.t 23,.build [.int .i64 0,.int .i64 0] [(0,1,.t 19),(1,1,.t 22)],none⟩,false,false,[]⟩,⟨⟨.p 6,.alloc [.int .i64 0,.int .i64 0],none⟩,false,false,[1,4]⟩,⟨⟨.no,.store 2 (.p 6) (.t 23),none⟩,false,false,[]⟩]) (.seq (.reg [⟨.t 24,.fieldAddr 0 (.p 5),none⟩,
 ⟨.t 25,.load1 (.t 24),none⟩,⟨.t 26,.fieldAddr 1 (.p 5),none⟩,⟨.t 27,.load1 (.t 26),none⟩,⟨.t 28,.bin .leq (.t 25) (.t 27),none⟩,⟨.t 29,.mov (.t 28),none⟩,⟨.t 30,.fieldAddr 0 (.p 6),some (.t 29,true)⟩,
 ⟨.t 31,.load1 (.t 30),some (.t 29,true)⟩,⟨.t 32,.fieldAddr 1 (.p 6),some (.t 29,true)⟩,⟨.t 33,.load1 (.t 32),some (.t 29,true)⟩,⟨.t 34,.bin .lss (.t 31) (.t 33),some (.t 29,true)⟩,
 ⟨.p 35,.pick (.t 29) (.t 34) (.c (.bool false)),none⟩]) (.cond (.p 35) (.reg [⟨.t 36,.mov (.p 3),none⟩,⟨.t 37,.loadN 2 (.p 6),none⟩,⟨.t 38,.lit [.int .i64 0,.int .i64 0] 1 [(0,2,.t 37)],none⟩,
 ⟨.t 39,.append 2 16 (.t 36) (.t 38),none⟩,⟨.p 3,.mov (.t 39),none⟩]) (.skip)))))) (.reg [⟨.t 40,.bin .add (.p 13) (.c (.int .i64 1)),none⟩,⟨.p 13,.mov (.t 40),none⟩])))
def lb_runes_spans_1 : CCode :=
 .seq (.reg [⟨.p 46,.bin .lss (.p 45) (.p 44),none⟩]) (.seq (.cond (.p 46) (.skip) (.exit 2)) (.seq (.block 3 [7,43,44,45] (.seq (.reg [⟨.t 47,.idxAddr 2 (.p 43) (.p 45),none⟩,⟨.t 48,.loadN 2 (.t 47),none⟩,
 ⟨.p 9,.alloc [.int .i64 0,.int .i64 0],none⟩,⟨.no,.store 2 (.p 9) (.t 48),none⟩]) (.seq (.reg [⟨.t 49,.mov (.p 7),none⟩,⟨.t 50,.lenSl (.t 49),none⟩,⟨.p 10,.mov (.t 50),none⟩]) (.seq (.dreg [⟨⟨.t 51,.mov (.p 10),none⟩,false,false,[]⟩,
 ⟨⟨.t 52,.bin .gtr (.t 51) (.c (.int .i64 0)),none⟩,false,false,[]⟩,⟨⟨.t 53,.mov (.t 52),none⟩,false,false,[]⟩,⟨⟨.t 54,.fieldAddr 0 (.p 9),some (.t 53,true)⟩,false,false,[]⟩,⟨⟨.t 55,.load1 (.t 54),some (.t 53,true)⟩,false,false,[]⟩,
 ⟨⟨.t 56,.mov (.p 7),some (.t 53,true)⟩,false,false,[]⟩,⟨⟨.t 57,.mov (.p 10),some (.t 53,true)⟩,false,false,[]⟩,⟨⟨.t 58,.bin .sub (.t 57) (.c (.int .i64 1)),some (.t 53,true)⟩,false,false,[]⟩,
 ⟨⟨.t 59,.idxAddr 2 (.t 56) (.t 58),some (.t 53,true)⟩,false,false,[]⟩,⟨⟨.t 60,.fieldAddr 1 (.t 59),some (.t 53,true)⟩,false,false,[]⟩,⟨⟨.t 61,.load1 (.t 60),some (.t 53,true)⟩,false,false,[]⟩,
 ⟨⟨.t 62,.bin .leq (.t 55) (.t 61),some (.t 53,true)⟩,false,false,[]⟩,⟨⟨.p 63,.pick (.t 53) (.t 62) (.c (.bool false)),none⟩,false,false,[]⟩]) (.cond (.p 63) (.dreg [⟨⟨.t 64,.mov (.p 7),none⟩,false,false,[]⟩,
 ⟨⟨.t 65,.mov (.p 10),none⟩,false,false,[]⟩,⟨⟨.t 66,.bin .sub (.t 65) (.c (.int .i64 1)),none⟩,false,false,[]⟩,⟨⟨.t 67,.mov (.p 7),none⟩,false,false,[]⟩,⟨⟨.t 68,.mov (.p 10),none⟩,false,false,[]⟩,
 ⟨⟨.t 69,.bin .sub (.t 68) (.c (.int .i64 1)),none⟩,false,false,[]⟩,⟨⟨.t 70,.idxAddr 2 (.t 67) (.t 69),none⟩,false,false,[]⟩,⟨⟨.t 71,.fieldAddr 1 (.t 70),none⟩,false,false,[]⟩,⟨⟨.t 72,.load1 (.t 71),none⟩,false,false,[]⟩,
 ⟨⟨.t 73,.fieldAddr 1 (.p 9),none⟩,false,false,[]⟩,⟨⟨.t 74,.load1 (.t 73),none⟩,false,false,[]⟩,⟨⟨.t 75,.minmax true [.t 72,.t 74],none⟩,false,false,[]⟩,⟨⟨.t 76,.idxAddr 2 (.t 64) (.t 66),none⟩,false,false,[]⟩,
 ⟨⟨.t 77,.fieldAddr 1 (.t 76),none⟩,false,false,[]⟩,⟨⟨.no,.store 1 (.t 77) (.t 75),none⟩,false,false,[]⟩]) (.reg [⟨.t 78,.mov (.p 7),none⟩,⟨.t 79,.loadN 2 (.p 9),none⟩,⟨.t 80,.lit [.int .i64 0,.int .i64 0] 1 [(0,2,.t 79)],none⟩,
 ⟨.t 81,.append 2 16 (.t 78) (.t 80),none⟩,⟨.p 7,.mov (.t 81),none⟩])))))) (.reg [⟨.t 82,.bin .add (.p 45) (.c (.int .i64 1)),none⟩,⟨.p 45,.mov (.t 82),none⟩])))
def bd_runes_spans : CCode :=
 .seq (.reg [⟨.p 2,.mov (.c (.nils)),none⟩]) (.seq (.reg [⟨.p 3,.mov (.c (.nils)),none⟩]) (.seq (.seq (.reg [⟨.p 11,.mov (.p 0),none⟩,⟨.p 12,.lenSl (.p 11),none⟩,⟨.p 13,.mov (.c (.int .i64 0)),none⟩]) (.block 0 [3] (.loop [3,11,12,13] lb_runes_spans_0))) (.seq (.reg [⟨.t 41,.mov (.p 3),none⟩,
 ⟨.t 42,.call F_slices_SortFunc_runes_span_runes_span [.t 41,.f F_runes_spans_1],none⟩]) (.seq (.reg [⟨.p 7,.mov (.c (.nils)),none⟩]) (.seq (.seq (.reg [⟨.p 43,.mov (.p 3),none⟩,⟨.p 44,.lenSl (.p 43),none⟩,
 ⟨.p 45,.mov (.c (.int .i64 0)),none⟩]) (.block 2 [7] (.loop [7,43,44,45] lb_runes_spans_1))) (.seq (.reg [⟨.t 83,.mov (.p 7),none⟩,⟨.p 2,.mov (.t 83),none⟩]) (.ret)))))))
def cf_runes_spans : CFunc :=
{ nargs := 1,ps := [0,2,3,5,6,7,9,10,11,12,13,14,35,43,44,45,46,63],results := [.slot 2],body := bd_runes_spans }
def bd_runes_Not_1 : CCode :=
 .seq (.reg [⟨.t 4,.load1 (.p 1),none⟩,⟨.t 5,.mov (.p 0),none⟩,⟨.p 6,.bin .lss (.t 4) (.t 5),none⟩]) (.cond (.p 6) (.reg [⟨.t 7,.load1 (.p 2),none⟩,⟨.t 8,.load1 (.p 1),none⟩,⟨.t 9,.mov (.p 0),none⟩,
 ⟨.t 10,.build [.int .i64 0,.int .i64 0] [(0,1,.t 8),(1,1,.t 9)],none⟩,⟨.t 11,.lit [.int .i64 0,.int .i64 0] 1 [(0,2,.t 10)],none⟩,⟨.t 12,.append 2 16 (.t 7) (.t 11),none⟩,⟨.no,.store 1 (.p 2) (.t 12),none⟩]) (.skip))
def cf_runes_Not_1 : CFunc :=
{ nargs := 3,ps := [0,1,2,6],results := [],body := bd_runes_Not_1 }
def lb_goboref11_E_escape_0 : CCode :=
 .seq (.seq (.reg [⟨.t 67,.mov (.p 5),none⟩,⟨.p 68,.bin .lss (.t 67) (.c (.int .i64 6)),none⟩]) (.cond (.p 68) (.skip) (.exit 1))) (.block 2 [0,4,5] (.seq (.reg [⟨.t 69,.mov (.p 0),none⟩,
 ⟨.t 70,.call F_goboref11_E_peek [.t 69],none⟩,⟨.p 6,.mov (.t 70),none⟩]) (.seq (.block 3 [0,4,5,6] (.seq (.reg [⟨.t 72,.mov (.p 6),none⟩,⟨.t 73,.bin .geq (.t 72) (.c (.int .i32 48)),none⟩,
 ⟨.t 74,.mov (.t 73),none⟩,⟨.t 75,.mov (.p 6),some (.t 74,true)⟩,⟨.t 76,.bin .leq (.t 75) (.c (.int .i32 57)),some (.t 74,true)⟩,⟨.t 77,.pick (.t 74) (.t 76) (.c (.bool false)),none⟩,
 ⟨.p 71,.mov (.t 77),none⟩]) (.cond (.p 71) (.reg [⟨.t 78,.mov (.p 6),none⟩,⟨.t 79,.bin .sub (.t 78) (.c (.int .i32 48)),none⟩,⟨.p 6,.mov (.t 79),none⟩]) (.seq (.reg [⟨.t 81,.mov (.p 6),none⟩,
 ⟨.t 82,.bin .geq (.t 81) (.c (.int .i32 65)),none⟩,⟨.t 83,.mov (.t 82),none⟩,⟨.t 84,.mov (.p 6),some (.t 83,true)⟩,⟨.t 85,.bin .leq (.t 84) (.c (.int .i32 70)),some (.t 83,true)⟩,⟨.t 86,.pick (.t 83) (.t 85) (.c (.bool false)),none⟩,
 ⟨.p 80,.mov (.t 86),none⟩]) (.cond (.p 80) (.reg [⟨.t 87,.mov (.p 6),none⟩,⟨.t 88,.bin .sub (.t 87) (.c (.int .i32 65)),none⟩,⟨.t 89,.bin .add (.t 88) (.c (.int .i32 10)),none⟩,⟨.p 6,.mov (.t 89),none⟩]) (.reg [⟨.p 6,.mov (.c (.int .i32 (-1))),none⟩])))))) (.seq (.seq (.reg [⟨.t 90,.mov (.p 6),none⟩,
 ⟨.t 91,.bin .lss (.t 90) (.c (.int .i32 0)),none⟩,⟨.t 92,.mov (.t 91),none⟩,⟨.t 93,.mov (.p 4),some (.t 92,false)⟩,⟨.t 94,.bin .mul (.t 93) (.c (.int .i32 16)),some (.t 92,false)⟩,
 ⟨.t 95,.mov (.p 6),some (.t 92,false)⟩,⟨.t 96,.bin .add (.t 94) (.t 95),some (.t 92,false)⟩,⟨.t 97,.call F_goboref3_Scalar [.t 96],some (.t 92,false)⟩,⟨.t 98,.un .not (.t 97),some (.t 92,false)⟩,
 ⟨.t 99,.mov (.t 98),some (.t 92,false)⟩,⟨.t 100,.mov (.p 4),some (.t 99,true)⟩,⟨.t 101,.bin .mul (.t 100) (.c (.int .i32 16)),some (.t 99,true)⟩,⟨.t 102,.mov (.p 6),some (.t 99,true)⟩,
 ⟨.t 103,.bin .add (.t 101) (.t 102),some (.t 99,true)⟩,⟨.t 104,.bin .gtr (.t 103) (.c (.int .i32 1114111)),some (.t 99,true)⟩,⟨.t 105,.pick (.t 99) (.t 104) (.c (.bool false)),some (.t 92,false)⟩,
 ⟨.p 106,.pick (.t 92) (.c (.bool true)) (.t 105),none⟩]) (.cond (.p 106) (.exit 1) (.skip))) (.seq (.reg [⟨.t 107,.mov (.p 4),none⟩,⟨.t 108,.bin .mul (.t 107) (.c (.int .i32 16)),none⟩,
 ⟨.t 109,.mov (.p 6),none⟩,⟨.t 110,.bin .add (.t 108) (.t 109),none⟩,⟨.t 111,.mov (.p 5),none⟩,⟨.t 112,.bin .add (.t 111) (.c (.int .i64 1)),none⟩,⟨.p 4,.mov (.t 110),none⟩,⟨.p 5,.mov (.t 112),none⟩]) (.reg [⟨.t 113,.mov (.p 0),none⟩,
 ⟨.t 114,.nilCheck (.t 113),none⟩,⟨.t 115,.fieldAddr 2 (.t 114),none⟩,⟨.t 116,.load1 (.t 115),none⟩,⟨.t 117,.bin .add (.t 116) (.c (.int .i64 1)),none⟩,⟨.t 118,.nilCheck (.t 113),none⟩,
 ⟨.t 119,.fieldAddr 2 (.t 118),none⟩,⟨.no,.store 1 (.t 119) (.t 117),none⟩]))))))
def bd_goboref11_E_escape : CCode :=
 .seq (.reg [⟨.p 2,.mov (.c (.int .i32 0)),none⟩]) (.seq (.reg [⟨.t 7,.mov (.p 0),none⟩,⟨.t 8,.call F_goboref11_E_peek [.t 7],none⟩,⟨.p 3,.mov (.t 8),none⟩]) (.seq (.block 0 [0] (.seq (.reg [⟨.t 10,.mov (.p 3),none⟩,
 ⟨.t 11,.bin .eql (.t 10) (.c (.int .i32 110)),none⟩,⟨.p 9,.mov (.t 11),none⟩]) (.cond (.p 9) (.seq (.reg [⟨.t 12,.mov (.p 0),none⟩,⟨.t 13,.nilCheck (.t 12),none⟩,⟨.t 14,.fieldAddr 2 (.t 13),none⟩,
 ⟨.t 15,.load1 (.t 14),none⟩,⟨.t 16,.bin .add (.t 15) (.c (.int .i64 1)),none⟩,⟨.t 17,.nilCheck (.t 12),none⟩,⟨.t 18,.fieldAddr 2 (.t 17),none⟩,⟨.no,.store 1 (.t 18) (.t 16),none⟩]) (.seq (.reg [⟨.p 2,.mov (.c (.int .i32 10)),none⟩]) (.ret))) (.seq (.reg [⟨.t 20,.mov (.p 3),none⟩,
 ⟨.t 21,.bin .eql (.t 20) (.c (.int .i32 114)),none⟩,⟨.p 19,.mov (.t 21),none⟩]) (.cond (.p 19) (.seq (.reg [⟨.t 22,.mov (.p 0),none⟩,⟨.t 23,.nilCheck (.t 22),none⟩,⟨.t 24,.fieldAddr 2 (.t 23),none⟩,
 ⟨.t 25,.load1 (.t 24),none⟩,⟨.t 26,.bin .add (.t 25) (.c (.int .i64 1)),none⟩,⟨.t 27,.nilCheck (.t 22),none⟩,⟨.t 28,.fieldAddr 2 (.t 27),none⟩,⟨.no,.store 1 (.t 28) (.t 26),none⟩]) (.seq (.reg [⟨.p 2,.mov (.c (.int .i32 13)),none⟩]) (.ret))) (.seq (.reg [⟨.t 30,.mov (.p 3),none⟩,
 ⟨.t 31,.bin .eql (.t 30) (.c (.int .i32 116)),none⟩,⟨.p 29,.mov (.t 31),none⟩]) (.cond (.p 29) (.seq (.reg [⟨.t 32,.mov (.p 0),none⟩,⟨.t 33,.nilCheck (.t 32),none⟩,⟨.t 34,.fieldAddr 2 (.t 33),none⟩,
 ⟨.t 35,.load1 (.t 34),none⟩,⟨.t 36,.bin .add (.t 35) (.c (.int .i64 1)),none⟩,⟨.t 37,.nilCheck (.t 32),none⟩,⟨.t 38,.fieldAddr 2 (.t 37),none⟩,⟨.no,.store 1 (.t 38) (.t 36),none⟩]) (.seq (.reg [⟨.p 2,.mov (.c (.int .i32 9)),none⟩]) (.ret))) (.seq (.reg [⟨.t 40,.mov (.p 3),none⟩,
 ⟨.t 41,.call F_goboref11_among [.c (.str [47,124,42,40,41,91,93,92,46,45,94,123,125]),.t 40],none⟩,⟨.p 39,.mov (.t 41),none⟩]) (.cond (.p 39) (.seq (.reg [⟨.t 42,.mov (.p 0),none⟩,
 ⟨.t 43,.nilCheck (.t 42),none⟩,⟨.t 44,.fieldAddr 2 (.t 43),none⟩,⟨.t 45,.load1 (.t 44),none⟩,⟨.t 46,.bin .add (.t 45) (.c (.int .i64 1)),none⟩,⟨.t 47,.nilCheck (.t 42),none⟩,⟨.t 48,.fieldAddr 2 (.t 47),none⟩,
 ⟨.no,.store 1 (.t 48) (.t 46),none⟩]) (.seq (.reg [⟨.t 49,.mov (.p 3),none⟩,⟨.p 2,.mov (.t 49),none⟩]) (.ret))) (.seq (.reg [⟨.t 51,.mov (.p 3),none⟩,⟨.t 52,.bin .neq (.t 51) (.c (.int .i32 117)),none⟩,
 ⟨.p 50,.mov (.t 52),none⟩]) (.cond (.p 50) (.seq (.reg [⟨.t 53,.mov (.p 0),none⟩,⟨.t 54,.call F_goboref11_E_fail [.t 53,.c (.int .i64 3)],none⟩]) (.seq (.reg [⟨.p 2,.mov (.c (.int .i32 0)),none⟩]) (.ret))) (.skip)))))))))))) (.seq (.reg [⟨.t 55,.mov (.p 0),none⟩,
 ⟨.t 56,.nilCheck (.t 55),none⟩,⟨.t 57,.fieldAddr 2 (.t 56),none⟩,⟨.t 58,.load1 (.t 57),none⟩,⟨.t 59,.bin .add (.t 58) (.c (.int .i64 1)),none⟩,⟨.t 60,.nilCheck (.t 55),none⟩,⟨.t 61,.fieldAddr 2 (.t 60),none⟩,
 ⟨.no,.store 1 (.t 61) (.t 59),none⟩]) (.seq (.seq (.reg [⟨.t 62,.mov (.p 0),none⟩,⟨.t 63,.call F_goboref11_E_take [.t 62,.c (.int .i32 123)],none⟩,⟨.p 64,.un .not (.t 63),none⟩]) (.cond (.p 64) (.seq (.reg [⟨.t 65,.mov (.p 0),none⟩,
 ⟨.t 66,.call F_goboref11_E_fail [.t 65,.c (.int .i64 3)],none⟩]) (.seq (.reg [⟨.p 2,.mov (.c (.int .i32 0)),none⟩]) (.ret))) (.skip))) (.seq (.reg [⟨.p 4,.mov (.c (.int .i32 0)),none⟩,
 ⟨.p 5,.mov (.c (.int .i64 0)),none⟩]) (.seq (.block 1 [0,4,5] (.loop [0,4,5] lb_goboref11_E_escape_0)) (.seq (.seq (.reg [⟨.t 120,.mov (.p 5),none⟩,⟨.t 121,.bin .eql (.t 120) (.c (.int .i64 0)),none⟩,
 ⟨.t 122,.mov (.t 121),none⟩,⟨.t 123,.mov (.p 0),some (.t 122,false)⟩,⟨.t 124,.call F_goboref11_E_peek [.t 123],some (.t 122,false)⟩,⟨.t 125,.bin .neq (.t 124) (.c (.int .i32 125)),some (.t 122,false)⟩,
 ⟨.t 126,.pick (.t 122) (.c (.bool true)) (.t 125),none⟩,⟨.t 127,.mov (.t 126),none⟩,⟨.t 128,.mov (.p 4),some (.t 127,false)⟩,⟨.t 129,.call F_goboref3_Scalar [.t 128],some (.t 127,false)⟩,
 ⟨.t 130,.un .not (.t 129),some (.t 127,false)⟩,⟨.p 131,.pick (.t 127) (.c (.bool true)) (.t 130),none⟩]) (.cond (.p 131) (.seq (.reg [⟨.t 132,.mov (.p 0),none⟩,⟨.t 133,.call F_goboref11_E_fail [.t 132,.c (.int .i64 3)],none⟩]) (.seq (.reg [⟨.p 2,.mov (.c (.int .i32 0)),none⟩]) (.ret))) (.skip))) (.seq (.reg [⟨.t 134,.mov (.p 0),none⟩,
 ⟨.t 135,.nilCheck (.t 134),none⟩,⟨.t 136,.fieldAddr 2 (.t 135),none⟩,⟨.t 137,.load1 (.t 136),none⟩,⟨.t 138,.bin .add (.t 137) (.c (.int .i64 1)),none⟩,⟨.t 139,.nilCheck (.t 134),none⟩,
 ⟨.t 140,.fieldAddr 2 (.t 139),none⟩,⟨.no,.store 1 (.t 140) (.t 138),none⟩]) (.seq (.reg [⟨.t 141,.mov (.p 4),none⟩,⟨.p 2,.mov (.t 141),none⟩]) (.ret))))))))))
def cf_goboref11_E_escape : CFunc :=
{ nargs := 1,ps := [0,2,3,4,5,6,9,19,29,39,50,64,68,71,80,106,131],results := [.slot 2],body := bd_goboref11_E_escape }
end Go.Ev
