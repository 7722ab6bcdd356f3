/- Functions of the program, printed by gen.py. -/
import Derived.Test.YtifhmogcdgfojaaGreatDoorT18
set_option linter.unusedSimpArgs false
set_option linter.unusedVariables false
namespace Go.Ev
open Go
def bd_gobolaw14_PrintOnce : CCode :=
 .seq (.reg [⟨.p 4,.mov (.c (.bool false)),none⟩]) (.seq (.reg [⟨.t 12,.mov (.p 0),none⟩,⟨.t 13,.call F_gobolaw6_Make [.t 12],none⟩,⟨.t 14,.mov (.p 1),none⟩,⟨.t 15,.call F_gobolaw6_Make [.t 14],none⟩,
 ⟨.p 5,.alloc [.int .i64 0,.nils,.nils],none⟩,⟨.p 6,.alloc [.int .i64 0,.nils,.nils],none⟩,⟨.no,.store 3 (.p 5) (.t 13),none⟩,⟨.no,.store 3 (.p 6) (.t 15),none⟩]) (.seq (.dreg [⟨⟨.t 16,.loadN 3 (.p 5),none⟩,false,false,[]⟩,
 ⟨⟨.t 17,.call F_print_Re [.t 16],none⟩,true,false,[]⟩,⟨⟨.t 18,.loadN 3 (.p 6),none⟩,false,false,[1]⟩,⟨⟨.t 19,.call F_print_Re [.t 18],none⟩,false,false,[]⟩,⟨⟨.p 7,.mov (.t 17),none⟩,false,false,[]⟩,
 ⟨⟨.p 8,.mov (.t 19),none⟩,false,false,[]⟩]) (.seq (.reg [⟨.t 21,.mov (.p 7),none⟩,⟨.t 22,.call F_parse_Re [.t 21],none⟩,⟨.t 20,.mov (.t 22),none⟩,⟨.t 23,.extract (.t 20) 0,none⟩,⟨.t 24,.extract (.t 20) 1,none⟩,
 ⟨.t 25,.extract (.t 20) 2,none⟩,⟨.p 9,.alloc [.int .i64 0,.nils,.nils],none⟩,⟨.no,.store 3 (.p 9) (.t 23),none⟩,⟨.p 10,.mov (.t 24),none⟩,⟨.t 11,.mov (.t 25),none⟩]) (.seq (.reg [⟨.t 26,.call F_gobolaw14_told [],none⟩,
 ⟨.t 27,.mov (.t 26),none⟩,⟨.t 28,.mov (.p 10),some (.t 27,true)⟩,⟨.t 29,.bin .eql (.t 28) (.c (.int .i64 0)),some (.t 27,true)⟩,⟨.t 30,.pick (.t 27) (.t 29) (.c (.bool false)),none⟩,
 ⟨.t 31,.mov (.t 30),none⟩,⟨.t 32,.loadN 3 (.p 9),some (.t 31,true)⟩,⟨.t 33,.call F_print_Re [.t 32],some (.t 31,true)⟩,⟨.t 34,.mov (.p 7),some (.t 31,true)⟩,⟨.t 35,.bin .eql (.t 33) (.t 34),some (.t 31,true)⟩,
 ⟨.t 36,.pick (.t 31) (.t 35) (.c (.bool false)),none⟩,⟨.t 37,.mov (.t 36),none⟩,⟨.t 38,.mov (.p 7),some (.t 37,true)⟩,⟨.t 39,.mov (.p 8),some (.t 37,true)⟩,⟨.t 40,.bin .eql (.t 38) (.t 39),some (.t 37,true)⟩,
 ⟨.t 41,.loadN 3 (.p 5),some (.t 37,true)⟩,⟨.t 42,.loadN 3 (.p 6),some (.t 37,true)⟩,⟨.t 43,.call F_regex_Same [.t 41,.t 42],some (.t 37,true)⟩,⟨.t 44,.eqv false .bool (.t 40) (.t 43),some (.t 37,true)⟩,
 ⟨.t 45,.pick (.t 37) (.t 44) (.c (.bool false)),none⟩,⟨.p 4,.mov (.t 45),none⟩]) (.ret)))))
def cf_gobolaw14_PrintOnce : CFunc :=
{ nargs := 2,ps := [0,1,4,5,6,7,8,9,10],results := [.slot 4],body := bd_gobolaw14_PrintOnce }
def lb_gobolaw6_Make_0 : CCode :=
 .seq (.seq (.reg [⟨.t 10,.mov (.p 4),none⟩,⟨.t 11,.mov (.p 0),none⟩,⟨.t 12,.lenSl (.t 11),none⟩,⟨.t 13,.bin .lss (.t 10) (.t 12),none⟩,⟨.t 14,.mov (.t 13),none⟩,⟨.t 15,.mov (.p 4),some (.t 14,true)⟩,
 ⟨.t 16,.bin .lss (.t 15) (.c (.int .i64 14)),some (.t 14,true)⟩,⟨.p 17,.pick (.t 14) (.t 16) (.c (.bool false)),none⟩]) (.cond (.p 17) (.skip) (.exit 0))) (.seq (.block 1 [0,2,3,4] (.seq (.reg [⟨.t 20,.mov (.p 3),none⟩,
 ⟨.t 21,.lenSl (.t 20),none⟩,⟨.p 5,.mov (.t 21),none⟩]) (.seq (.reg [⟨.t 22,.mov (.p 0),none⟩,⟨.t 23,.mov (.p 4),none⟩,⟨.t 24,.idxAddr 1 (.t 22) (.t 23),none⟩,⟨.t 25,.load1 (.t 24),none⟩,
 ⟨.t 26,.convI .u64 (.t 25),none⟩,⟨.t 27,.bin .rem (.t 26) (.c (.int .u64 9)),none⟩,⟨.t 28,.convI .i64 (.t 27),none⟩,⟨.p 6,.mov (.t 28),none⟩]) (.block 2 [0,2,3,4] (.seq (.reg [⟨.t 30,.mov (.p 6),none⟩,
 ⟨.t 31,.bin .lss (.t 30) (.c (.int .i64 4)),none⟩,⟨.t 32,.mov (.t 31),none⟩,⟨.t 33,.mov (.p 5),some (.t 32,false)⟩,⟨.t 34,.bin .eql (.t 33) (.c (.int .i64 0)),some (.t 32,false)⟩,⟨.t 35,.pick (.t 32) (.c (.bool true)) (.t 34),none⟩,
 ⟨.p 29,.mov (.t 35),none⟩]) (.cond (.p 29) (.seq (.reg [⟨.t 36,.mov (.p 0),none⟩,⟨.t 37,.mov (.p 4),none⟩,⟨.t 38,.idxAddr 1 (.t 36) (.t 37),none⟩,⟨.t 39,.load1 (.t 38),none⟩,⟨.t 40,.bin .and (.t 39) (.c (.int .i64 1)),none⟩,
 ⟨.t 41,.bin .add (.c (.int .i64 97)) (.t 40),none⟩,⟨.t 42,.convI .i32 (.t 41),none⟩,⟨.p 7,.mov (.t 42),none⟩]) (.reg [⟨.t 43,.mov (.p 3),none⟩,⟨.t 44,.mov (.p 7),none⟩,⟨.t 45,.mov (.p 7),none⟩,
 ⟨.t 46,.mov (.p 6),none⟩,⟨.t 47,.bin .and (.t 46) (.c (.int .i64 1)),none⟩,⟨.t 48,.convI .i32 (.t 47),none⟩,⟨.t 49,.bin .add (.t 45) (.t 48),none⟩,⟨.t 50,.build [.int .i32 0,.int .i32 0] [(0,1,.t 44),(1,1,.t 49)],none⟩,
 ⟨.t 51,.lit [.int .i32 0,.int .i32 0] 1 [(0,2,.t 50)],none⟩,⟨.t 52,.build [.int .i64 0,.nils,.nils] [(0,1,.c (.int .i64 2)),(1,1,.t 51)],none⟩,⟨.t 53,.lit [.int .i64 0,.nils,.nils] 1 [(0,3,.t 52)],none⟩,
 ⟨.t 54,.append 3 56 (.t 43) (.t 53),none⟩,⟨.p 3,.mov (.t 54),none⟩])) (.seq (.reg [⟨.t 56,.mov (.p 6),none⟩,⟨.t 57,.bin .eql (.t 56) (.c (.int .i64 4)),none⟩,⟨.p 55,.mov (.t 57),none⟩]) (.cond (.p 55) (.reg [⟨.t 58,.mov (.p 3),none⟩,
 ⟨.t 59,.mov (.p 5),none⟩,⟨.t 60,.bin .sub (.t 59) (.c (.int .i64 1)),none⟩,⟨.t 61,.mov (.p 3),none⟩,⟨.t 62,.mov (.p 5),none⟩,⟨.t 63,.bin .sub (.t 62) (.c (.int .i64 1)),none⟩,⟨.t 64,.idxAddr 3 (.t 61) (.t 63),none⟩,
 ⟨.t 65,.loadN 3 (.t 64),none⟩,⟨.t 66,.lit [.int .i64 0,.nils,.nils] 1 [(0,3,.t 65)],none⟩,⟨.t 67,.build [.int .i64 0,.nils,.nils] [(0,1,.c (.int .i64 5)),(2,1,.t 66)],none⟩,⟨.t 68,.idxAddr 3 (.t 58) (.t 60),none⟩,
 ⟨.no,.store 3 (.t 68) (.t 67),none⟩]) (.seq (.reg [⟨.t 70,.mov (.p 5),none⟩,⟨.t 71,.bin .gtr (.t 70) (.c (.int .i64 1)),none⟩,⟨.t 72,.mov (.t 71),none⟩,⟨.t 73,.mov (.p 6),some (.t 72,true)⟩,
 ⟨.t 74,.bin .lss (.t 73) (.c (.int .i64 7)),some (.t 72,true)⟩,⟨.t 75,.pick (.t 72) (.t 74) (.c (.bool false)),none⟩,⟨.p 69,.mov (.t 75),none⟩]) (.cond (.p 69) (.dreg [⟨⟨.t 76,.mov (.p 3),none⟩,false,false,[]⟩,
 ⟨⟨.t 77,.mov (.p 5),none⟩,false,false,[]⟩,⟨⟨.t 78,.bin .sub (.t 77) (.c (.int .i64 2)),none⟩,false,false,[]⟩,⟨⟨.t 79,.mov (.p 5),none⟩,false,false,[]⟩,⟨⟨.t 80,.bin .sub (.t 79) (.c (.int .i64 2)),none⟩,false,false,[]⟩,
 ⟨⟨.t 81,.sliceSl 3 (.t 76) none (some (.t 78)) (some (.t 80)),none⟩,false,false,[]⟩,⟨⟨.t 82,.mov (.p 3),none⟩,false,false,[]⟩,⟨⟨.t 83,.mov (.p 5),none⟩,false,false,[]⟩,⟨⟨.t 84,.bin .sub (.t 83) (.c (.int .i64 2)),none⟩,false,false,[]⟩,
 ⟨⟨.t 85,.idxAddr 3 (.t 82) (.t 84),none⟩,false,false,[]⟩,⟨⟨.t 86,.loadN 3 (.t 85),none⟩,false,false,[]⟩,⟨⟨.t 87,.mov (.p 3),none⟩,false,false,[]⟩,⟨⟨.t 88,.mov (.p 5),none⟩,false,false,[]⟩,
 ⟨⟨.t 89,.bin .sub (.t 88) (.c (.int .i64 1)),none⟩,false,false,[]⟩,⟨⟨.t 90,.idxAddr 3 (.t 87) (.t 89),none⟩,false,false,[]⟩,⟨⟨.t 91,.loadN 3 (.t 90),none⟩,false,false,[]⟩,⟨⟨.t 92,.lit [.int .i64 0,.nils,.nils,.int .i64 0,.nils,.nils] 2 [(0,3,.t 86),(3,3,.t 91)],none⟩,false,false,[]⟩,
 ⟨⟨.t 93,.build [.int .i64 0,.nils,.nils] [(0,1,.c (.int .i64 3)),(2,1,.t 92)],none⟩,false,false,[]⟩,⟨⟨.t 94,.lit [.int .i64 0,.nils,.nils] 1 [(0,3,.t 93)],none⟩,false,false,[]⟩,⟨⟨.t 95,.append 3 56 (.t 81) (.t 94),none⟩,false,false,[]⟩,
 ⟨⟨.p 3,.mov (.t 95),none⟩,false,false,[]⟩]) (.seq (.reg [⟨.t 97,.mov (.p 5),none⟩,⟨.t 98,.bin .gtr (.t 97) (.c (.int .i64 1)),none⟩,⟨.p 96,.mov (.t 98),none⟩]) (.cond (.p 96) (.dreg [⟨⟨.t 99,.mov (.p 3),none⟩,false,false,[]⟩,
 ⟨⟨.t 100,.mov (.p 5),none⟩,false,false,[]⟩,⟨⟨.t 101,.bin .sub (.t 100) (.c (.int .i64 2)),none⟩,false,false,[]⟩,⟨⟨.t 102,.mov (.p 5),none⟩,false,false,[]⟩,⟨⟨.t 103,.bin .sub (.t 102) (.c (.int .i64 2)),none⟩,false,false,[]⟩,
 ⟨⟨.t 104,.sliceSl 3 (.t 99) none (some (.t 101)) (some (.t 103)),none⟩,false,false,[]⟩,⟨⟨.t 105,.mov (.p 3),none⟩,false,false,[]⟩,⟨⟨.t 106,.mov (.p 5),none⟩,false,false,[]⟩,⟨⟨.t 107,.bin .sub (.t 106) (.c (.int .i64 2)),none⟩,false,false,[]⟩,
 ⟨⟨.t 108,.idxAddr 3 (.t 105) (.t 107),none⟩,false,false,[]⟩,⟨⟨.t 109,.loadN 3 (.t 108),none⟩,false,false,[]⟩,⟨⟨.t 110,.mov (.p 3),none⟩,false,false,[]⟩,⟨⟨.t 111,.mov (.p 5),none⟩,false,false,[]⟩,
 ⟨⟨.t 112,.bin .sub (.t 111) (.c (.int .i64 1)),none⟩,false,false,[]⟩,⟨⟨.t 113,.idxAddr 3 (.t 110) (.t 112),none⟩,false,false,[]⟩,⟨⟨.t 114,.loadN 3 (.t 113),none⟩,false,false,[]⟩,⟨⟨.t 115,.lit [.int .i64 0,.nils,.nils,.int .i64 0,.nils,.nils] 2 [(0,3,.t 109),(3,3,.t 114)],none⟩,false,false,[]⟩,
 ⟨⟨.t 116,.build [.int .i64 0,.nils,.nils] [(0,1,.c (.int .i64 4)),(2,1,.t 115)],none⟩,false,false,[]⟩,⟨⟨.t 117,.lit [.int .i64 0,.nils,.nils] 1 [(0,3,.t 116)],none⟩,false,false,[]⟩,
 ⟨⟨.t 118,.append 3 56 (.t 104) (.t 117),none⟩,false,false,[]⟩,⟨⟨.p 3,.mov (.t 118),none⟩,false,false,[]⟩]) (.seq (.reg [⟨.t 120,.mov (.p 6),none⟩,⟨.t 121,.bin .eql (.t 120) (.c (.int .i64 8)),none⟩,
 ⟨.p 119,.mov (.t 121),none⟩]) (.cond (.p 119) (.reg [⟨.t 122,.mov (.p 3),none⟩,⟨.t 123,.build [.int .i64 0,.nils,.nils] [(0,1,.c (.int .i64 1))],none⟩,⟨.t 124,.lit [.int .i64 0,.nils,.nils] 1 [(0,3,.t 123)],none⟩,
 ⟨.t 125,.append 3 56 (.t 122) (.t 124),none⟩,⟨.p 3,.mov (.t 125),none⟩]) (.skip))))))))))))))) (.reg [⟨.t 18,.mov (.p 4),none⟩,⟨.t 19,.bin .add (.t 18) (.c (.int .i64 1)),none⟩,⟨.p 4,.mov (.t 19),none⟩]))
def lb_gobolaw6_Make_1 : CCode :=
 .seq (.seq (.reg [⟨.t 133,.mov (.p 9),none⟩,⟨.t 134,.mov (.p 3),none⟩,⟨.t 135,.lenSl (.t 134),none⟩,⟨.p 136,.bin .lss (.t 133) (.t 135),none⟩]) (.cond (.p 136) (.skip) (.exit 3))) (.seq (.block 4 [2,3,8,9] (.dreg [⟨⟨.t 139,.loadN 3 (.p 8),none⟩,false,false,[]⟩,
 ⟨⟨.t 140,.mov (.p 3),none⟩,false,false,[]⟩,⟨⟨.t 141,.mov (.p 9),none⟩,false,false,[]⟩,⟨⟨.t 142,.idxAddr 3 (.t 140) (.t 141),none⟩,false,false,[]⟩,⟨⟨.t 143,.loadN 3 (.t 142),none⟩,false,false,[]⟩,
 ⟨⟨.t 144,.lit [.int .i64 0,.nils,.nils,.int .i64 0,.nils,.nils] 2 [(0,3,.t 139),(3,3,.t 143)],none⟩,false,false,[]⟩,⟨⟨.t 145,.build [.int .i64 0,.nils,.nils] [(0,1,.c (.int .i64 3)),(2,1,.t 144)],none⟩,false,false,[]⟩,
 ⟨⟨.no,.store 3 (.p 8) (.t 145),none⟩,false,false,[]⟩])) (.reg [⟨.t 137,.mov (.p 9),none⟩,⟨.t 138,.bin .add (.t 137) (.c (.int .i64 1)),none⟩,⟨.p 9,.mov (.t 138),none⟩]))
def bd_gobolaw6_Make : CCode :=
 .seq (.reg [⟨.p 2,.alloc [.int .i64 0,.nils,.nils],none⟩]) (.seq (.reg [⟨.p 3,.mov (.c (.nils)),none⟩]) (.seq (.seq (.reg [⟨.p 4,.mov (.c (.int .i64 0)),none⟩]) (.block 0 [2,3] (.loop [0,2,3,4] lb_gobolaw6_Make_0))) (.seq (.seq (.reg [⟨.t 126,.mov (.p 3),none⟩,
 ⟨.t 127,.lenSl (.t 126),none⟩,⟨.p 128,.bin .eql (.t 127) (.c (.int .i64 0)),none⟩]) (.cond (.p 128) (.seq (.reg [⟨.t 129,.call F_gobolaw6_One [.c (.int .i32 97)],none⟩,⟨.no,.store 3 (.p 2) (.t 129),none⟩]) (.ret)) (.skip))) (.seq (.reg [⟨.t 130,.mov (.p 3),none⟩,
 ⟨.t 131,.idxAddr 3 (.t 130) (.c (.int .i64 0)),none⟩,⟨.t 132,.loadN 3 (.t 131),none⟩,⟨.p 8,.alloc [.int .i64 0,.nils,.nils],none⟩,⟨.no,.store 3 (.p 8) (.t 132),none⟩]) (.seq (.seq (.reg [⟨.p 9,.mov (.c (.int .i64 1)),none⟩]) (.block 3 [2,8] (.loop [2,3,8,9] lb_gobolaw6_Make_1))) (.seq (.seq (.reg [⟨.t 146,.loadN 3 (.p 8),none⟩,
 ⟨.t 147,.call F_goboref6_May [.t 146],none⟩,⟨.p 148,.un .not (.t 147),none⟩]) (.cond (.p 148) (.seq (.reg [⟨.t 149,.call F_gobolaw6_One [.c (.int .i32 98)],none⟩,⟨.no,.store 3 (.p 2) (.t 149),none⟩]) (.ret)) (.skip))) (.seq (.reg [⟨.t 150,.loadN 3 (.p 8),none⟩,
 ⟨.no,.store 3 (.p 2) (.t 150),none⟩]) (.ret))))))))
def cf_gobolaw6_Make : CFunc :=
{ nargs := 1,ps := [0,2,3,4,5,6,7,8,9,17,29,55,69,96,119,128,136,148],results := [.cellN 2 3],body := bd_gobolaw6_Make }
def bd_print_Re : CCode :=
 .seq (.reg [⟨.p 1,.box (.p 0),none⟩,⟨.p 2,.mov (.c (.str [])),none⟩]) (.seq (.seq (.reg [⟨.t 3,.loadN 3 (.p 1),none⟩,⟨.t 4,.call F_regex_May [.t 3],none⟩,⟨.p 5,.un .not (.t 4),none⟩]) (.cond (.p 5) (.seq (.reg [⟨.p 2,.mov (.c (.str [])),none⟩]) (.ret)) (.skip))) (.seq (.reg [⟨.t 6,.loadN 3 (.p 1),none⟩,
 ⟨.t 7,.call F_print_re [.t 6],none⟩,⟨.p 2,.mov (.t 7),none⟩]) (.ret)))
def cf_print_Re : CFunc :=
{ nargs := 1,ps := [0,1,2,5],results := [.slot 2],body := bd_print_Re }
def bd_parse_Re : CCode :=
 .seq (.reg [⟨.p 1,.box (.p 0),none⟩,⟨.p 2,.alloc [.int .i64 0,.nils,.nils],none⟩,⟨.p 3,.mov (.c (.int .i64 0)),none⟩,⟨.p 4,.mov (.c (.int .i64 0)),none⟩]) (.seq (.reg [⟨.p 5,.alloc [.int .i64 0,.nils,.nils],none⟩]) (.seq (.reg [⟨.t 7,.mkFn F_parse_Re_1 [.p 1,.p 5],none⟩,
 ⟨.t 8,.call F_word_Caught [.t 7],none⟩,⟨.p 6,.alloc [.int .i64 0,.int .i64 0],none⟩,⟨.no,.store 2 (.p 6) (.t 8),none⟩]) (.seq (.seq (.reg [⟨.t 9,.fieldAddr 0 (.p 6),none⟩,⟨.t 10,.load1 (.t 9),none⟩,
 ⟨.p 11,.bin .neq (.t 10) (.c (.int .i64 0)),none⟩]) (.cond (.p 11) (.seq (.dreg [⟨⟨.t 12,.build [.int .i64 0,.nils,.nils] [],none⟩,false,false,[]⟩,⟨⟨.t 13,.fieldAddr 0 (.p 6),none⟩,false,false,[]⟩,
 ⟨⟨.t 14,.load1 (.t 13),none⟩,true,false,[]⟩,⟨⟨.t 15,.fieldAddr 1 (.p 6),none⟩,false,false,[]⟩,⟨⟨.t 16,.load1 (.t 15),none⟩,true,false,[]⟩,⟨⟨.no,.store 3 (.p 2) (.t 12),none⟩,false,false,[2,4]⟩,
 ⟨⟨.p 3,.mov (.t 14),none⟩,false,false,[]⟩,⟨⟨.p 4,.mov (.t 16),none⟩,false,false,[]⟩]) (.ret)) (.skip))) (.seq (.reg [⟨.t 17,.loadN 3 (.p 5),none⟩,⟨.no,.store 3 (.p 2) (.t 17),none⟩,
 ⟨.p 3,.mov (.c (.int .i64 0)),none⟩,⟨.p 4,.mov (.c (.int .i64 0)),none⟩]) (.ret)))))
def cf_parse_Re : CFunc :=
{ nargs := 1,ps := [0,1,2,3,4,5,6,11],results := [.cellN 2 3,.slot 3,.slot 4],body := bd_parse_Re }
def bd_gobolaw14_told : CCode :=
 .seq (.reg [⟨.p 0,.mov (.c (.bool false)),none⟩]) (.seq (.reg [⟨.t 7,.call F_gobolaw11_Make [.c (.nils)],none⟩,⟨.p 1,.alloc [.nils,.nils],none⟩,⟨.no,.store 2 (.p 1) (.t 7),none⟩]) (.seq (.reg [⟨.t 9,.loadN 2 (.p 1),none⟩,
 ⟨.t 10,.call F_print_Source [.t 9],none⟩,⟨.t 8,.mov (.t 10),none⟩,⟨.t 11,.extract (.t 8) 0,none⟩,⟨.t 12,.extract (.t 8) 1,none⟩,⟨.p 2,.mov (.t 11),none⟩,⟨.p 3,.mov (.t 12),none⟩]) (.seq (.reg [⟨.t 14,.build [.nils,.nils] [],none⟩,
 ⟨.t 15,.call F_print_Source [.t 14],none⟩,⟨.t 13,.mov (.t 15),none⟩,⟨.t 16,.extract (.t 13) 0,none⟩,⟨.t 17,.extract (.t 13) 1,none⟩,⟨.t 4,.mov (.t 16),none⟩,⟨.p 5,.mov (.t 17),none⟩]) (.seq (.reg [⟨.t 18,.call F_gobolaw6_One [.c (.int .i32 97)],none⟩,
 ⟨.p 6,.alloc [.int .i64 0,.nils,.nils],none⟩,⟨.no,.store 3 (.p 6) (.t 18),none⟩]) (.seq (.reg [⟨.t 19,.build [.int .i32 0,.int .i32 0] [(0,1,.c (.int .i32 97)),(1,1,.c (.int .i32 99))],none⟩,
 ⟨.t 20,.lit [.int .i32 0,.int .i32 0] 1 [(0,2,.t 19)],none⟩,⟨.t 21,.call F_print_Set [.t 20],none⟩,⟨.t 22,.bin .eql (.t 21) (.c (.str [91,97,45,99,93])),none⟩,⟨.t 23,.mov (.t 22),none⟩,
 ⟨.t 24,.build [.int .i32 0,.int .i32 0] [(0,1,.c (.int .i32 45)),(1,1,.c (.int .i32 45))],some (.t 23,true)⟩,⟨.t 25,.lit [.int .i32 0,.int .i32 0] 1 [(0,2,.t 24)],some (.t 23,true)⟩,
 ⟨.t 26,.call F_print_Set [.t 25],some (.t 23,true)⟩,⟨.t 27,.bin .eql (.t 26) (.c (.str [92,117,123,50,68,125])),some (.t 23,true)⟩,⟨.t 28,.pick (.t 23) (.t 27) (.c (.bool false)),none⟩,
 ⟨.t 29,.mov (.t 28),none⟩,⟨.t 30,.loadN 3 (.p 6),some (.t 29,true)⟩,⟨.t 31,.build [.int .i64 0,.nils,.nils] [(0,1,.c (.int .i64 1))],some (.t 29,true)⟩,⟨.t 32,.lit [.int .i64 0,.nils,.nils,.int .i64 0,.nils,.nils] 2 [(0,3,.t 30),(3,3,.t 31)],some (.t 29,true)⟩,
 ⟨.t 33,.build [.int .i64 0,.nils,.nils] [(0,1,.c (.int .i64 4)),(2,1,.t 32)],some (.t 29,true)⟩,⟨.t 34,.lit [.int .i64 0,.nils,.nils] 1 [(0,3,.t 33)],some (.t 29,true)⟩,⟨.t 35,.build [.int .i64 0,.nils,.nils] [(0,1,.c (.int .i64 5)),(2,1,.t 34)],some (.t 29,true)⟩,
 ⟨.t 36,.call F_print_Re [.t 35],some (.t 29,true)⟩,⟨.t 37,.bin .eql (.t 36) (.c (.str [40,97,124,40,41,41,42])),some (.t 29,true)⟩,⟨.t 38,.pick (.t 29) (.t 37) (.c (.bool false)),none⟩,
 ⟨.t 39,.mov (.t 38),none⟩,⟨.t 40,.lit [.str []] 1 [(0,1,.c (.str [111]))],some (.t 39,true)⟩,⟨.t 41,.lit [.str []] 1 [(0,1,.c (.str [99]))],some (.t 39,true)⟩,⟨.t 42,.build [.int .i64 0,.nils,.nils,.nils] [(0,1,.c (.int .i64 4))],some (.t 39,true)⟩,
 ⟨.t 43,.lit [.int .i64 0,.nils,.nils,.nils] 1 [(0,4,.t 42)],some (.t 39,true)⟩,⟨.t 44,.build [.int .i64 0,.nils,.nils,.nils] [(0,1,.c (.int .i64 3)),(1,1,.t 40),(2,1,.t 41),(3,1,.t 43)],some (.t 39,true)⟩,
 ⟨.t 45,.call F_print_Pat [.t 44],some (.t 39,true)⟩,⟨.t 46,.bin .eql (.t 45) (.c (.str [60,111,58,95,58,99,62])),some (.t 39,true)⟩,⟨.t 47,.pick (.t 39) (.t 46) (.c (.bool false)),none⟩,
 ⟨.t 48,.mov (.t 47),none⟩,⟨.t 49,.mov (.p 3),some (.t 48,true)⟩,⟨.t 50,.bin .eql (.t 49) (.c (.int .i64 0)),some (.t 48,true)⟩,⟨.t 51,.pick (.t 48) (.t 50) (.c (.bool false)),none⟩,
 ⟨.t 52,.mov (.t 51),none⟩,⟨.t 53,.mov (.p 2),some (.t 52,true)⟩,⟨.t 54,.bin .eql (.t 53) (.c (.str [116,111,107,32,97,32,105,110,116,32,49,32,61,32,47,97,47,10,116,111,107,32,98,32,105,110,116,32,50,32,61,32,47,91,92,117,123,65,125,98,93,47,10,116,111,107,32,111,32,99,97,108,108,32,51,32,61,32,47,99,47,10,116,111,107,32,99,32,114,101,116,32,52,32,61,32,47,100,47,10])),some (.t 52,true)⟩,
 ⟨.t 55,.pick (.t 52) (.t 54) (.c (.bool false)),none⟩,⟨.t 56,.mov (.t 55),none⟩,⟨.t 57,.mov (.p 5),some (.t 56,true)⟩,⟨.t 58,.bin .eql (.t 57) (.c (.int .i64 6)),some (.t 56,true)⟩,
 ⟨.t 59,.pick (.t 56) (.t 58) (.c (.bool false)),none⟩,⟨.t 60,.mov (.t 59),none⟩,⟨.t 61,.build [.int .i64 0,.nils,.nils] [(0,1,.c (.int .i64 9))],some (.t 60,true)⟩,⟨.t 62,.call F_print_Re [.t 61],some (.t 60,true)⟩,
 ⟨.t 63,.bin .eql (.t 62) (.c (.str [])),some (.t 60,true)⟩,⟨.t 64,.pick (.t 60) (.t 63) (.c (.bool false)),none⟩,⟨.p 0,.mov (.t 64),none⟩]) (.ret))))))
def cf_gobolaw14_told : CFunc :=
{ nargs := 0,ps := [0,1,2,3,5,6],results := [.slot 0],body := bd_gobolaw14_told }
def bd_regex_Same : CCode :=
 .seq (.reg [⟨.p 2,.box (.p 0),none⟩,⟨.p 3,.box (.p 1),none⟩,⟨.p 4,.mov (.c (.bool false)),none⟩]) (.seq (.reg [⟨.t 5,.fieldAddr 0 (.p 2),none⟩,⟨.t 6,.load1 (.t 5),none⟩,⟨.t 7,.fieldAddr 0 (.p 3),none⟩,
 ⟨.t 8,.load1 (.t 7),none⟩,⟨.t 9,.bin .eql (.t 6) (.t 8),none⟩,⟨.t 10,.mov (.t 9),none⟩,⟨.t 11,.fieldAddr 1 (.p 2),some (.t 10,true)⟩,⟨.t 12,.load1 (.t 11),some (.t 10,true)⟩,⟨.t 13,.fieldAddr 1 (.p 3),some (.t 10,true)⟩,
 ⟨.t 14,.load1 (.t 13),some (.t 10,true)⟩,⟨.t 15,.call F_slices_Equal_api_Range_api_Range [.t 12,.t 14],some (.t 10,true)⟩,⟨.t 16,.pick (.t 10) (.t 15) (.c (.bool false)),none⟩,⟨.t 17,.mov (.t 16),none⟩,
 ⟨.t 18,.fieldAddr 2 (.p 2),some (.t 17,true)⟩,⟨.t 19,.load1 (.t 18),some (.t 17,true)⟩,⟨.t 20,.fieldAddr 2 (.p 3),some (.t 17,true)⟩,⟨.t 21,.load1 (.t 20),some (.t 17,true)⟩,⟨.t 22,.call F_slices_EqualFunc_api_Re_api_Re_api_Re_api_Re [.t 19,.t 21,.f F_regex_Same],some (.t 17,true)⟩,
 ⟨.t 23,.pick (.t 17) (.t 22) (.c (.bool false)),none⟩,⟨.p 4,.mov (.t 23),none⟩]) (.ret))
def cf_regex_Same : CFunc :=
{ nargs := 2,ps := [0,1,2,3,4],results := [.slot 4],body := bd_regex_Same }
def bd_gobolaw6_One : CCode :=
 .seq (.reg [⟨.p 2,.alloc [.int .i64 0,.nils,.nils],none⟩]) (.seq (.reg [⟨.t 3,.mov (.p 0),none⟩,⟨.t 4,.mov (.p 0),none⟩,⟨.t 5,.build [.int .i32 0,.int .i32 0] [(0,1,.t 3),(1,1,.t 4)],none⟩,
 ⟨.t 6,.lit [.int .i32 0,.int .i32 0] 1 [(0,2,.t 5)],none⟩,⟨.t 7,.build [.int .i64 0,.nils,.nils] [(0,1,.c (.int .i64 2)),(1,1,.t 6)],none⟩,⟨.no,.store 3 (.p 2) (.t 7),none⟩]) (.ret))
def cf_gobolaw6_One : CFunc :=
{ nargs := 1,ps := [0,2],results := [.cellN 2 3],body := bd_gobolaw6_One }
def bd_goboref6_May : CCode :=
 .seq (.reg [⟨.p 1,.box (.p 0),none⟩,⟨.p 2,.mov (.c (.bool false)),none⟩]) (.seq (.reg [⟨.t 6,.loadN 3 (.p 1),none⟩,⟨.t 7,.call F_goboref6_Count [.t 6],none⟩,⟨.t 5,.mov (.t 7),none⟩,
 ⟨.t 8,.extract (.t 5) 0,none⟩,⟨.t 9,.extract (.t 5) 1,none⟩,⟨.p 3,.mov (.t 8),none⟩,⟨.p 4,.mov (.t 9),none⟩]) (.seq (.reg [⟨.t 10,.mov (.p 3),none⟩,⟨.t 11,.bin .leq (.t 10) (.c (.int .i64 60)),none⟩,
 ⟨.t 12,.mov (.t 11),none⟩,⟨.t 13,.mov (.p 4),some (.t 12,true)⟩,⟨.t 14,.bin .leq (.t 13) (.c (.int .i64 12)),some (.t 12,true)⟩,⟨.t 15,.pick (.t 12) (.t 14) (.c (.bool false)),none⟩,
 ⟨.t 16,.mov (.t 15),none⟩,⟨.t 17,.loadN 3 (.p 1),some (.t 16,true)⟩,⟨.t 18,.call F_goboref6_parts [.t 17],some (.t 16,true)⟩,⟨.t 19,.pick (.t 16) (.t 18) (.c (.bool false)),none⟩,⟨.p 2,.mov (.t 19),none⟩]) (.ret)))
def cf_goboref6_May : CFunc :=
{ nargs := 1,ps := [0,1,2,3,4],results := [.slot 2],body := bd_goboref6_May }
def bd_regex_May : CCode :=
 .seq (.reg [⟨.p 1,.box (.p 0),none⟩,⟨.p 2,.mov (.c (.bool false)),none⟩]) (.seq (.reg [⟨.t 3,.loadN 3 (.p 1),none⟩,⟨.t 4,.call F_regex_within [.t 3],none⟩,⟨.t 5,.mov (.t 4),none⟩,⟨.t 6,.loadN 3 (.p 1),some (.t 5,true)⟩,
 ⟨.t 7,.call F_regex_may [.t 6],some (.t 5,true)⟩,⟨.t 8,.pick (.t 5) (.t 7) (.c (.bool false)),none⟩,⟨.p 2,.mov (.t 8),none⟩]) (.ret))
def cf_regex_May : CFunc :=
{ nargs := 1,ps := [0,1,2],results := [.slot 2],body := bd_regex_May }
def bd_print_re : CCode :=
 .seq (.reg [⟨.p 1,.box (.p 0),none⟩,⟨.p 2,.mov (.c (.str [])),none⟩]) (.seq (.reg [⟨.t 4,.mkFn F_print_re_1 [.p 1],none⟩,⟨.p 3,.mov (.t 4),none⟩]) (.seq (.seq (.reg [⟨.t 5,.fieldAddr 0 (.p 1),none⟩,
 ⟨.p 6,.load1 (.t 5),none⟩]) (.block 0 [] (.seq (.reg [⟨.t 8,.bin .eql (.p 6) (.c (.int .i64 1)),none⟩,⟨.p 7,.mov (.t 8),none⟩]) (.cond (.p 7) (.seq (.reg [⟨.p 2,.mov (.c (.str [40,41])),none⟩]) (.ret)) (.seq (.reg [⟨.t 10,.bin .eql (.p 6) (.c (.int .i64 2)),none⟩,
 ⟨.p 9,.mov (.t 10),none⟩]) (.cond (.p 9) (.seq (.reg [⟨.t 11,.fieldAddr 1 (.p 1),none⟩,⟨.t 12,.load1 (.t 11),none⟩,⟨.t 13,.call F_print_Set [.t 12],none⟩,⟨.p 2,.mov (.t 13),none⟩]) (.ret)) (.seq (.reg [⟨.t 15,.bin .eql (.p 6) (.c (.int .i64 3)),none⟩,
 ⟨.p 14,.mov (.t 15),none⟩]) (.cond (.p 14) (.seq (.reg [⟨.t 16,.mov (.p 3),none⟩,⟨.t 17,.lit [.int .i64 0] 1 [(0,1,.c (.int .i64 4))],none⟩,⟨.t 18,.callV (.t 16) [.c (.int .i64 0),.t 17],none⟩,
 ⟨.t 19,.mov (.p 3),none⟩,⟨.t 20,.lit [.int .i64 0,.int .i64 0] 2 [(0,1,.c (.int .i64 4)),(1,1,.c (.int .i64 3))],none⟩,⟨.t 21,.callV (.t 19) [.c (.int .i64 1),.t 20],none⟩,⟨.t 22,.bin .add (.t 18) (.t 21),none⟩,
 ⟨.p 2,.mov (.t 22),none⟩]) (.ret)) (.seq (.reg [⟨.t 24,.bin .eql (.p 6) (.c (.int .i64 4)),none⟩,⟨.p 23,.mov (.t 24),none⟩]) (.cond (.p 23) (.seq (.reg [⟨.t 25,.mov (.p 3),none⟩,⟨.t 26,.callV (.t 25) [.c (.int .i64 0),.c (.nils)],none⟩,
 ⟨.t 27,.bin .add (.t 26) (.c (.str [124])),none⟩,⟨.t 28,.mov (.p 3),none⟩,⟨.t 29,.lit [.int .i64 0] 1 [(0,1,.c (.int .i64 4))],none⟩,⟨.t 30,.callV (.t 28) [.c (.int .i64 1),.t 29],none⟩,
 ⟨.t 31,.bin .add (.t 27) (.t 30),none⟩,⟨.p 2,.mov (.t 31),none⟩]) (.ret)) (.seq (.reg [⟨.t 33,.bin .eql (.p 6) (.c (.int .i64 5)),none⟩,⟨.p 32,.mov (.t 33),none⟩]) (.cond (.p 32) (.seq (.reg [⟨.t 34,.mov (.p 3),none⟩,
 ⟨.t 35,.lit [.int .i64 0,.int .i64 0] 2 [(0,1,.c (.int .i64 3)),(1,1,.c (.int .i64 4))],none⟩,⟨.t 36,.callV (.t 34) [.c (.int .i64 0),.t 35],none⟩,⟨.t 37,.bin .add (.t 36) (.c (.str [42])),none⟩,
 ⟨.p 2,.mov (.t 37),none⟩]) (.ret)) (.skip))))))))))))) (.seq (.reg [⟨.p 2,.mov (.c (.str [91,93])),none⟩]) (.ret))))
def cf_print_re : CFunc :=
{ nargs := 1,ps := [0,1,2,3,6,7,9,14,23,32],results := [.slot 2],body := bd_print_re }
def bd_word_Caught : CCode :=
 .seq (.reg [⟨.p 2,.alloc [.int .i64 0,.int .i64 0],none⟩]) (.seq (.reg [⟨.t 3,.mkFn F_word_Caught_1 [.p 2],none⟩,⟨.no,.dfr (.t 3) [],none⟩]) (.seq (.reg [⟨.t 4,.mov (.p 0),none⟩,⟨.t 5,.callV (.t 4) [],none⟩]) (.seq (.reg [⟨.t 6,.build [.int .i64 0,.int .i64 0] [],none⟩,
 ⟨.no,.store 2 (.p 2) (.t 6),none⟩]) (.ret))))
def cf_word_Caught : CFunc :=
{ nargs := 1,ps := [0,2],results := [.cellN 2 2],body := bd_word_Caught }
def bd_parse_Re_1 : CCode :=
 .seq (.reg [⟨.t 3,.load1 (.p 0),none⟩,⟨.t 4,.call F_word_Read [.t 3],none⟩,⟨.t 5,.build [.nilp,.int .i64 0] [(0,1,.t 4)],none⟩,⟨.t 6,.box (.t 5),none⟩,⟨.p 2,.mov (.t 6),none⟩]) (.seq (.reg [⟨.t 7,.mov (.p 2),none⟩,
 ⟨.t 8,.call F_parse_regex_all [.t 7],none⟩,⟨.no,.store 3 (.p 1) (.t 8),none⟩]) (.seq (.reg [⟨.t 9,.mov (.p 2),none⟩,⟨.t 10,.nilCheck (.t 9),none⟩,⟨.t 11,.fieldAddr 0 (.t 10),none⟩,
 ⟨.t 12,.load1 (.t 11),none⟩,⟨.t 13,.call F_word_Reader_Peek [.t 12],none⟩,⟨.p 14,.bin .neq (.t 13) (.c (.int .i32 (-1))),none⟩]) (.cond (.p 14) (.reg [⟨.t 15,.mov (.p 2),none⟩,⟨.t 16,.nilCheck (.t 15),none⟩,
 ⟨.t 17,.fieldAddr 0 (.t 16),none⟩,⟨.t 18,.load1 (.t 17),none⟩,⟨.t 19,.call F_word_Reader_At [.t 18],none⟩,⟨.t 20,.call F_word_Fail [.c (.int .i64 3),.t 19],none⟩]) (.skip))))
def cf_parse_Re_1 : CFunc :=
{ nargs := 2,ps := [0,1,2,14],results := [],body := bd_parse_Re_1 }
def bd_word_Read : CCode :=
 .seq (.reg [⟨.p 2,.mov (.c (.nilp)),none⟩]) (.seq (.reg [⟨.t 3,.mov (.p 0),none⟩,⟨.t 4,.strBytes (.t 3),none⟩,⟨.t 5,.call F_decode_All [.t 4],none⟩,⟨.t 6,.mov (.p 0),none⟩,⟨.t 7,.lenStr (.t 6),none⟩,
 ⟨.t 8,.build [.nils,.int .i64 0,.int .i64 0] [(0,1,.t 5),(2,1,.t 7)],none⟩,⟨.t 9,.box (.t 8),none⟩,⟨.p 2,.mov (.t 9),none⟩]) (.ret))
def cf_word_Read : CFunc :=
{ nargs := 1,ps := [0,2],results := [.slot 2],body := bd_word_Read }
def lb_parse_regex_all_0 : CCode :=
 .seq (.seq (.reg [⟨.t 6,.mov (.p 0),none⟩,⟨.t 7,.nilCheck (.t 6),none⟩,⟨.t 8,.fieldAddr 0 (.t 7),none⟩,⟨.t 9,.load1 (.t 8),none⟩,⟨.p 10,.call F_word_Reader_Skip [.t 9,.c (.int .i32 124)],none⟩]) (.cond (.p 10) (.skip) (.exit 0))) (.block 1 [0,2,3] (.dreg [⟨⟨.t 11,.loadN 3 (.p 3),none⟩,true,false,[]⟩,
 ⟨⟨.t 12,.mov (.p 0),none⟩,false,false,[]⟩,⟨⟨.t 13,.call F_parse_regex_row [.t 12],none⟩,false,false,[0]⟩,⟨⟨.t 14,.call F_parse_two [.c (.int .i64 4),.t 11,.t 13],none⟩,false,false,[]⟩,
 ⟨⟨.no,.store 3 (.p 3) (.t 14),none⟩,false,false,[]⟩]))
def bd_parse_regex_all : CCode :=
 .seq (.reg [⟨.p 2,.alloc [.int .i64 0,.nils,.nils],none⟩]) (.seq (.reg [⟨.t 4,.mov (.p 0),none⟩,⟨.t 5,.call F_parse_regex_row [.t 4],none⟩,⟨.p 3,.alloc [.int .i64 0,.nils,.nils],none⟩,
 ⟨.no,.store 3 (.p 3) (.t 5),none⟩]) (.seq (.block 0 [2,3] (.loop [0,2,3] lb_parse_regex_all_0)) (.seq (.reg [⟨.t 15,.loadN 3 (.p 3),none⟩,⟨.no,.store 3 (.p 2) (.t 15),none⟩]) (.ret))))
def cf_parse_regex_all : CFunc :=
{ nargs := 1,ps := [0,2,3,10],results := [.cellN 2 3],body := bd_parse_regex_all }
def bd_word_Reader_Peek : CCode :=
 .seq (.reg [⟨.p 2,.mov (.c (.int .i32 0)),none⟩]) (.seq (.block 0 [0] (.seq (.dreg [⟨⟨.t 4,.mov (.p 0),none⟩,false,false,[]⟩,⟨⟨.t 5,.nilCheck (.t 4),none⟩,false,false,[]⟩,⟨⟨.t 6,.fieldAddr 1 (.t 5),none⟩,false,false,[]⟩,
 ⟨⟨.t 7,.load1 (.t 6),none⟩,false,false,[]⟩,⟨⟨.t 8,.mov (.p 0),none⟩,false,false,[]⟩,⟨⟨.t 9,.nilCheck (.t 8),none⟩,false,false,[]⟩,⟨⟨.t 10,.fieldAddr 0 (.t 9),none⟩,false,false,[]⟩,
 ⟨⟨.t 11,.load1 (.t 10),none⟩,false,false,[]⟩,⟨⟨.t 12,.lenSl (.t 11),none⟩,false,false,[]⟩,⟨⟨.t 13,.bin .eql (.t 7) (.t 12),none⟩,false,false,[]⟩,⟨⟨.p 3,.mov (.t 13),none⟩,false,false,[]⟩]) (.cond (.p 3) (.seq (.reg [⟨.p 2,.mov (.c (.int .i32 (-1))),none⟩]) (.ret)) (.seq (.dreg [⟨⟨.t 15,.mov (.p 0),none⟩,false,false,[]⟩,
 ⟨⟨.t 16,.nilCheck (.t 15),none⟩,false,false,[]⟩,⟨⟨.t 17,.fieldAddr 0 (.t 16),none⟩,false,false,[]⟩,⟨⟨.t 18,.load1 (.t 17),none⟩,false,false,[]⟩,⟨⟨.t 19,.mov (.p 0),none⟩,false,false,[]⟩,
 ⟨⟨.t 20,.nilCheck (.t 19),none⟩,false,false,[]⟩,⟨⟨.t 21,.fieldAddr 1 (.t 20),none⟩,false,false,[]⟩,⟨⟨.t 22,.load1 (.t 21),none⟩,false,false,[]⟩,⟨⟨.t 23,.idxAddr 5 (.t 18) (.t 22),none⟩,false,false,[]⟩,
 ⟨⟨.t 24,.fieldAddr 3 (.t 23),none⟩,false,false,[]⟩,⟨⟨.t 25,.load1 (.t 24),none⟩,false,false,[]⟩,⟨⟨.p 14,.mov (.t 25),none⟩,false,false,[]⟩]) (.cond (.p 14) (.seq (.reg [⟨.p 2,.mov (.c (.int .i32 (-2))),none⟩]) (.ret)) (.skip)))))) (.seq (.dreg [⟨⟨.t 26,.mov (.p 0),none⟩,false,false,[]⟩,
 ⟨⟨.t 27,.nilCheck (.t 26),none⟩,false,false,[]⟩,⟨⟨.t 28,.fieldAddr 0 (.t 27),none⟩,false,false,[]⟩,⟨⟨.t 29,.load1 (.t 28),none⟩,false,false,[]⟩,⟨⟨.t 30,.mov (.p 0),none⟩,false,false,[]⟩,
 ⟨⟨.t 31,.nilCheck (.t 30),none⟩,false,false,[]⟩,⟨⟨.t 32,.fieldAddr 1 (.t 31),none⟩,false,false,[]⟩,⟨⟨.t 33,.load1 (.t 32),none⟩,false,false,[]⟩,⟨⟨.t 34,.idxAddr 5 (.t 29) (.t 33),none⟩,false,false,[]⟩,
 ⟨⟨.t 35,.fieldAddr 0 (.t 34),none⟩,false,false,[]⟩,⟨⟨.t 36,.load1 (.t 35),none⟩,false,false,[]⟩,⟨⟨.p 2,.mov (.t 36),none⟩,false,false,[]⟩]) (.ret)))
def cf_word_Reader_Peek : CFunc :=
{ nargs := 1,ps := [0,2,3,14],results := [.slot 2],body := bd_word_Reader_Peek }
def bd_word_Fail : CCode :=
 .reg [⟨.t 4,.mov (.p 0),none⟩,⟨.t 5,.mov (.p 1),none⟩,⟨.t 6,.build [.int .i64 0,.int .i64 0] [(0,1,.t 4),(1,1,.t 5)],none⟩,⟨.t 7,.mkIface T_word_Fault (.t 6),none⟩,⟨.no,.panic (.t 7),none⟩]
def cf_word_Fail : CFunc :=
{ nargs := 2,ps := [0,1],results := [],body := bd_word_Fail }
def bd_word_Reader_At : CCode :=
 .seq (.reg [⟨.p 2,.mov (.c (.int .i64 0)),none⟩]) (.seq (.seq (.dreg [⟨⟨.t 3,.mov (.p 0),none⟩,false,false,[]⟩,⟨⟨.t 4,.nilCheck (.t 3),none⟩,false,false,[]⟩,⟨⟨.t 5,.fieldAddr 1 (.t 4),none⟩,false,false,[]⟩,
 ⟨⟨.t 6,.load1 (.t 5),none⟩,false,false,[]⟩,⟨⟨.t 7,.mov (.p 0),none⟩,false,false,[]⟩,⟨⟨.t 8,.nilCheck (.t 7),none⟩,false,false,[]⟩,⟨⟨.t 9,.fieldAddr 0 (.t 8),none⟩,false,false,[]⟩,⟨⟨.t 10,.load1 (.t 9),none⟩,false,false,[]⟩,
 ⟨⟨.t 11,.lenSl (.t 10),none⟩,false,false,[]⟩,⟨⟨.p 12,.bin .eql (.t 6) (.t 11),none⟩,false,false,[]⟩]) (.cond (.p 12) (.seq (.reg [⟨.t 13,.mov (.p 0),none⟩,⟨.t 14,.nilCheck (.t 13),none⟩,
 ⟨.t 15,.fieldAddr 2 (.t 14),none⟩,⟨.t 16,.load1 (.t 15),none⟩,⟨.p 2,.mov (.t 16),none⟩]) (.ret)) (.skip))) (.seq (.dreg [⟨⟨.t 17,.mov (.p 0),none⟩,false,false,[]⟩,⟨⟨.t 18,.nilCheck (.t 17),none⟩,false,false,[]⟩,
 ⟨⟨.t 19,.fieldAddr 0 (.t 18),none⟩,false,false,[]⟩,⟨⟨.t 20,.load1 (.t 19),none⟩,false,false,[]⟩,⟨⟨.t 21,.mov (.p 0),none⟩,false,false,[]⟩,⟨⟨.t 22,.nilCheck (.t 21),none⟩,false,false,[]⟩,
 ⟨⟨.t 23,.fieldAddr 1 (.t 22),none⟩,false,false,[]⟩,⟨⟨.t 24,.load1 (.t 23),none⟩,false,false,[]⟩,⟨⟨.t 25,.idxAddr 5 (.t 20) (.t 24),none⟩,false,false,[]⟩,⟨⟨.t 26,.fieldAddr 1 (.t 25),none⟩,false,false,[]⟩,
 ⟨⟨.t 27,.load1 (.t 26),none⟩,false,false,[]⟩,⟨⟨.p 2,.mov (.t 27),none⟩,false,false,[]⟩]) (.ret)))
def cf_word_Reader_At : CFunc :=
{ nargs := 1,ps := [0,2,12],results := [.slot 2],body := bd_word_Reader_At }
def lb_gobolaw11_Make_0 : CCode :=
 .seq (.seq (.stuck) (.cond (.p 87) (.skip) (.exit 2))) (.seq (.block 3 [0,2,5,6,7,8,9,10,11,12] (.seq (.stuck) (.seq (.seq (.stuck) (.cond (.p 128) (.stuck) (.skip))) (.stuck)))) (.stuck))
def lb_gobolaw11_Make_1 : CCode :=
 .seq (.seq (.reg [⟨.t 51,.mov (.p 8),none⟩,⟨.t 52,.mov (.p 0),none⟩,⟨.t 53,.lenSl (.t 52),none⟩,⟨.t 54,.bin .lss (.t 51) (.t 53),none⟩,⟨.t 55,.mov (.t 54),none⟩,⟨.t 56,.mov (.p 8),some (.t 55,true)⟩,
 ⟨.t 57,.bin .lss (.t 56) (.c (.int .i64 3)),some (.t 55,true)⟩,⟨.p 58,.pick (.t 55) (.t 57) (.c (.bool false)),none⟩]) (.cond (.p 58) (.skip) (.exit 0))) (.seq (.block 1 [0,2,5,6,7,8] (.seq (.seq (.stuck) (.cond (.p 66) (.exit 1) (.skip))) (.seq (.stuck) (.seq (.stuck) (.seq (.stuck) (.seq (.seq (.stuck) (.block 2 [0,2,5,6,7,8,10] (.loop [0,2,5,6,7,8,9,10,11,12] lb_gobolaw11_Make_0))) (.stuck))))))) (.stuck))
def bd_gobolaw11_Make : CCode :=
 .seq (.reg [⟨.p 2,.alloc [.nils,.nils],none⟩]) (.seq (.reg [⟨.t 14,.call F_gobolaw6_One [.c (.int .i32 99)],none⟩,⟨.t 15,.call F_gobolaw6_One [.c (.int .i32 100)],none⟩,⟨.p 3,.alloc [.int .i64 0,.nils,.nils],none⟩,
 ⟨.p 4,.alloc [.int .i64 0,.nils,.nils],none⟩,⟨.no,.store 3 (.p 3) (.t 14),none⟩,⟨.no,.store 3 (.p 4) (.t 15),none⟩]) (.seq (.dreg [⟨⟨.t 16,.callQ 8 F_gobolaw6_One [.c (.int .i32 97)],none⟩,true,false,[]⟩,
 ⟨⟨.t 17,.build [.str [],.int .i64 0,.int .i64 0,.int .i64 0,.nils,.nils] [(0,1,.c (.str [97])),(2,1,.c (.int .i64 1)),(3,3,.t 16)],none⟩,false,false,[]⟩,⟨⟨.t 18,.build [.int .i32 0,.int .i32 0] [(0,1,.c (.int .i32 10)),(1,1,.c (.int .i32 10))],none⟩,false,false,[]⟩,
 ⟨⟨.t 19,.build [.int .i32 0,.int .i32 0] [(0,1,.c (.int .i32 98)),(1,1,.c (.int .i32 98))],none⟩,false,false,[]⟩,⟨⟨.t 20,.lit [.int .i32 0,.int .i32 0,.int .i32 0,.int .i32 0] 2 [(0,2,.t 18),(2,2,.t 19)],none⟩,false,false,[]⟩,
 ⟨⟨.t 21,.build [.int .i64 0,.nils,.nils] [(0,1,.c (.int .i64 2)),(1,1,.t 20)],none⟩,false,false,[]⟩,⟨⟨.t 22,.build [.str [],.int .i64 0,.int .i64 0,.int .i64 0,.nils,.nils] [(0,1,.c (.str [98])),(2,1,.c (.int .i64 2)),(3,3,.t 21)],none⟩,false,false,[]⟩,
 ⟨⟨.t 23,.loadN 3 (.p 3),none⟩,false,false,[0]⟩,⟨⟨.t 24,.build [.str [],.int .i64 0,.int .i64 0,.int .i64 0,.nils,.nils] [(0,1,.c (.str [111])),(1,1,.c (.int .i64 1)),(2,1,.c (.int .i64 3)),(3,3,.t 23)],none⟩,false,false,[]⟩,
 ⟨⟨.t 25,.loadN 3 (.p 4),none⟩,false,false,[0]⟩,⟨⟨.t 26,.build [.str [],.int .i64 0,.int .i64 0,.int .i64 0,.nils,.nils] [(0,1,.c (.str [99])),(1,1,.c (.int .i64 2)),(2,1,.c (.int .i64 4)),(3,3,.t 25)],none⟩,false,false,[]⟩,
 ⟨⟨.t 27,.lit [.str [],.int .i64 0,.int .i64 0,.int .i64 0,.nils,.nils,.str [],.int .i64 0,.int .i64 0,.int .i64 0,.nils,.nils,.str [],.int .i64 0,.int .i64 0,.int .i64 0,.nils,.nils,.str [],.int .i64 0,.int .i64 0,.int .i64 0,.nils,.nils] 4 [(0,6,.t 17),(6,6,.t 22),(12,6,.t 24),(18,6,.t 26)],none⟩,false,false,[]⟩,
 ⟨⟨.t 28,.build [.nils,.nils] [(0,1,.t 27)],none⟩,false,false,[]⟩,⟨⟨.p 5,.alloc [.nils,.nils],none⟩,false,false,[]⟩,⟨⟨.no,.store 2 (.p 5) (.t 28),none⟩,false,false,[]⟩]) (.seq (.reg [⟨.t 29,.lit [.str []] 1 [(0,1,.c (.str [111]))],none⟩,
 ⟨.t 30,.lit [.str []] 1 [(0,1,.c (.str [99]))],none⟩,⟨.p 6,.mov (.t 29),none⟩,⟨.p 7,.mov (.t 30),none⟩]) (.seq (.seq (.reg [⟨.t 31,.mov (.p 0),none⟩,⟨.t 32,.lenSl (.t 31),none⟩,⟨.p 33,.bin .gtr (.t 32) (.c (.int .i64 3)),none⟩]) (.cond (.p 33) (.seq (.stuck) (.stuck)) (.skip))) (.seq (.seq (.reg [⟨.p 8,.mov (.c (.int .i64 0)),none⟩]) (.block 0 [2,5] (.loop [0,2,5,6,7,8] lb_gobolaw11_Make_1))) (.seq (.reg [⟨.t 146,.loadN 2 (.p 5),none⟩,
 ⟨.no,.store 2 (.p 2) (.t 146),none⟩]) (.ret)))))))
def cf_gobolaw11_Make : CFunc :=
{ nargs := 1,ps := [0,2,3,4,5,6,7,8,9,10,11,12,13,33,58,66,87,128],results := [.cellN 2 2],body := bd_gobolaw11_Make }
def lb_print_Source_0 : CCode :=
 .seq (.reg [⟨.p 26,.bin .lss (.p 25) (.p 24),none⟩]) (.seq (.cond (.p 26) (.skip) (.exit 0)) (.seq (.block 1 [1,6,23,24,25] (.seq (.reg [⟨.t 27,.idxAddr 6 (.p 23) (.p 25),none⟩,⟨.t 28,.loadN 6 (.t 27),none⟩,
 ⟨.p 8,.alloc [.str [],.int .i64 0,.int .i64 0,.int .i64 0,.nils,.nils],none⟩,⟨.no,.store 6 (.p 8) (.t 28),none⟩]) (.seq (.seq (.reg [⟨.t 29,.fieldAddr 3 (.p 8),none⟩,⟨.t 30,.loadN 3 (.t 29),none⟩,
 ⟨.p 31,.call F_print_none [.t 30],none⟩]) (.cond (.p 31) (.seq (.stuck) (.ret)) (.skip))) (.seq (.reg [⟨.t 32,.lit [.str [],.str [],.str []] 3 [(0,1,.c (.str [105,110,116])),(1,1,.c (.str [99,97,108,108])),(2,1,.c (.str [114,101,116]))],none⟩,
 ⟨.t 33,.fieldAddr 1 (.p 8),none⟩,⟨.t 34,.load1 (.t 33),none⟩,⟨.t 35,.idxAddr 1 (.t 32) (.t 34),none⟩,⟨.t 36,.load1 (.t 35),none⟩,⟨.p 9,.mov (.t 36),none⟩]) (.dreg [⟨⟨.t 37,.fieldAddr 0 (.p 8),none⟩,false,false,[]⟩,
 ⟨⟨.t 38,.load1 (.t 37),none⟩,true,false,[]⟩,⟨⟨.t 39,.bin .add (.c (.str [116,111,107,32])) (.t 38),none⟩,false,false,[]⟩,⟨⟨.t 40,.bin .add (.t 39) (.c (.str [32])),none⟩,false,false,[]⟩,
 ⟨⟨.t 41,.mov (.p 9),none⟩,false,false,[]⟩,⟨⟨.t 42,.bin .add (.t 40) (.t 41),none⟩,false,false,[]⟩,⟨⟨.t 43,.bin .add (.t 42) (.c (.str [32])),none⟩,false,false,[]⟩,⟨⟨.t 44,.fieldAddr 2 (.p 8),none⟩,false,false,[]⟩,
 ⟨⟨.t 45,.load1 (.t 44),none⟩,false,false,[]⟩,⟨⟨.t 46,.call F_strconv_Itoa [.t 45],none⟩,true,false,[1]⟩,⟨⟨.t 47,.bin .add (.t 43) (.t 46),none⟩,false,false,[]⟩,⟨⟨.t 48,.bin .add (.t 47) (.c (.str [32,61,32,47])),none⟩,false,false,[]⟩,
 ⟨⟨.t 49,.fieldAddr 3 (.p 8),none⟩,false,false,[]⟩,⟨⟨.t 50,.loadN 3 (.t 49),none⟩,false,false,[9]⟩,⟨⟨.t 51,.call F_print_re [.t 50],none⟩,false,false,[1]⟩,⟨⟨.t 52,.bin .add (.t 48) (.t 51),none⟩,false,false,[]⟩,
 ⟨⟨.t 53,.bin .add (.t 52) (.c (.str [47,10])),none⟩,false,false,[]⟩,⟨⟨.t 54,.call F_strings_Builder_WriteString [.p 6,.t 53],none⟩,false,false,[]⟩]))))) (.reg [⟨.t 55,.bin .add (.p 25) (.c (.int .i64 1)),none⟩,
 ⟨.p 25,.mov (.t 55),none⟩])))
def lb_print_Source_1 : CCode :=
 .seq (.stuck) (.seq (.cond (.p 75) (.skip) (.exit 4)) (.seq (.block 5 [6,57,58,59,72,73,74] (.seq (.stuck) (.seq (.stuck) (.seq (.seq (.stuck) (.cond (.p 82) (.stuck) (.skip))) (.stuck))))) (.stuck)))
def lb_print_Source_2 : CCode :=
 .seq (.reg [⟨.p 60,.bin .lss (.p 59) (.p 58),none⟩]) (.seq (.cond (.p 60) (.skip) (.exit 2)) (.seq (.block 3 [6,57,58,59] (.seq (.stuck) (.seq (.stuck) (.seq (.seq (.stuck) (.cond (.p 69) (.stuck) (.skip))) (.seq (.seq (.stuck) (.block 4 [6,57,58,59] (.loop [6,57,58,59,72,73,74] lb_print_Source_1))) (.stuck)))))) (.stuck)))
def bd_print_Source : CCode :=
 .seq (.reg [⟨.p 1,.box (.p 0),none⟩,⟨.p 2,.mov (.c (.str [])),none⟩,⟨.p 3,.mov (.c (.int .i64 0)),none⟩]) (.seq (.seq (.reg [⟨.t 15,.loadN 2 (.p 1),none⟩,⟨.t 16,.call F_gram_Check [.t 15],none⟩,
 ⟨.t 14,.mov (.t 16),none⟩,⟨.t 17,.extract (.t 14) 0,none⟩,⟨.t 18,.extract (.t 14) 1,none⟩,⟨.p 4,.mov (.t 17),none⟩,⟨.t 5,.mov (.t 18),none⟩]) (.seq (.reg [⟨.t 19,.mov (.p 4),none⟩,
 ⟨.p 20,.bin .neq (.t 19) (.c (.int .i64 0)),none⟩]) (.cond (.p 20) (.seq (.reg [⟨.t 21,.mov (.p 4),none⟩,⟨.p 2,.mov (.c (.str [])),none⟩,⟨.p 3,.mov (.t 21),none⟩]) (.ret)) (.skip)))) (.seq (.reg [⟨.p 6,.ext (.allocT T_strings_Builder [.nilp,.nils]) [],none⟩]) (.seq (.seq (.reg [⟨.t 22,.fieldAddr 0 (.p 1),none⟩,
 ⟨.p 23,.load1 (.t 22),none⟩,⟨.p 24,.lenSl (.p 23),none⟩,⟨.p 25,.mov (.c (.int .i64 0)),none⟩]) (.block 0 [1,6] (.loop [1,6,23,24,25] lb_print_Source_0))) (.seq (.seq (.reg [⟨.t 56,.fieldAddr 1 (.p 1),none⟩,
 ⟨.p 57,.load1 (.t 56),none⟩,⟨.p 58,.lenSl (.p 57),none⟩,⟨.p 59,.mov (.c (.int .i64 0)),none⟩]) (.block 2 [6] (.loop [6,57,58,59] lb_print_Source_2))) (.seq (.seq (.reg [⟨.t 96,.call F_strings_Builder_Len [.p 6],none⟩,
 ⟨.p 97,.bin .gtr (.t 96) (.c (.int .i64 4000)),none⟩]) (.cond (.p 97) (.seq (.stuck) (.ret)) (.skip))) (.seq (.reg [⟨.t 98,.call F_strings_Builder_String [.p 6],none⟩,⟨.p 2,.mov (.t 98),none⟩,
 ⟨.p 3,.mov (.c (.int .i64 0)),none⟩]) (.ret)))))))
def cf_print_Source : CFunc :=
{ nargs := 1,ps := [0,1,2,3,4,6,8,9,11,13,20,23,24,25,26,31,57,58,59,60,69,72,73,74,75,82,97],results := [.slot 2,.slot 3],body := bd_print_Source }
def lb_print_Set_0 : CCode :=
 .seq (.reg [⟨.p 28,.bin .lss (.p 27) (.p 26),none⟩]) (.seq (.cond (.p 28) (.skip) (.exit 0)) (.seq (.block 1 [3,25,26,27] (.seq (.reg [⟨.t 29,.idxAddr 2 (.p 25) (.p 27),none⟩,⟨.t 30,.loadN 2 (.t 29),none⟩,
 ⟨.p 5,.alloc [.int .i32 0,.int .i32 0],none⟩,⟨.no,.store 2 (.p 5) (.t 30),none⟩]) (.seq (.reg [⟨.t 31,.mov (.p 3),none⟩,⟨.t 32,.fieldAddr 0 (.p 5),none⟩,⟨.t 33,.load1 (.t 32),none⟩,
 ⟨.t 34,.call F_print_one [.t 33],none⟩,⟨.t 35,.bin .add (.t 31) (.t 34),none⟩,⟨.p 3,.mov (.t 35),none⟩]) (.seq (.reg [⟨.t 36,.loadN 2 (.p 5),none⟩,⟨.t 37,.lit [.int .i32 0,.int .i32 0] 1 [(0,2,.t 36)],none⟩,
 ⟨.t 38,.call F_runes_Count [.t 37],none⟩,⟨.p 39,.bin .gtr (.t 38) (.c (.int .i64 1)),none⟩]) (.cond (.p 39) (.reg [⟨.t 40,.mov (.p 3),none⟩,⟨.t 41,.fieldAddr 1 (.p 5),none⟩,⟨.t 42,.load1 (.t 41),none⟩,
 ⟨.t 43,.call F_print_one [.t 42],none⟩,⟨.t 44,.bin .add (.c (.str [45])) (.t 43),none⟩,⟨.t 45,.bin .add (.t 40) (.t 44),none⟩,⟨.p 3,.mov (.t 45),none⟩]) (.skip)))))) (.reg [⟨.t 46,.bin .add (.p 27) (.c (.int .i64 1)),none⟩,
 ⟨.p 27,.mov (.t 46),none⟩])))
def bd_print_Set : CCode :=
 .seq (.reg [⟨.p 2,.mov (.c (.str [])),none⟩]) (.seq (.seq (.dreg [⟨⟨.t 6,.mov (.p 0),none⟩,false,false,[]⟩,⟨⟨.t 7,.lenSl (.t 6),none⟩,false,false,[]⟩,⟨⟨.t 8,.bin .eql (.t 7) (.c (.int .i64 1)),none⟩,false,false,[]⟩,
 ⟨⟨.t 9,.mov (.t 8),none⟩,false,false,[]⟩,⟨⟨.t 10,.mov (.p 0),some (.t 9,true)⟩,false,false,[]⟩,⟨⟨.t 11,.idxAddr 2 (.t 10) (.c (.int .i64 0)),some (.t 9,true)⟩,false,false,[]⟩,⟨⟨.t 12,.fieldAddr 0 (.t 11),some (.t 9,true)⟩,false,false,[]⟩,
 ⟨⟨.t 13,.load1 (.t 12),some (.t 9,true)⟩,false,false,[]⟩,⟨⟨.t 14,.mov (.p 0),some (.t 9,true)⟩,false,false,[]⟩,⟨⟨.t 15,.idxAddr 2 (.t 14) (.c (.int .i64 0)),some (.t 9,true)⟩,false,false,[]⟩,
 ⟨⟨.t 16,.fieldAddr 1 (.t 15),some (.t 9,true)⟩,false,false,[]⟩,⟨⟨.t 17,.load1 (.t 16),some (.t 9,true)⟩,false,false,[]⟩,⟨⟨.t 18,.bin .eql (.t 13) (.t 17),some (.t 9,true)⟩,false,false,[]⟩,
 ⟨⟨.p 19,.pick (.t 9) (.t 18) (.c (.bool false)),none⟩,false,false,[]⟩]) (.cond (.p 19) (.seq (.reg [⟨.t 20,.mov (.p 0),none⟩,⟨.t 21,.idxAddr 2 (.t 20) (.c (.int .i64 0)),none⟩,⟨.t 22,.fieldAddr 0 (.t 21),none⟩,
 ⟨.t 23,.load1 (.t 22),none⟩,⟨.t 24,.call F_print_one [.t 23],none⟩,⟨.p 2,.mov (.t 24),none⟩]) (.ret)) (.skip))) (.seq (.reg [⟨.p 3,.mov (.c (.str [91])),none⟩]) (.seq (.seq (.reg [⟨.p 25,.mov (.p 0),none⟩,
 ⟨.p 26,.lenSl (.p 25),none⟩,⟨.p 27,.mov (.c (.int .i64 0)),none⟩]) (.block 0 [3] (.loop [3,25,26,27] lb_print_Set_0))) (.seq (.reg [⟨.t 47,.mov (.p 3),none⟩,⟨.t 48,.bin .add (.t 47) (.c (.str [93])),none⟩,
 ⟨.p 2,.mov (.t 48),none⟩]) (.ret)))))
def cf_print_Set : CFunc :=
{ nargs := 1,ps := [0,2,3,5,19,25,26,27,28,39],results := [.slot 2],body := bd_print_Set }
def bd_print_Pat : CCode :=
 .seq (.reg [⟨.p 1,.box (.p 0),none⟩,⟨.p 2,.mov (.c (.str [])),none⟩]) (.seq (.seq (.reg [⟨.t 3,.loadN 4 (.p 1),none⟩,⟨.t 4,.call F_gram_Shaped [.t 3],none⟩,⟨.p 5,.un .not (.t 4),none⟩]) (.cond (.p 5) (.seq (.stuck) (.ret)) (.skip))) (.seq (.reg [⟨.t 6,.loadN 4 (.p 1),none⟩,
 ⟨.t 7,.call F_print_pat [.t 6],none⟩,⟨.p 2,.mov (.t 7),none⟩]) (.ret)))
def cf_print_Pat : CFunc :=
{ nargs := 1,ps := [0,1,2,5],results := [.slot 2],body := bd_print_Pat }
def lb_slices_Equal_api_Range_api_Range_0 : CCode :=
 .seq (.reg [⟨.p 14,.bin .lss (.p 13) (.p 12),none⟩]) (.seq (.cond (.p 14) (.skip) (.exit 0)) (.seq (.block 1 [0,1,12,13] (.seq (.reg [⟨.t 15,.mov (.p 13),none⟩,⟨.p 5,.mov (.t 15),none⟩]) (.seq (.dreg [⟨⟨.t 16,.mov (.p 0),none⟩,false,false,[]⟩,
 ⟨⟨.t 17,.mov (.p 5),none⟩,false,false,[]⟩,⟨⟨.t 18,.idxAddr 2 (.t 16) (.t 17),none⟩,false,false,[]⟩,⟨⟨.t 19,.loadN 2 (.t 18),none⟩,false,false,[]⟩,⟨⟨.t 20,.mov (.p 1),none⟩,false,false,[]⟩,
 ⟨⟨.t 21,.mov (.p 5),none⟩,false,false,[]⟩,⟨⟨.t 22,.idxAddr 2 (.t 20) (.t 21),none⟩,false,false,[]⟩,⟨⟨.t 23,.loadN 2 (.t 22),none⟩,false,false,[]⟩,⟨⟨.p 24,.eqv true (.agg [(0,.i),(1,.i)]) (.t 19) (.t 23),none⟩,false,false,[]⟩]) (.cond (.p 24) (.seq (.reg [⟨.p 4,.mov (.c (.bool false)),none⟩]) (.ret)) (.skip))))) (.reg [⟨.t 25,.bin .add (.p 13) (.c (.int .i64 1)),none⟩,
 ⟨.p 13,.mov (.t 25),none⟩])))
def bd_slices_Equal_api_Range_api_Range : CCode :=
 .seq (.reg [⟨.p 4,.mov (.c (.bool false)),none⟩]) (.seq (.seq (.reg [⟨.t 6,.mov (.p 0),none⟩,⟨.t 7,.lenSl (.t 6),none⟩,⟨.t 8,.mov (.p 1),none⟩,⟨.t 9,.lenSl (.t 8),none⟩,⟨.p 10,.bin .neq (.t 7) (.t 9),none⟩]) (.cond (.p 10) (.seq (.reg [⟨.p 4,.mov (.c (.bool false)),none⟩]) (.ret)) (.skip))) (.seq (.seq (.reg [⟨.t 11,.mov (.p 0),none⟩,
 ⟨.p 12,.lenSl (.t 11),none⟩,⟨.p 13,.mov (.c (.int .i64 0)),none⟩]) (.block 0 [] (.loop [0,1,12,13] lb_slices_Equal_api_Range_api_Range_0))) (.seq (.reg [⟨.p 4,.mov (.c (.bool true)),none⟩]) (.ret))))
def cf_slices_Equal_api_Range_api_Range : CFunc :=
{ nargs := 2,ps := [0,1,4,5,10,12,13,14,24],results := [.slot 4],body := bd_slices_Equal_api_Range_api_Range }
def lb_slices_EqualFunc_api_Re_api_Re_api_Re_api_Re_0 : CCode :=
 .seq (.reg [⟨.p 18,.bin .lss (.p 17) (.p 16),none⟩]) (.seq (.cond (.p 18) (.skip) (.exit 0)) (.seq (.block 1 [1,2,15,16,17] (.seq (.reg [⟨.t 19,.mov (.p 17),none⟩,⟨.t 20,.idxAddr 3 (.p 15) (.p 17),none⟩,
 ⟨.t 21,.loadN 3 (.t 20),none⟩,⟨.p 8,.alloc [.int .i64 0,.nils,.nils],none⟩,⟨.p 7,.mov (.t 19),none⟩,⟨.no,.store 3 (.p 8) (.t 21),none⟩]) (.seq (.reg [⟨.t 22,.mov (.p 1),none⟩,⟨.t 23,.mov (.p 7),none⟩,
 ⟨.t 24,.idxAddr 3 (.t 22) (.t 23),none⟩,⟨.t 25,.loadN 3 (.t 24),none⟩,⟨.p 9,.alloc [.int .i64 0,.nils,.nils],none⟩,⟨.no,.store 3 (.p 9) (.t 25),none⟩]) (.seq (.reg [⟨.t 26,.mov (.p 2),none⟩,
 ⟨.t 27,.loadN 3 (.p 8),none⟩,⟨.t 28,.loadN 3 (.p 9),none⟩,⟨.t 29,.callV (.t 26) [.t 27,.t 28],none⟩,⟨.p 30,.un .not (.t 29),none⟩]) (.cond (.p 30) (.seq (.reg [⟨.p 6,.mov (.c (.bool false)),none⟩]) (.ret)) (.skip)))))) (.reg [⟨.t 31,.bin .add (.p 17) (.c (.int .i64 1)),none⟩,
 ⟨.p 17,.mov (.t 31),none⟩])))
def bd_slices_EqualFunc_api_Re_api_Re_api_Re_api_Re : CCode :=
 .seq (.reg [⟨.p 6,.mov (.c (.bool false)),none⟩]) (.seq (.seq (.reg [⟨.t 10,.mov (.p 0),none⟩,⟨.t 11,.lenSl (.t 10),none⟩,⟨.t 12,.mov (.p 1),none⟩,⟨.t 13,.lenSl (.t 12),none⟩,⟨.p 14,.bin .neq (.t 11) (.t 13),none⟩]) (.cond (.p 14) (.seq (.reg [⟨.p 6,.mov (.c (.bool false)),none⟩]) (.ret)) (.skip))) (.seq (.seq (.reg [⟨.p 15,.mov (.p 0),none⟩,
 ⟨.p 16,.lenSl (.p 15),none⟩,⟨.p 17,.mov (.c (.int .i64 0)),none⟩]) (.block 0 [] (.loop [1,2,15,16,17] lb_slices_EqualFunc_api_Re_api_Re_api_Re_api_Re_0))) (.seq (.reg [⟨.p 6,.mov (.c (.bool true)),none⟩]) (.ret))))
def cf_slices_EqualFunc_api_Re_api_Re_api_Re_api_Re : CFunc :=
{ nargs := 3,ps := [0,1,2,6,7,8,9,14,15,16,17,18,30],results := [.slot 6],body := bd_slices_EqualFunc_api_Re_api_Re_api_Re_api_Re }
def bd_goboref6_Count : CCode :=
 .seq (.reg [⟨.p 1,.box (.p 0),none⟩,⟨.p 2,.mov (.c (.int .i64 0)),none⟩,⟨.p 3,.mov (.c (.int .i64 0)),none⟩]) (.seq (.reg [⟨.t 4,.loadN 3 (.p 1),none⟩,⟨.t 5,.call F_goboref6_count [.t 4,.c (.int .i64 0)],none⟩,
 ⟨.t 6,.extract (.t 5) 0,none⟩,⟨.t 7,.extract (.t 5) 1,none⟩,⟨.p 2,.mov (.t 6),none⟩,⟨.p 3,.mov (.t 7),none⟩]) (.ret))
def cf_goboref6_Count : CFunc :=
{ nargs := 1,ps := [0,1,2,3],results := [.slot 2,.slot 3],body := bd_goboref6_Count }
def lb_goboref6_parts_0 : CCode :=
 .seq (.seq (.reg [⟨.t 49,.mov (.p 4),none⟩,⟨.t 50,.mov (.p 3),none⟩,⟨.p 51,.bin .lss (.t 49) (.t 50),none⟩]) (.cond (.p 51) (.skip) (.exit 1))) (.seq (.block 2 [1,3,4] (.seq (.reg [⟨.t 54,.fieldAddr 2 (.p 1),none⟩,
 ⟨.t 55,.load1 (.t 54),none⟩,⟨.t 56,.mov (.p 4),none⟩,⟨.t 57,.idxAddr 3 (.t 55) (.t 56),none⟩,⟨.t 58,.loadN 3 (.t 57),none⟩,⟨.t 59,.call F_goboref6_parts [.t 58],none⟩,⟨.p 60,.un .not (.t 59),none⟩]) (.cond (.p 60) (.seq (.reg [⟨.p 2,.mov (.c (.bool false)),none⟩]) (.ret)) (.skip)))) (.reg [⟨.t 52,.mov (.p 4),none⟩,
 ⟨.t 53,.bin .add (.t 52) (.c (.int .i64 1)),none⟩,⟨.p 4,.mov (.t 53),none⟩]))
def bd_goboref6_parts : CCode :=
 .seq (.reg [⟨.p 1,.box (.p 0),none⟩,⟨.p 2,.mov (.c (.bool false)),none⟩]) (.seq (.reg [⟨.p 3,.mov (.c (.int .i64 0)),none⟩]) (.seq (.seq (.reg [⟨.t 5,.fieldAddr 0 (.p 1),none⟩,⟨.p 6,.load1 (.t 5),none⟩]) (.block 0 [1,3] (.seq (.seq (.reg [⟨.t 8,.bin .eql (.p 6) (.c (.int .i64 0)),none⟩,
 ⟨.p 7,.mov (.t 8),none⟩]) (.cond (.p 7) (.skip) (.reg [⟨.t 9,.bin .eql (.p 6) (.c (.int .i64 1)),none⟩,⟨.p 7,.mov (.t 9),none⟩]))) (.cond (.p 7) (.skip) (.seq (.reg [⟨.t 11,.bin .eql (.p 6) (.c (.int .i64 2)),none⟩,
 ⟨.p 10,.mov (.t 11),none⟩]) (.cond (.p 10) (.seq (.reg [⟨.t 12,.fieldAddr 1 (.p 1),none⟩,⟨.t 13,.load1 (.t 12),none⟩,⟨.t 14,.lenSl (.t 13),none⟩,⟨.t 15,.bin .lss (.t 14) (.c (.int .i64 1)),none⟩,
 ⟨.t 16,.mov (.t 15),none⟩,⟨.t 17,.fieldAddr 1 (.p 1),some (.t 16,false)⟩,⟨.t 18,.load1 (.t 17),some (.t 16,false)⟩,⟨.t 19,.lenSl (.t 18),some (.t 16,false)⟩,⟨.t 20,.bin .gtr (.t 19) (.c (.int .i64 20)),some (.t 16,false)⟩,
 ⟨.t 21,.pick (.t 16) (.c (.bool true)) (.t 20),none⟩,⟨.t 22,.mov (.t 21),none⟩,⟨.t 23,.fieldAddr 1 (.p 1),some (.t 22,false)⟩,⟨.t 24,.load1 (.t 23),some (.t 22,false)⟩,⟨.t 25,.call F_goboref3_May [.t 24],some (.t 22,false)⟩,
 ⟨.t 26,.un .not (.t 25),some (.t 22,false)⟩,⟨.p 27,.pick (.t 22) (.c (.bool true)) (.t 26),none⟩]) (.cond (.p 27) (.seq (.reg [⟨.p 2,.mov (.c (.bool false)),none⟩]) (.ret)) (.skip))) (.seq (.seq (.reg [⟨.t 29,.bin .eql (.p 6) (.c (.int .i64 3)),none⟩,
 ⟨.p 28,.mov (.t 29),none⟩]) (.cond (.p 28) (.skip) (.reg [⟨.t 30,.bin .eql (.p 6) (.c (.int .i64 4)),none⟩,⟨.p 28,.mov (.t 30),none⟩]))) (.cond (.p 28) (.reg [⟨.p 3,.mov (.c (.int .i64 2)),none⟩]) (.seq (.reg [⟨.t 32,.bin .eql (.p 6) (.c (.int .i64 5)),none⟩,
 ⟨.p 31,.mov (.t 32),none⟩]) (.cond (.p 31) (.reg [⟨.p 3,.mov (.c (.int .i64 1)),none⟩]) (.seq (.reg [⟨.p 2,.mov (.c (.bool false)),none⟩]) (.ret)))))))))))) (.seq (.seq (.reg [⟨.t 33,.fieldAddr 2 (.p 1),none⟩,
 ⟨.t 34,.load1 (.t 33),none⟩,⟨.t 35,.lenSl (.t 34),none⟩,⟨.t 36,.mov (.p 3),none⟩,⟨.t 37,.bin .neq (.t 35) (.t 36),none⟩,⟨.t 38,.mov (.t 37),none⟩,⟨.t 39,.fieldAddr 0 (.p 1),some (.t 38,false)⟩,
 ⟨.t 40,.load1 (.t 39),some (.t 38,false)⟩,⟨.t 41,.bin .neq (.t 40) (.c (.int .i64 2)),some (.t 38,false)⟩,⟨.t 42,.mov (.t 41),some (.t 38,false)⟩,⟨.t 43,.fieldAddr 1 (.p 1),some (.t 42,true)⟩,
 ⟨.t 44,.load1 (.t 43),some (.t 42,true)⟩,⟨.t 45,.lenSl (.t 44),some (.t 42,true)⟩,⟨.t 46,.bin .gtr (.t 45) (.c (.int .i64 0)),some (.t 42,true)⟩,⟨.t 47,.pick (.t 42) (.t 46) (.c (.bool false)),some (.t 38,false)⟩,
 ⟨.p 48,.pick (.t 38) (.c (.bool true)) (.t 47),none⟩]) (.cond (.p 48) (.seq (.reg [⟨.p 2,.mov (.c (.bool false)),none⟩]) (.ret)) (.skip))) (.seq (.seq (.reg [⟨.p 4,.mov (.c (.int .i64 0)),none⟩]) (.block 1 [] (.loop [1,3,4] lb_goboref6_parts_0))) (.seq (.reg [⟨.p 2,.mov (.c (.bool true)),none⟩]) (.ret))))))
def cf_goboref6_parts : CFunc :=
{ nargs := 1,ps := [0,1,2,3,4,6,7,10,27,28,31,48,51,60],results := [.slot 2],body := bd_goboref6_parts }
def bd_regex_within : CCode :=
 .seq (.reg [⟨.p 1,.box (.p 0),none⟩,⟨.p 2,.mov (.c (.bool false)),none⟩]) (.seq (.reg [⟨.p 3,.alloc [.int .i64 0],none⟩,⟨.no,.store 1 (.p 3) (.c (.int .i64 60)),none⟩]) (.seq (.reg [⟨.p 4,.alloc [.nilf],none⟩]) (.seq (.reg [⟨.t 5,.mkFn F_regex_within_1 [.p 3,.p 4],none⟩,
 ⟨.no,.store 1 (.p 4) (.t 5),none⟩]) (.seq (.reg [⟨.t 6,.load1 (.p 4),none⟩,⟨.t 7,.loadN 3 (.p 1),none⟩,⟨.t 8,.callV (.t 6) [.t 7,.c (.int .i64 1)],none⟩,⟨.p 2,.mov (.t 8),none⟩]) (.ret)))))
def cf_regex_within : CFunc :=
{ nargs := 1,ps := [0,1,2,3,4],results := [.slot 2],body := bd_regex_within }
def bd_regex_may : CCode :=
 .seq (.reg [⟨.p 1,.box (.p 0),none⟩,⟨.p 2,.mov (.c (.bool false)),none⟩]) (.seq (.seq (.dreg [⟨⟨.t 3,.fieldAddr 2 (.p 1),none⟩,false,false,[]⟩,⟨⟨.t 4,.load1 (.t 3),none⟩,true,false,[]⟩,
 ⟨⟨.t 5,.lenSl (.t 4),none⟩,false,false,[]⟩,⟨⟨.t 6,.fieldAddr 0 (.p 1),none⟩,false,false,[]⟩,⟨⟨.t 7,.load1 (.t 6),none⟩,false,false,[]⟩,⟨⟨.t 8,.call F_regex_parts [.t 7],none⟩,false,false,[1]⟩,
 ⟨⟨.t 9,.bin .neq (.t 5) (.t 8),none⟩,false,false,[]⟩,⟨⟨.t 10,.mov (.t 9),none⟩,false,false,[]⟩,⟨⟨.t 11,.fieldAddr 2 (.p 1),some (.t 10,false)⟩,false,false,[]⟩,⟨⟨.t 12,.load1 (.t 11),some (.t 10,false)⟩,false,false,[]⟩,
 ⟨⟨.t 13,.call F_slices_ContainsFunc_api_Re_api_Re [.t 12,.f F_regex_may_1],some (.t 10,false)⟩,false,false,[]⟩,⟨⟨.p 14,.pick (.t 10) (.c (.bool true)) (.t 13),none⟩,false,false,[]⟩]) (.cond (.p 14) (.seq (.reg [⟨.p 2,.mov (.c (.bool false)),none⟩]) (.ret)) (.skip))) (.seq (.seq (.reg [⟨.t 15,.fieldAddr 0 (.p 1),none⟩,
 ⟨.t 16,.load1 (.t 15),none⟩,⟨.p 17,.bin .neq (.t 16) (.c (.int .i64 2)),none⟩]) (.cond (.p 17) (.seq (.reg [⟨.t 18,.fieldAddr 1 (.p 1),none⟩,⟨.t 19,.load1 (.t 18),none⟩,⟨.t 20,.lenSl (.t 19),none⟩,
 ⟨.t 21,.bin .eql (.t 20) (.c (.int .i64 0)),none⟩,⟨.p 2,.mov (.t 21),none⟩]) (.ret)) (.skip))) (.seq (.reg [⟨.t 22,.fieldAddr 1 (.p 1),none⟩,⟨.t 23,.load1 (.t 22),none⟩,⟨.t 24,.lenSl (.t 23),none⟩,
 ⟨.t 25,.bin .geq (.t 24) (.c (.int .i64 1)),none⟩,⟨.t 26,.mov (.t 25),none⟩,⟨.t 27,.fieldAddr 1 (.p 1),some (.t 26,true)⟩,⟨.t 28,.load1 (.t 27),some (.t 26,true)⟩,⟨.t 29,.lenSl (.t 28),some (.t 26,true)⟩,
 ⟨.t 30,.bin .leq (.t 29) (.c (.int .i64 20)),some (.t 26,true)⟩,⟨.t 31,.pick (.t 26) (.t 30) (.c (.bool false)),none⟩,⟨.t 32,.mov (.t 31),none⟩,⟨.t 33,.fieldAddr 1 (.p 1),some (.t 32,true)⟩,
 ⟨.t 34,.load1 (.t 33),some (.t 32,true)⟩,⟨.t 35,.call F_runes_May [.t 34],some (.t 32,true)⟩,⟨.t 36,.pick (.t 32) (.t 35) (.c (.bool false)),none⟩,⟨.p 2,.mov (.t 36),none⟩]) (.ret))))
def cf_regex_may : CFunc :=
{ nargs := 1,ps := [0,1,2,14,17],results := [.slot 2],body := bd_regex_may }
def bd_print_re_1 : CCode :=
 .seq (.reg [⟨.p 5,.mov (.c (.str [])),none⟩]) (.seq (.dreg [⟨⟨.t 6,.fieldAddr 2 (.p 2),none⟩,false,false,[]⟩,⟨⟨.t 7,.load1 (.t 6),none⟩,false,false,[]⟩,⟨⟨.t 8,.mov (.p 0),none⟩,false,false,[]⟩,
 ⟨⟨.t 9,.idxAddr 3 (.t 7) (.t 8),none⟩,false,false,[]⟩,⟨⟨.t 10,.loadN 3 (.t 9),none⟩,false,false,[]⟩,⟨⟨.t 11,.call F_print_re [.t 10],none⟩,true,false,[]⟩,⟨⟨.t 12,.mov (.p 1),none⟩,false,false,[]⟩,
 ⟨⟨.t 13,.fieldAddr 2 (.p 2),none⟩,false,false,[]⟩,⟨⟨.t 14,.load1 (.t 13),none⟩,false,false,[5]⟩,⟨⟨.t 15,.mov (.p 0),none⟩,false,false,[]⟩,⟨⟨.t 16,.idxAddr 3 (.t 14) (.t 15),none⟩,false,false,[]⟩,
 ⟨⟨.t 17,.fieldAddr 0 (.t 16),none⟩,false,false,[]⟩,⟨⟨.t 18,.load1 (.t 17),none⟩,false,false,[5]⟩,⟨⟨.t 19,.call F_slices_Contains_int_int [.t 12,.t 18],none⟩,false,false,[]⟩,⟨⟨.t 20,.call F_print_within [.t 11,.t 19],none⟩,false,false,[]⟩,
 ⟨⟨.p 5,.mov (.t 20),none⟩,false,false,[]⟩]) (.ret))
def cf_print_re_1 : CFunc :=
{ nargs := 3,ps := [0,1,2,5],results := [.slot 5],body := bd_print_re_1 }
def bd_print_within : CCode :=
 .seq (.reg [⟨.p 4,.mov (.c (.str [])),none⟩]) (.seq (.seq (.reg [⟨.p 5,.mov (.p 1),none⟩]) (.cond (.p 5) (.seq (.reg [⟨.t 6,.mov (.p 0),none⟩,⟨.t 7,.bin .add (.c (.str [40])) (.t 6),none⟩,
 ⟨.t 8,.bin .add (.t 7) (.c (.str [41])),none⟩,⟨.p 4,.mov (.t 8),none⟩]) (.ret)) (.skip))) (.seq (.reg [⟨.t 9,.mov (.p 0),none⟩,⟨.p 4,.mov (.t 9),none⟩]) (.ret)))
def cf_print_within : CFunc :=
{ nargs := 2,ps := [0,1,4,5],results := [.slot 4],body := bd_print_within }
def bd_slices_Contains_int_int : CCode :=
 .seq (.reg [⟨.p 4,.mov (.c (.bool false)),none⟩]) (.seq (.reg [⟨.t 5,.mov (.p 0),none⟩,⟨.t 6,.mov (.p 1),none⟩,⟨.t 7,.call F_slices_Index_int_int [.t 5,.t 6],none⟩,⟨.t 8,.bin .geq (.t 7) (.c (.int .i64 0)),none⟩,
 ⟨.p 4,.mov (.t 8),none⟩]) (.ret))
def cf_slices_Contains_int_int : CFunc :=
{ nargs := 2,ps := [0,1,4],results := [.slot 4],body := bd_slices_Contains_int_int }
def bd_word_Caught_1 : CCode :=
 .seq (.reg [⟨.t 4,.recover,none⟩,⟨.p 1,.mov (.t 4),none⟩]) (.seq (.reg [⟨.t 5,.mov (.p 1),none⟩,⟨.p 6,.eqv true .iface (.t 5) (.c (.nili)),none⟩]) (.cond (.p 6) (.seq (.reg [⟨.t 8,.mov (.p 1),none⟩,
 ⟨.t 9,.assert T_word_Fault (some (.agg [.int .i64 0,.int .i64 0])) (.t 8),none⟩,⟨.t 7,.mov (.t 9),none⟩,⟨.t 10,.extract (.t 7) 0,none⟩,⟨.t 11,.extract (.t 7) 1,none⟩,⟨.p 2,.alloc [.int .i64 0,.int .i64 0],none⟩,
 ⟨.no,.store 2 (.p 2) (.t 10),none⟩,⟨.p 3,.mov (.t 11),none⟩]) (.seq (.seq (.reg [⟨.t 12,.mov (.p 3),none⟩,⟨.p 13,.un .not (.t 12),none⟩]) (.cond (.p 13) (.reg [⟨.t 14,.mov (.p 1),none⟩,
 ⟨.no,.panic (.t 14),none⟩]) (.skip))) (.reg [⟨.t 15,.loadN 2 (.p 2),none⟩,⟨.no,.store 2 (.p 0) (.t 15),none⟩]))) (.skip)))
def cf_word_Caught_1 : CFunc :=
{ nargs := 1,ps := [0,1,2,3,6,13],results := [],body := bd_word_Caught_1 }
def bd_decode_All : CCode :=
 .seq (.reg [⟨.p 2,.mov (.c (.nils)),none⟩]) (.seq (.reg [⟨.t 4,.call F_decode_New [],none⟩,⟨.p 3,.mov (.t 4),none⟩]) (.seq (.reg [⟨.t 5,.mov (.p 3),none⟩,⟨.t 6,.mov (.p 0),none⟩,⟨.t 7,.call F_decode_Dec_Feed [.t 5,.t 6],none⟩,
 ⟨.t 8,.mov (.p 3),none⟩,⟨.t 9,.call F_decode_Dec_Close [.t 8],none⟩,⟨.t 10,.append 5 32 (.t 7) (.t 9),none⟩,⟨.p 2,.mov (.t 10),none⟩]) (.ret)))
def cf_decode_All : CFunc :=
{ nargs := 1,ps := [0,2,3],results := [.slot 2],body := bd_decode_All }
def lb_parse_regex_row_0 : CCode :=
 .seq (.seq (.reg [⟨.t 30,.mov (.p 0),none⟩,⟨.t 31,.nilCheck (.t 30),none⟩,⟨.t 32,.fieldAddr 0 (.t 31),none⟩,⟨.t 33,.load1 (.t 32),none⟩,⟨.p 34,.call F_word_Reader_Skip [.t 33,.c (.int .i32 42)],none⟩]) (.cond (.p 34) (.skip) (.exit 2))) (.block 3 [0,2,3,4,6] (.reg [⟨.t 35,.loadN 3 (.p 6),none⟩,
 ⟨.t 36,.lit [.int .i64 0,.nils,.nils] 1 [(0,3,.t 35)],none⟩,⟨.t 37,.build [.int .i64 0,.nils,.nils] [(0,1,.c (.int .i64 5)),(2,1,.t 36)],none⟩,⟨.no,.store 3 (.p 6) (.t 37),none⟩]))
def lb_parse_regex_row_1 : CCode :=
 .seq (.seq (.reg [⟨.t 13,.mov (.p 5),none⟩,⟨.t 14,.bin .neq (.t 13) (.c (.int .i32 (-1))),none⟩,⟨.t 15,.mov (.t 14),none⟩,⟨.t 16,.mov (.p 5),some (.t 15,true)⟩,⟨.t 17,.bin .neq (.t 16) (.c (.int .i32 124)),some (.t 15,true)⟩,
 ⟨.t 18,.pick (.t 15) (.t 17) (.c (.bool false)),none⟩,⟨.t 19,.mov (.t 18),none⟩,⟨.t 20,.mov (.p 5),some (.t 19,true)⟩,⟨.t 21,.bin .neq (.t 20) (.c (.int .i32 41)),some (.t 19,true)⟩,
 ⟨.p 22,.pick (.t 19) (.t 21) (.c (.bool false)),none⟩]) (.cond (.p 22) (.skip) (.exit 0))) (.seq (.block 1 [0,2,3,4] (.seq (.reg [⟨.t 28,.mov (.p 0),none⟩,⟨.t 29,.call F_parse_regex_atom [.t 28],none⟩,
 ⟨.p 6,.alloc [.int .i64 0,.nils,.nils],none⟩,⟨.no,.store 3 (.p 6) (.t 29),none⟩]) (.seq (.block 2 [0,2,3,4,6] (.loop [0,2,3,4,6] lb_parse_regex_row_0)) (.seq (.seq (.reg [⟨.p 38,.mov (.p 4),none⟩]) (.cond (.p 38) (.reg [⟨.t 39,.loadN 3 (.p 3),none⟩,
 ⟨.t 40,.loadN 3 (.p 6),none⟩,⟨.t 41,.call F_parse_two [.c (.int .i64 3),.t 39,.t 40],none⟩,⟨.no,.store 3 (.p 6) (.t 41),none⟩]) (.skip))) (.reg [⟨.t 42,.loadN 3 (.p 6),none⟩,⟨.no,.store 3 (.p 3) (.t 42),none⟩,
 ⟨.p 4,.mov (.c (.bool true)),none⟩]))))) (.reg [⟨.t 23,.mov (.p 0),none⟩,⟨.t 24,.nilCheck (.t 23),none⟩,⟨.t 25,.fieldAddr 0 (.t 24),none⟩,⟨.t 26,.load1 (.t 25),none⟩,⟨.t 27,.call F_word_Reader_Peek [.t 26],none⟩,
 ⟨.p 5,.mov (.t 27),none⟩]))
def bd_parse_regex_row : CCode :=
 .seq (.reg [⟨.p 2,.alloc [.int .i64 0,.nils,.nils],none⟩]) (.seq (.reg [⟨.t 7,.build [.int .i64 0,.nils,.nils] [(0,1,.c (.int .i64 1))],none⟩,⟨.p 3,.alloc [.int .i64 0,.nils,.nils],none⟩,
 ⟨.no,.store 3 (.p 3) (.t 7),none⟩,⟨.p 4,.mov (.c (.bool false)),none⟩]) (.seq (.seq (.reg [⟨.t 8,.mov (.p 0),none⟩,⟨.t 9,.nilCheck (.t 8),none⟩,⟨.t 10,.fieldAddr 0 (.t 9),none⟩,⟨.t 11,.load1 (.t 10),none⟩,
 ⟨.t 12,.call F_word_Reader_Peek [.t 11],none⟩,⟨.p 5,.mov (.t 12),none⟩]) (.block 0 [2,3] (.loop [0,2,3,4,5] lb_parse_regex_row_1))) (.seq (.reg [⟨.t 43,.loadN 3 (.p 3),none⟩,⟨.no,.store 3 (.p 2) (.t 43),none⟩]) (.ret))))
def cf_parse_regex_row : CFunc :=
{ nargs := 1,ps := [0,2,3,4,5,6,22,34,38],results := [.cellN 2 3],body := bd_parse_regex_row }
def bd_word_Reader_Skip : CCode :=
 .seq (.reg [⟨.p 4,.mov (.c (.bool false)),none⟩]) (.seq (.seq (.reg [⟨.t 5,.mov (.p 0),none⟩,⟨.t 6,.call F_word_Reader_Peek [.t 5],none⟩,⟨.t 7,.mov (.p 1),none⟩,⟨.p 8,.bin .neq (.t 6) (.t 7),none⟩]) (.cond (.p 8) (.seq (.reg [⟨.p 4,.mov (.c (.bool false)),none⟩]) (.ret)) (.skip))) (.seq (.reg [⟨.t 9,.mov (.p 0),none⟩,
 ⟨.t 10,.nilCheck (.t 9),none⟩,⟨.t 11,.fieldAddr 1 (.t 10),none⟩,⟨.t 12,.load1 (.t 11),none⟩,⟨.t 13,.bin .add (.t 12) (.c (.int .i64 1)),none⟩,⟨.t 14,.nilCheck (.t 9),none⟩,⟨.t 15,.fieldAddr 1 (.t 14),none⟩,
 ⟨.no,.store 1 (.t 15) (.t 13),none⟩]) (.seq (.reg [⟨.p 4,.mov (.c (.bool true)),none⟩]) (.ret))))
def cf_word_Reader_Skip : CFunc :=
{ nargs := 2,ps := [0,1,4,8],results := [.slot 4],body := bd_word_Reader_Skip }
def bd_parse_two : CCode :=
 .seq (.reg [⟨.p 4,.box (.p 1),none⟩,⟨.p 5,.box (.p 2),none⟩,⟨.p 6,.alloc [.int .i64 0,.nils,.nils],none⟩]) (.seq (.reg [⟨.t 7,.mov (.p 0),none⟩,⟨.t 8,.loadN 3 (.p 4),none⟩,⟨.t 9,.loadN 3 (.p 5),none⟩,
 ⟨.t 10,.lit [.int .i64 0,.nils,.nils,.int .i64 0,.nils,.nils] 2 [(0,3,.t 8),(3,3,.t 9)],none⟩,⟨.t 11,.build [.int .i64 0,.nils,.nils] [(0,1,.t 7),(2,1,.t 10)],none⟩,⟨.no,.store 3 (.p 6) (.t 11),none⟩]) (.ret))
def cf_parse_two : CFunc :=
{ nargs := 3,ps := [0,1,2,4,5,6],results := [.cellN 6 3],body := bd_parse_two }
def bd_gram_Check : CCode :=
 .seq (.reg [⟨.p 1,.box (.p 0),none⟩,⟨.p 2,.mov (.c (.int .i64 0)),none⟩,⟨.p 3,.mov (.c (.int .i64 0)),none⟩]) (.seq (.reg [⟨.t 5,.mkFn F_gram_Check_1 [.p 1],none⟩,⟨.t 6,.call F_gram_caught [.t 5],none⟩,
 ⟨.p 4,.alloc [.int .i64 0,.int .i64 0],none⟩,⟨.no,.store 2 (.p 4) (.t 6),none⟩]) (.seq (.dreg [⟨⟨.t 7,.fieldAddr 0 (.p 4),none⟩,false,false,[]⟩,⟨⟨.t 8,.load1 (.t 7),none⟩,false,false,[]⟩,
 ⟨⟨.t 9,.fieldAddr 1 (.p 4),none⟩,false,false,[]⟩,⟨⟨.t 10,.load1 (.t 9),none⟩,false,false,[]⟩,⟨⟨.p 2,.mov (.t 8),none⟩,false,false,[]⟩,⟨⟨.p 3,.mov (.t 10),none⟩,false,false,[]⟩]) (.ret)))
def cf_gram_Check : CFunc :=
{ nargs := 1,ps := [0,1,2,3,4],results := [.slot 2,.slot 3],body := bd_gram_Check }
def bd_print_none : CCode :=
 .seq (.reg [⟨.p 1,.box (.p 0),none⟩,⟨.p 2,.mov (.c (.bool false)),none⟩]) (.seq (.reg [⟨.t 3,.fieldAddr 0 (.p 1),none⟩,⟨.t 4,.load1 (.t 3),none⟩,⟨.t 5,.bin .eql (.t 4) (.c (.int .i64 0)),none⟩,
 ⟨.t 6,.mov (.t 5),none⟩,⟨.t 7,.fieldAddr 2 (.p 1),some (.t 6,false)⟩,⟨.t 8,.load1 (.t 7),some (.t 6,false)⟩,⟨.t 9,.call F_slices_ContainsFunc_api_Re_api_Re [.t 8,.f F_print_none],some (.t 6,false)⟩,
 ⟨.t 10,.pick (.t 6) (.c (.bool true)) (.t 9),none⟩,⟨.p 2,.mov (.t 10),none⟩]) (.ret))
def cf_print_none : CFunc :=
{ nargs := 1,ps := [0,1,2],results := [.slot 2],body := bd_print_none }
def bd_strings_Builder_WriteString : CCode :=
 .seq (.reg [⟨.p 4,.mov (.c (.int .i64 0)),none⟩,⟨.p 5,.mov (.c (.nili)),none⟩]) (.seq (.reg [⟨.t 6,.mov (.p 0),none⟩,⟨.t 7,.call F_strings_Builder_copyCheck [.t 6],none⟩]) (.seq (.reg [⟨.t 8,.mov (.p 0),none⟩,
 ⟨.t 9,.mov (.p 0),none⟩,⟨.t 10,.nilCheck (.t 9),none⟩,⟨.t 11,.fieldAddr 1 (.t 10),none⟩,⟨.t 12,.load1 (.t 11),none⟩,⟨.t 13,.mov (.p 1),none⟩,⟨.t 14,.ext (.apps T_uint8) [.t 12,.t 13],none⟩,
 ⟨.t 15,.nilCheck (.t 8),none⟩,⟨.t 16,.fieldAddr 1 (.t 15),none⟩,⟨.no,.ext .stT [.t 16,.t 14],none⟩]) (.seq (.reg [⟨.t 17,.mov (.p 1),none⟩,⟨.t 18,.lenStr (.t 17),none⟩,⟨.p 4,.mov (.t 18),none⟩,
 ⟨.p 5,.mov (.c (.nili)),none⟩]) (.ret))))
def cf_strings_Builder_WriteString : CFunc :=
{ nargs := 2,ps := [0,1,4,5],results := [.slot 4,.slot 5],body := bd_strings_Builder_WriteString }
def bd_strconv_Itoa : CCode :=
 .seq (.reg [⟨.p 2,.mov (.c (.str [])),none⟩]) (.seq (.reg [⟨.t 3,.mov (.p 0),none⟩,⟨.t 4,.call F_strconv_Itoa_70 [.t 3],none⟩,⟨.p 2,.mov (.t 4),none⟩]) (.ret))
def cf_strconv_Itoa : CFunc :=
{ nargs := 1,ps := [0,2],results := [.slot 2],body := bd_strconv_Itoa }
def bd_print_names : CCode :=
 .seq (.reg [⟨.p 2,.mov (.c (.str [])),none⟩]) (.seq (.reg [⟨.t 3,.mov (.p 0),none⟩,⟨.t 4,.call F_strings_Join [.t 3,.c (.str [32])],none⟩,⟨.p 2,.mov (.t 4),none⟩]) (.ret))
def cf_print_names : CFunc :=
{ nargs := 1,ps := [0,2],results := [.slot 2],body := bd_print_names }
def bd_print_pat : CCode :=
 .seq (.reg [⟨.p 1,.box (.p 0),none⟩,⟨.p 2,.mov (.c (.str [])),none⟩]) (.seq (.reg [⟨.t 4,.mkFn F_print_pat_1 [.p 1],none⟩,⟨.p 3,.mov (.t 4),none⟩]) (.seq (.seq (.reg [⟨.t 5,.fieldAddr 0 (.p 1),none⟩,
 ⟨.p 6,.load1 (.t 5),none⟩]) (.block 0 [] (.seq (.reg [⟨.t 8,.bin .eql (.p 6) (.c (.int .i64 1)),none⟩,⟨.p 7,.mov (.t 8),none⟩]) (.cond (.p 7) (.seq (.stuck) (.ret)) (.seq (.reg [⟨.t 10,.bin .eql (.p 6) (.c (.int .i64 2)),none⟩,
 ⟨.p 9,.mov (.t 10),none⟩]) (.cond (.p 9) (.seq (.stuck) (.ret)) (.seq (.reg [⟨.t 17,.bin .eql (.p 6) (.c (.int .i64 3)),none⟩,⟨.p 16,.mov (.t 17),none⟩]) (.cond (.p 16) (.seq (.dreg [⟨⟨.t 18,.fieldAddr 1 (.p 1),none⟩,false,false,[]⟩,
 ⟨⟨.t 19,.load1 (.t 18),none⟩,false,false,[]⟩,⟨⟨.t 20,.call F_print_names [.t 19],none⟩,true,false,[]⟩,⟨⟨.t 21,.bin .add (.c (.str [60])) (.t 20),none⟩,false,false,[]⟩,⟨⟨.t 22,.bin .add (.t 21) (.c (.str [58])),none⟩,false,false,[]⟩,
 ⟨⟨.t 23,.mov (.p 3),none⟩,false,false,[]⟩,⟨⟨.t 24,.callV (.t 23) [.c (.int .i64 0),.c (.nils)],none⟩,true,false,[]⟩,⟨⟨.t 25,.bin .add (.t 22) (.t 24),none⟩,false,false,[]⟩,⟨⟨.t 26,.bin .add (.t 25) (.c (.str [58])),none⟩,false,false,[]⟩,
 ⟨⟨.t 27,.fieldAddr 2 (.p 1),none⟩,false,false,[]⟩,⟨⟨.t 28,.load1 (.t 27),none⟩,false,false,[2,6]⟩,⟨⟨.t 29,.call F_print_names [.t 28],none⟩,false,false,[]⟩,⟨⟨.t 30,.bin .add (.t 26) (.t 29),none⟩,false,false,[]⟩,
 ⟨⟨.t 31,.bin .add (.t 30) (.c (.str [62])),none⟩,false,false,[]⟩,⟨⟨.p 2,.mov (.t 31),none⟩,false,false,[]⟩]) (.ret)) (.seq (.reg [⟨.t 33,.bin .eql (.p 6) (.c (.int .i64 5)),none⟩,⟨.p 32,.mov (.t 33),none⟩]) (.cond (.p 32) (.seq (.stuck) (.ret)) (.seq (.reg [⟨.t 43,.bin .eql (.p 6) (.c (.int .i64 6)),none⟩,
 ⟨.p 42,.mov (.t 43),none⟩]) (.cond (.p 42) (.seq (.stuck) (.ret)) (.seq (.reg [⟨.t 52,.bin .eql (.p 6) (.c (.int .i64 7)),none⟩,⟨.p 51,.mov (.t 52),none⟩]) (.cond (.p 51) (.seq (.stuck) (.ret)) (.skip))))))))))))))) (.seq (.reg [⟨.p 2,.mov (.c (.str [95])),none⟩]) (.ret))))
def cf_print_pat : CFunc :=
{ nargs := 1,ps := [0,1,2,3,6,7,9,16,32,42,51],results := [.slot 2],body := bd_print_pat }
def bd_strings_Builder_Len : CCode :=
 .seq (.reg [⟨.p 2,.mov (.c (.int .i64 0)),none⟩]) (.seq (.reg [⟨.t 3,.mov (.p 0),none⟩,⟨.t 4,.nilCheck (.t 3),none⟩,⟨.t 5,.fieldAddr 1 (.t 4),none⟩,⟨.t 6,.load1 (.t 5),none⟩,⟨.t 7,.lenSl (.t 6),none⟩,
 ⟨.p 2,.mov (.t 7),none⟩]) (.ret))
def cf_strings_Builder_Len : CFunc :=
{ nargs := 1,ps := [0,2],results := [.slot 2],body := bd_strings_Builder_Len }
def bd_strings_Builder_String : CCode :=
 .seq (.reg [⟨.p 2,.mov (.c (.str [])),none⟩]) (.seq (.dreg [⟨⟨.t 3,.mov (.p 0),none⟩,false,false,[]⟩,⟨⟨.t 4,.nilCheck (.t 3),none⟩,false,false,[]⟩,⟨⟨.t 5,.fieldAddr 1 (.t 4),none⟩,false,false,[]⟩,
 ⟨⟨.t 6,.load1 (.t 5),none⟩,false,false,[]⟩,⟨⟨.t 7,.ext .sdata [.t 6],none⟩,false,false,[]⟩,⟨⟨.t 8,.mov (.p 0),none⟩,false,false,[]⟩,⟨⟨.t 9,.nilCheck (.t 8),none⟩,false,false,[]⟩,⟨⟨.t 10,.fieldAddr 1 (.t 9),none⟩,false,false,[]⟩,
 ⟨⟨.t 11,.load1 (.t 10),none⟩,false,false,[]⟩,⟨⟨.t 12,.lenSl (.t 11),none⟩,false,false,[]⟩,⟨⟨.t 13,.ext (.ustr T_uint8) [.t 7,.t 12],none⟩,false,false,[]⟩,⟨⟨.p 2,.mov (.t 13),none⟩,false,false,[]⟩]) (.ret))
def cf_strings_Builder_String : CFunc :=
{ nargs := 1,ps := [0,2],results := [.slot 2],body := bd_strings_Builder_String }
def bd_print_one : CCode :=
 .seq (.reg [⟨.p 2,.mov (.c (.str [])),none⟩]) (.seq (.seq (.reg [⟨.t 3,.mov (.p 0),none⟩,⟨.t 4,.bin .geq (.t 3) (.c (.int .i32 97)),none⟩,⟨.t 5,.mov (.t 4),none⟩,⟨.t 6,.mov (.p 0),some (.t 5,true)⟩,
 ⟨.t 7,.bin .leq (.t 6) (.c (.int .i32 122)),some (.t 5,true)⟩,⟨.t 8,.pick (.t 5) (.t 7) (.c (.bool false)),none⟩,⟨.t 9,.mov (.t 8),none⟩,⟨.t 10,.mov (.p 0),some (.t 9,false)⟩,⟨.t 11,.bin .geq (.t 10) (.c (.int .i32 65)),some (.t 9,false)⟩,
 ⟨.t 12,.mov (.t 11),some (.t 9,false)⟩,⟨.t 13,.mov (.p 0),some (.t 12,true)⟩,⟨.t 14,.bin .leq (.t 13) (.c (.int .i32 90)),some (.t 12,true)⟩,⟨.t 15,.pick (.t 12) (.t 14) (.c (.bool false)),some (.t 9,false)⟩,
 ⟨.t 16,.pick (.t 9) (.c (.bool true)) (.t 15),none⟩,⟨.t 17,.mov (.t 16),none⟩,⟨.t 18,.mov (.p 0),some (.t 17,false)⟩,⟨.t 19,.bin .geq (.t 18) (.c (.int .i32 48)),some (.t 17,false)⟩,
 ⟨.t 20,.mov (.t 19),some (.t 17,false)⟩,⟨.t 21,.mov (.p 0),some (.t 20,true)⟩,⟨.t 22,.bin .leq (.t 21) (.c (.int .i32 57)),some (.t 20,true)⟩,⟨.t 23,.pick (.t 20) (.t 22) (.c (.bool false)),some (.t 17,false)⟩,
 ⟨.p 24,.pick (.t 17) (.c (.bool true)) (.t 23),none⟩]) (.cond (.p 24) (.seq (.reg [⟨.t 25,.mov (.p 0),none⟩,⟨.t 26,.intStr (.t 25),none⟩,⟨.p 2,.mov (.t 26),none⟩]) (.ret)) (.skip))) (.seq (.reg [⟨.t 27,.mov (.p 0),none⟩,
 ⟨.t 28,.convI .i64 (.t 27),none⟩,⟨.t 29,.call F_strconv_FormatInt [.t 28,.c (.int .i64 16)],none⟩,⟨.t 30,.call F_strings_ToUpper [.t 29],none⟩,⟨.t 31,.bin .add (.c (.str [92,117,123])) (.t 30),none⟩,
 ⟨.t 32,.bin .add (.t 31) (.c (.str [125])),none⟩,⟨.p 2,.mov (.t 32),none⟩]) (.ret)))
def cf_print_one : CFunc :=
{ nargs := 1,ps := [0,2,24],results := [.slot 2],body := bd_print_one }
def lb_runes_Count_0 : CCode :=
 .seq (.reg [⟨.p 10,.bin .lss (.p 9) (.p 8),none⟩]) (.seq (.cond (.p 10) (.skip) (.exit 0)) (.seq (.block 1 [3,7,8,9] (.seq (.reg [⟨.t 11,.idxAddr 2 (.p 7) (.p 9),none⟩,⟨.t 12,.loadN 2 (.t 11),none⟩,
 ⟨.p 5,.alloc [.int .i64 0,.int .i64 0],none⟩,⟨.no,.store 2 (.p 5) (.t 12),none⟩]) (.reg [⟨.t 13,.mov (.p 3),none⟩,⟨.t 14,.fieldAddr 1 (.p 5),none⟩,⟨.t 15,.load1 (.t 14),none⟩,⟨.t 16,.bin .add (.t 13) (.t 15),none⟩,
 ⟨.t 17,.fieldAddr 0 (.p 5),none⟩,⟨.t 18,.load1 (.t 17),none⟩,⟨.t 19,.bin .sub (.t 16) (.t 18),none⟩,⟨.p 3,.mov (.t 19),none⟩]))) (.reg [⟨.t 20,.bin .add (.p 9) (.c (.int .i64 1)),none⟩,⟨.p 9,.mov (.t 20),none⟩])))
def bd_runes_Count : CCode :=
 .seq (.reg [⟨.p 2,.mov (.c (.int .i64 0)),none⟩]) (.seq (.reg [⟨.p 3,.mov (.c (.int .i64 0)),none⟩]) (.seq (.seq (.reg [⟨.t 6,.mov (.p 0),none⟩,⟨.p 7,.call F_runes_spans [.t 6],none⟩,
 ⟨.p 8,.lenSl (.p 7),none⟩,⟨.p 9,.mov (.c (.int .i64 0)),none⟩]) (.block 0 [3] (.loop [3,7,8,9] lb_runes_Count_0))) (.seq (.reg [⟨.t 21,.mov (.p 3),none⟩,⟨.p 2,.mov (.t 21),none⟩]) (.ret))))
def cf_runes_Count : CFunc :=
{ nargs := 1,ps := [0,2,3,5,7,8,9,10],results := [.slot 2],body := bd_runes_Count }
def bd_gram_Shaped : CCode :=
 .seq (.reg [⟨.p 1,.box (.p 0),none⟩,⟨.p 2,.mov (.c (.bool false)),none⟩]) (.seq (.reg [⟨.p 3,.alloc [.nilf],none⟩]) (.seq (.reg [⟨.t 4,.mkFn F_gram_Shaped_1 [.p 3],none⟩,⟨.no,.store 1 (.p 3) (.t 4),none⟩]) (.seq (.reg [⟨.t 5,.loadN 4 (.p 1),none⟩,
 ⟨.t 6,.call F_gram_few [.t 5],none⟩,⟨.t 7,.mov (.t 6),none⟩,⟨.t 8,.load1 (.p 3),some (.t 7,true)⟩,⟨.t 9,.loadN 4 (.p 1),some (.t 7,true)⟩,⟨.t 10,.callV (.t 8) [.t 9],some (.t 7,true)⟩,
 ⟨.t 11,.pick (.t 7) (.t 10) (.c (.bool false)),none⟩,⟨.p 2,.mov (.t 11),none⟩]) (.ret))))
def cf_gram_Shaped : CFunc :=
{ nargs := 1,ps := [0,1,2,3],results := [.slot 2],body := bd_gram_Shaped }
def lb_goboref6_count_0 : CCode :=
 .seq (.seq (.reg [⟨.t 12,.mov (.p 7),none⟩,⟨.t 13,.fieldAddr 2 (.p 2),none⟩,⟨.t 14,.load1 (.t 13),none⟩,⟨.t 15,.lenSl (.t 14),none⟩,⟨.t 16,.bin .lss (.t 12) (.t 15),none⟩,⟨.t 17,.mov (.t 16),none⟩,
 ⟨.t 18,.mov (.p 1),some (.t 17,true)⟩,⟨.t 19,.bin .lss (.t 18) (.c (.int .i64 2000)),some (.t 17,true)⟩,⟨.p 20,.pick (.t 17) (.t 19) (.c (.bool false)),none⟩]) (.cond (.p 20) (.skip) (.exit 0))) (.seq (.block 1 [1,2,6,7] (.seq (.reg [⟨.t 24,.fieldAddr 2 (.p 2),none⟩,
 ⟨.t 25,.load1 (.t 24),none⟩,⟨.t 26,.mov (.p 7),none⟩,⟨.t 27,.idxAddr 3 (.t 25) (.t 26),none⟩,⟨.t 28,.loadN 3 (.t 27),none⟩,⟨.t 29,.call F_goboref6_count [.t 28,.c (.int .i64 0)],none⟩,
 ⟨.t 23,.mov (.t 29),none⟩,⟨.t 30,.extract (.t 23) 0,none⟩,⟨.t 31,.extract (.t 23) 1,none⟩,⟨.p 8,.mov (.t 30),none⟩,⟨.p 9,.mov (.t 31),none⟩]) (.reg [⟨.t 32,.mov (.p 1),none⟩,⟨.t 33,.mov (.p 8),none⟩,
 ⟨.t 34,.bin .add (.t 32) (.t 33),none⟩,⟨.t 35,.mov (.p 6),none⟩,⟨.t 36,.mov (.p 9),none⟩,⟨.t 37,.minmax true [.t 35,.t 36],none⟩,⟨.p 1,.mov (.t 34),none⟩,⟨.p 6,.mov (.t 37),none⟩]))) (.reg [⟨.t 21,.mov (.p 7),none⟩,
 ⟨.t 22,.bin .add (.t 21) (.c (.int .i64 1)),none⟩,⟨.p 7,.mov (.t 22),none⟩]))
def bd_goboref6_count : CCode :=
 .seq (.reg [⟨.p 2,.box (.p 0),none⟩,⟨.p 4,.mov (.c (.int .i64 0)),none⟩,⟨.p 5,.mov (.c (.int .i64 0)),none⟩]) (.seq (.reg [⟨.t 10,.mov (.p 1),none⟩,⟨.t 11,.bin .add (.t 10) (.c (.int .i64 1)),none⟩,
 ⟨.p 1,.mov (.t 11),none⟩,⟨.p 6,.mov (.c (.int .i64 0)),none⟩]) (.seq (.seq (.reg [⟨.p 7,.mov (.c (.int .i64 0)),none⟩]) (.block 0 [1,6] (.loop [1,2,6,7] lb_goboref6_count_0))) (.seq (.reg [⟨.t 38,.mov (.p 1),none⟩,
 ⟨.t 39,.mov (.p 6),none⟩,⟨.t 40,.bin .add (.t 39) (.c (.int .i64 1)),none⟩,⟨.p 4,.mov (.t 38),none⟩,⟨.p 5,.mov (.t 40),none⟩]) (.ret))))
def cf_goboref6_count : CFunc :=
{ nargs := 2,ps := [0,1,2,4,5,6,7,8,9,20],results := [.slot 4,.slot 5],body := bd_goboref6_count }
def bd_goboref3_May : CCode :=
 .seq (.reg [⟨.p 2,.mov (.c (.bool false)),none⟩]) (.seq (.reg [⟨.t 3,.mov (.p 0),none⟩,⟨.t 4,.mov (.p 0),none⟩,⟨.t 5,.call F_goboref3_Norm [.t 4],none⟩,⟨.t 6,.call F_goboref3_Same [.t 3,.t 5],none⟩,
 ⟨.p 2,.mov (.t 6),none⟩]) (.ret))
def cf_goboref3_May : CFunc :=
{ nargs := 1,ps := [0,2],results := [.slot 2],body := bd_goboref3_May }
def bd_regex_within_1 : CCode :=
 .seq (.reg [⟨.p 4,.box (.p 0),none⟩,⟨.p 5,.box (.p 1),none⟩,⟨.p 6,.mov (.c (.bool false)),none⟩]) (.seq (.reg [⟨.t 7,.load1 (.p 2),none⟩,⟨.t 8,.bin .sub (.t 7) (.c (.int .i64 1)),none⟩,
 ⟨.no,.store 1 (.p 2) (.t 8),none⟩]) (.seq (.reg [⟨.t 9,.load1 (.p 2),none⟩,⟨.t 10,.bin .geq (.t 9) (.c (.int .i64 0)),none⟩,⟨.t 11,.mov (.t 10),none⟩,⟨.t 12,.load1 (.p 5),some (.t 11,true)⟩,
 ⟨.t 13,.bin .leq (.t 12) (.c (.int .i64 12)),some (.t 11,true)⟩,⟨.t 14,.pick (.t 11) (.t 13) (.c (.bool false)),none⟩,⟨.t 15,.mov (.t 14),none⟩,⟨.t 16,.fieldAddr 2 (.p 4),some (.t 15,true)⟩,
 ⟨.t 17,.load1 (.t 16),some (.t 15,true)⟩,⟨.t 18,.mkFn F_regex_within_1_1 [.p 3,.p 5],some (.t 15,true)⟩,⟨.t 19,.call F_slices_ContainsFunc_api_Re_api_Re [.t 17,.t 18],some (.t 15,true)⟩,
 ⟨.t 20,.un .not (.t 19),some (.t 15,true)⟩,⟨.t 21,.pick (.t 15) (.t 20) (.c (.bool false)),none⟩,⟨.p 6,.mov (.t 21),none⟩]) (.ret)))
def cf_regex_within_1 : CFunc :=
{ nargs := 4,ps := [0,1,2,3,4,5,6],results := [.slot 6],body := bd_regex_within_1 }
def bd_slices_ContainsFunc_api_Re_api_Re : CCode :=
 .seq (.reg [⟨.p 4,.mov (.c (.bool false)),none⟩]) (.seq (.reg [⟨.t 5,.mov (.p 0),none⟩,⟨.t 6,.mov (.p 1),none⟩,⟨.t 7,.call F_slices_IndexFunc_api_Re_api_Re [.t 5,.t 6],none⟩,⟨.t 8,.bin .geq (.t 7) (.c (.int .i64 0)),none⟩,
 ⟨.p 4,.mov (.t 8),none⟩]) (.ret))
def cf_slices_ContainsFunc_api_Re_api_Re : CFunc :=
{ nargs := 2,ps := [0,1,4],results := [.slot 4],body := bd_slices_ContainsFunc_api_Re_api_Re }
def bd_regex_within_1_1 : CCode :=
 .seq (.reg [⟨.p 3,.box (.p 0),none⟩,⟨.p 4,.mov (.c (.bool false)),none⟩]) (.seq (.reg [⟨.t 5,.load1 (.p 1),none⟩,⟨.t 6,.loadN 3 (.p 3),none⟩,⟨.t 7,.load1 (.p 2),none⟩,⟨.t 8,.bin .add (.t 7) (.c (.int .i64 1)),none⟩,
 ⟨.t 9,.callV (.t 5) [.t 6,.t 8],none⟩,⟨.t 10,.un .not (.t 9),none⟩,⟨.p 4,.mov (.t 10),none⟩]) (.ret))
def cf_regex_within_1_1 : CFunc :=
{ nargs := 3,ps := [0,1,2,3,4],results := [.slot 4],body := bd_regex_within_1_1 }
def bd_regex_parts : CCode :=
 .seq (.reg [⟨.p 2,.mov (.c (.int .i64 0)),none⟩]) (.seq (.seq (.reg [⟨.p 3,.mov (.p 0),none⟩]) (.block 0 [] (.seq (.seq (.reg [⟨.t 5,.bin .eql (.p 3) (.c (.int .i64 0)),none⟩,⟨.p 4,.mov (.t 5),none⟩]) (.cond (.p 4) (.skip) (.seq (.reg [⟨.t 6,.bin .eql (.p 3) (.c (.int .i64 1)),none⟩,
 ⟨.p 4,.mov (.t 6),none⟩]) (.cond (.p 4) (.skip) (.reg [⟨.t 7,.bin .eql (.p 3) (.c (.int .i64 2)),none⟩,⟨.p 4,.mov (.t 7),none⟩]))))) (.cond (.p 4) (.seq (.reg [⟨.p 2,.mov (.c (.int .i64 0)),none⟩]) (.ret)) (.seq (.seq (.reg [⟨.t 9,.bin .eql (.p 3) (.c (.int .i64 3)),none⟩,
 ⟨.p 8,.mov (.t 9),none⟩]) (.cond (.p 8) (.skip) (.reg [⟨.t 10,.bin .eql (.p 3) (.c (.int .i64 4)),none⟩,⟨.p 8,.mov (.t 10),none⟩]))) (.cond (.p 8) (.seq (.reg [⟨.p 2,.mov (.c (.int .i64 2)),none⟩]) (.ret)) (.seq (.reg [⟨.t 12,.bin .eql (.p 3) (.c (.int .i64 5)),none⟩,
 ⟨.p 11,.mov (.t 12),none⟩]) (.cond (.p 11) (.seq (.reg [⟨.p 2,.mov (.c (.int .i64 1)),none⟩]) (.ret)) (.skip))))))))) (.seq (.reg [⟨.p 2,.mov (.c (.int .i64 (-1))),none⟩]) (.ret)))
def cf_regex_parts : CFunc :=
{ nargs := 1,ps := [0,2,3,4,8,11],results := [.slot 2],body := bd_regex_parts }
def bd_regex_may_1 : CCode :=
 .seq (.reg [⟨.p 1,.box (.p 0),none⟩,⟨.p 2,.mov (.c (.bool false)),none⟩]) (.seq (.reg [⟨.t 3,.loadN 3 (.p 1),none⟩,⟨.t 4,.call F_regex_may [.t 3],none⟩,⟨.t 5,.un .not (.t 4),none⟩,⟨.p 2,.mov (.t 5),none⟩]) (.ret))
def cf_regex_may_1 : CFunc :=
{ nargs := 1,ps := [0,1,2],results := [.slot 2],body := bd_regex_may_1 }
def bd_runes_May : CCode :=
 .seq (.reg [⟨.p 2,.mov (.c (.bool false)),none⟩]) (.seq (.reg [⟨.t 3,.mov (.p 0),none⟩,⟨.t 4,.mov (.p 0),none⟩,⟨.t 5,.call F_runes_Norm [.t 4],none⟩,⟨.t 6,.call F_slices_Equal_api_Range_api_Range [.t 3,.t 5],none⟩,
 ⟨.p 2,.mov (.t 6),none⟩]) (.ret))
def cf_runes_May : CFunc :=
{ nargs := 1,ps := [0,2],results := [.slot 2],body := bd_runes_May }
def lb_slices_Index_int_int_0 : CCode :=
 .seq (.reg [⟨.p 9,.bin .lss (.p 8) (.p 7),none⟩]) (.seq (.cond (.p 9) (.skip) (.exit 0)) (.seq (.block 1 [0,1,7,8] (.seq (.reg [⟨.t 10,.mov (.p 8),none⟩,⟨.p 5,.mov (.t 10),none⟩]) (.seq (.reg [⟨.t 11,.mov (.p 1),none⟩,
 ⟨.t 12,.mov (.p 0),none⟩,⟨.t 13,.mov (.p 5),none⟩,⟨.t 14,.idxAddr 1 (.t 12) (.t 13),none⟩,⟨.t 15,.load1 (.t 14),none⟩,⟨.p 16,.bin .eql (.t 11) (.t 15),none⟩]) (.cond (.p 16) (.seq (.reg [⟨.t 17,.mov (.p 5),none⟩,
 ⟨.p 4,.mov (.t 17),none⟩]) (.ret)) (.skip))))) (.reg [⟨.t 18,.bin .add (.p 8) (.c (.int .i64 1)),none⟩,⟨.p 8,.mov (.t 18),none⟩])))
def bd_slices_Index_int_int : CCode :=
 .seq (.reg [⟨.p 4,.mov (.c (.int .i64 0)),none⟩]) (.seq (.seq (.reg [⟨.t 6,.mov (.p 0),none⟩,⟨.p 7,.lenSl (.t 6),none⟩,⟨.p 8,.mov (.c (.int .i64 0)),none⟩]) (.block 0 [] (.loop [0,1,7,8] lb_slices_Index_int_int_0))) (.seq (.reg [⟨.p 4,.mov (.c (.int .i64 (-1))),none⟩]) (.ret)))
def cf_slices_Index_int_int : CFunc :=
{ nargs := 2,ps := [0,1,4,5,7,8,9,16],results := [.slot 4],body := bd_slices_Index_int_int }
def bd_decode_New : CCode :=
 .seq (.reg [⟨.p 0,.mov (.c (.nilp)),none⟩]) (.seq (.reg [⟨.t 1,.build [.nils,.int .i64 0,.bool false,.nils] [],none⟩,⟨.t 2,.box (.t 1),none⟩,⟨.p 0,.mov (.t 2),none⟩]) (.ret))
def cf_decode_New : CFunc :=
{ nargs := 0,ps := [0],results := [.slot 0],body := bd_decode_New }
def lb_decode_Dec_Feed_0 : CCode :=
 .seq (.reg [⟨.p 18,.bin .lss (.p 17) (.p 16),none⟩]) (.seq (.cond (.p 18) (.skip) (.exit 0)) (.seq (.block 1 [0,15,16,17] (.seq (.reg [⟨.t 19,.idxAddr 1 (.p 15) (.p 17),none⟩,⟨.t 20,.load1 (.t 19),none⟩,
 ⟨.p 6,.mov (.t 20),none⟩]) (.reg [⟨.t 21,.mov (.p 0),none⟩,⟨.t 22,.mov (.p 6),none⟩,⟨.t 23,.call F_decode_Dec_take [.t 21,.t 22],none⟩]))) (.reg [⟨.t 24,.bin .add (.p 17) (.c (.int .i64 1)),none⟩,
 ⟨.p 17,.mov (.t 24),none⟩])))
def bd_decode_Dec_Feed : CCode :=
 .seq (.reg [⟨.p 4,.mov (.c (.nils)),none⟩]) (.seq (.seq (.reg [⟨.t 7,.mov (.p 0),none⟩,⟨.t 8,.eqv false .ptr (.t 7) (.c (.nilp)),none⟩,⟨.t 9,.mov (.t 8),none⟩,⟨.t 10,.mov (.p 0),some (.t 9,false)⟩,
 ⟨.t 11,.nilCheck (.t 10),some (.t 9,false)⟩,⟨.t 12,.fieldAddr 2 (.t 11),some (.t 9,false)⟩,⟨.t 13,.load1 (.t 12),some (.t 9,false)⟩,⟨.p 14,.pick (.t 9) (.c (.bool true)) (.t 13),none⟩]) (.cond (.p 14) (.seq (.reg [⟨.p 4,.mov (.c (.nils)),none⟩]) (.ret)) (.skip))) (.seq (.seq (.reg [⟨.p 15,.mov (.p 1),none⟩,
 ⟨.p 16,.lenSl (.p 15),none⟩,⟨.p 17,.mov (.c (.int .i64 0)),none⟩]) (.block 0 [0] (.loop [0,15,16,17] lb_decode_Dec_Feed_0))) (.seq (.reg [⟨.t 25,.mov (.p 0),none⟩,⟨.t 26,.call F_decode_Dec_taken [.t 25],none⟩,
 ⟨.p 4,.mov (.t 26),none⟩]) (.ret))))
def cf_decode_Dec_Feed : CFunc :=
{ nargs := 2,ps := [0,1,4,6,14,15,16,17,18],results := [.slot 4],body := bd_decode_Dec_Feed }
def bd_decode_Dec_Close : CCode :=
 .seq (.reg [⟨.p 2,.mov (.c (.nils)),none⟩]) (.seq (.seq (.reg [⟨.t 3,.mov (.p 0),none⟩,⟨.t 4,.eqv false .ptr (.t 3) (.c (.nilp)),none⟩,⟨.t 5,.mov (.t 4),none⟩,⟨.t 6,.mov (.p 0),some (.t 5,false)⟩,
 ⟨.t 7,.nilCheck (.t 6),some (.t 5,false)⟩,⟨.t 8,.fieldAddr 2 (.t 7),some (.t 5,false)⟩,⟨.t 9,.load1 (.t 8),some (.t 5,false)⟩,⟨.p 10,.pick (.t 5) (.c (.bool true)) (.t 9),none⟩]) (.cond (.p 10) (.seq (.reg [⟨.p 2,.mov (.c (.nils)),none⟩]) (.ret)) (.skip))) (.seq (.seq (.reg [⟨.t 11,.mov (.p 0),none⟩,
 ⟨.t 12,.nilCheck (.t 11),none⟩,⟨.t 13,.fieldAddr 2 (.t 12),none⟩,⟨.no,.store 1 (.t 13) (.c (.bool true)),none⟩]) (.seq (.reg [⟨.t 14,.mov (.p 0),none⟩,⟨.t 15,.nilCheck (.t 14),none⟩,
 ⟨.t 16,.fieldAddr 0 (.t 15),none⟩,⟨.t 17,.load1 (.t 16),none⟩,⟨.t 18,.lenSl (.t 17),none⟩,⟨.p 19,.bin .gtr (.t 18) (.c (.int .i64 0)),none⟩]) (.cond (.p 19) (.reg [⟨.t 20,.mov (.p 0),none⟩,
 ⟨.t 21,.call F_decode_Dec_tell [.t 20,.c (.bool true),.c (.bool true)],none⟩]) (.skip)))) (.seq (.reg [⟨.t 22,.mov (.p 0),none⟩,⟨.t 23,.call F_decode_Dec_taken [.t 22],none⟩,⟨.p 2,.mov (.t 23),none⟩]) (.ret))))
def cf_decode_Dec_Close : CFunc :=
{ nargs := 1,ps := [0,2,10,19],results := [.slot 2],body := bd_decode_Dec_Close }
def bd_parse_regex_atom : CCode :=
 .seq (.reg [⟨.p 2,.alloc [.int .i64 0,.nils,.nils],none⟩]) (.seq (.reg [⟨.t 7,.mov (.p 0),none⟩,⟨.t 8,.nilCheck (.t 7),none⟩,⟨.t 9,.fieldAddr 0 (.t 8),none⟩,⟨.t 10,.load1 (.t 9),none⟩,
 ⟨.t 11,.call F_word_Reader_At [.t 10],none⟩,⟨.p 3,.mov (.t 11),none⟩]) (.seq (.block 0 [0,2] (.seq (.reg [⟨.t 13,.mov (.p 0),none⟩,⟨.t 14,.nilCheck (.t 13),none⟩,⟨.t 15,.fieldAddr 0 (.t 14),none⟩,
 ⟨.t 16,.load1 (.t 15),none⟩,⟨.t 17,.call F_word_Reader_Skip [.t 16,.c (.int .i32 40)],none⟩,⟨.p 12,.mov (.t 17),none⟩]) (.cond (.p 12) (.seq (.seq (.reg [⟨.t 18,.mov (.p 0),none⟩,⟨.t 19,.nilCheck (.t 18),none⟩,
 ⟨.t 20,.fieldAddr 1 (.t 19),none⟩,⟨.t 21,.load1 (.t 20),none⟩,⟨.t 22,.bin .add (.t 21) (.c (.int .i64 1)),none⟩,⟨.t 23,.nilCheck (.t 18),none⟩,⟨.t 24,.fieldAddr 1 (.t 23),none⟩,⟨.no,.store 1 (.t 24) (.t 22),none⟩]) (.seq (.reg [⟨.t 25,.mov (.p 0),none⟩,
 ⟨.t 26,.nilCheck (.t 25),none⟩,⟨.t 27,.fieldAddr 1 (.t 26),none⟩,⟨.t 28,.load1 (.t 27),none⟩,⟨.p 29,.bin .gtr (.t 28) (.c (.int .i64 40)),none⟩]) (.cond (.p 29) (.reg [⟨.t 30,.mov (.p 3),none⟩,
 ⟨.t 31,.call F_word_Fail [.c (.int .i64 7),.t 30],none⟩]) (.skip)))) (.seq (.reg [⟨.t 32,.mov (.p 0),none⟩,⟨.t 33,.call F_parse_regex_all [.t 32],none⟩,⟨.p 4,.alloc [.int .i64 0,.nils,.nils],none⟩,
 ⟨.no,.store 3 (.p 4) (.t 33),none⟩]) (.seq (.reg [⟨.t 34,.mov (.p 0),none⟩,⟨.t 35,.nilCheck (.t 34),none⟩,⟨.t 36,.fieldAddr 0 (.t 35),none⟩,⟨.t 37,.load1 (.t 36),none⟩,⟨.t 38,.call F_word_Reader_Must [.t 37,.c (.int .i32 41)],none⟩]) (.seq (.reg [⟨.t 39,.mov (.p 0),none⟩,
 ⟨.t 40,.nilCheck (.t 39),none⟩,⟨.t 41,.fieldAddr 1 (.t 40),none⟩,⟨.t 42,.load1 (.t 41),none⟩,⟨.t 43,.bin .sub (.t 42) (.c (.int .i64 1)),none⟩,⟨.t 44,.nilCheck (.t 39),none⟩,⟨.t 45,.fieldAddr 1 (.t 44),none⟩,
 ⟨.no,.store 1 (.t 45) (.t 43),none⟩]) (.seq (.reg [⟨.t 46,.loadN 3 (.p 4),none⟩,⟨.no,.store 3 (.p 2) (.t 46),none⟩]) (.ret)))))) (.seq (.reg [⟨.t 48,.mov (.p 0),none⟩,⟨.t 49,.nilCheck (.t 48),none⟩,
 ⟨.t 50,.fieldAddr 0 (.t 49),none⟩,⟨.t 51,.load1 (.t 50),none⟩,⟨.t 52,.call F_word_Reader_Skip [.t 51,.c (.int .i32 91)],none⟩,⟨.p 47,.mov (.t 52),none⟩]) (.cond (.p 47) (.seq (.reg [⟨.t 53,.mov (.p 0),none⟩,
 ⟨.t 54,.nilCheck (.t 53),none⟩,⟨.t 55,.fieldAddr 0 (.t 54),none⟩,⟨.t 56,.load1 (.t 55),none⟩,⟨.t 57,.call F_word_Reader_Class [.t 56,.c (.int .i32 93)],none⟩,⟨.p 5,.mov (.t 57),none⟩]) (.seq (.reg [⟨.t 58,.mov (.p 0),none⟩,
 ⟨.t 59,.nilCheck (.t 58),none⟩,⟨.t 60,.fieldAddr 0 (.t 59),none⟩,⟨.t 61,.load1 (.t 60),none⟩,⟨.t 62,.call F_word_Reader_Must [.t 61,.c (.int .i32 93)],none⟩]) (.seq (.reg [⟨.t 63,.mov (.p 5),none⟩,
 ⟨.t 64,.call F_parse_set [.t 63],none⟩,⟨.no,.store 3 (.p 2) (.t 64),none⟩]) (.ret)))) (.seq (.reg [⟨.t 66,.mov (.p 0),none⟩,⟨.t 67,.nilCheck (.t 66),none⟩,⟨.t 68,.fieldAddr 0 (.t 67),none⟩,
 ⟨.t 69,.load1 (.t 68),none⟩,⟨.t 70,.call F_word_Reader_Skip [.t 69,.c (.int .i32 46)],none⟩,⟨.p 65,.mov (.t 70),none⟩]) (.cond (.p 65) (.seq (.reg [⟨.t 71,.build [.int .i32 0,.int .i32 0] [(0,1,.c (.int .i32 10)),(1,1,.c (.int .i32 10))],none⟩,
 ⟨.t 72,.lit [.int .i32 0,.int .i32 0] 1 [(0,2,.t 71)],none⟩,⟨.t 73,.call F_runes_Not [.t 72],none⟩,⟨.t 74,.call F_parse_set [.t 73],none⟩,⟨.no,.store 3 (.p 2) (.t 74),none⟩]) (.ret)) (.skip)))))))) (.seq (.reg [⟨.t 75,.mov (.p 0),none⟩,
 ⟨.t 76,.nilCheck (.t 75),none⟩,⟨.t 77,.fieldAddr 0 (.t 76),none⟩,⟨.t 78,.load1 (.t 77),none⟩,⟨.t 79,.call F_word_Reader_Rune [.t 78,.c (.bool false)],none⟩,⟨.p 6,.mov (.t 79),none⟩]) (.seq (.reg [⟨.t 80,.mov (.p 6),none⟩,
 ⟨.t 81,.mov (.p 6),none⟩,⟨.t 82,.build [.int .i32 0,.int .i32 0] [(0,1,.t 80),(1,1,.t 81)],none⟩,⟨.t 83,.lit [.int .i32 0,.int .i32 0] 1 [(0,2,.t 82)],none⟩,⟨.t 84,.call F_parse_set [.t 83],none⟩,
 ⟨.no,.store 3 (.p 2) (.t 84),none⟩]) (.ret)))))
def cf_parse_regex_atom : CFunc :=
{ nargs := 1,ps := [0,2,3,4,5,6,12,29,47,65],results := [.cellN 2 3],body := bd_parse_regex_atom }
def bd_gram_caught : CCode :=
 .seq (.reg [⟨.p 2,.alloc [.int .i64 0,.int .i64 0],none⟩]) (.seq (.reg [⟨.t 3,.mkFn F_gram_caught_1 [.p 2],none⟩,⟨.no,.dfr (.t 3) [],none⟩]) (.seq (.reg [⟨.t 4,.mov (.p 0),none⟩,⟨.t 5,.callV (.t 4) [],none⟩]) (.seq (.reg [⟨.t 6,.build [.int .i64 0,.int .i64 0] [],none⟩,
 ⟨.no,.store 2 (.p 2) (.t 6),none⟩]) (.ret))))
def cf_gram_caught : CFunc :=
{ nargs := 1,ps := [0,2],results := [.cellN 2 2],body := bd_gram_caught }
def lb_gram_Check_1_0 : CCode :=
 .seq (.reg [⟨.p 24,.bin .lss (.p 23) (.p 22),none⟩]) (.seq (.cond (.p 24) (.skip) (.exit 0)) (.seq (.block 1 [0,1,22,23] (.seq (.reg [⟨.t 25,.mov (.p 23),none⟩,⟨.p 2,.mov (.t 25),none⟩]) (.seq (.reg [⟨.t 26,.mov (.p 1),none⟩,
 ⟨.t 27,.mov (.p 2),none⟩,⟨.t 28,.nilCheck (.t 26),none⟩,⟨.t 29,.fieldAddr 2 (.t 28),none⟩,⟨.no,.store 1 (.t 29) (.t 27),none⟩]) (.reg [⟨.t 30,.mov (.p 1),none⟩,⟨.t 31,.mov (.p 2),none⟩,
 ⟨.t 32,.call F_gram_court_token [.t 30,.t 31],none⟩])))) (.reg [⟨.t 33,.bin .add (.p 23) (.c (.int .i64 1)),none⟩,⟨.p 23,.mov (.t 33),none⟩])))
def lb_gram_Check_1_1 : CCode :=
 .seq (.reg [⟨.p 50,.bin .lss (.p 49) (.p 48),none⟩]) (.seq (.cond (.p 50) (.skip) (.exit 2)) (.seq (.block 3 [0,1,47,48,49] (.seq (.stuck) (.seq (.stuck) (.stuck)))) (.stuck)))
def bd_gram_Check_1 : CCode :=
 .seq (.reg [⟨.t 5,.loadN 2 (.p 0),none⟩,⟨.t 6,.build [.nils,.nils,.int .i64 0] [(0,2,.t 5)],none⟩,⟨.t 7,.box (.t 6),none⟩,⟨.p 1,.mov (.t 7),none⟩]) (.seq (.reg [⟨.t 8,.mov (.p 1),none⟩,
 ⟨.t 9,.fieldAddr 0 (.p 0),none⟩,⟨.t 10,.load1 (.t 9),none⟩,⟨.t 11,.lenSl (.t 10),none⟩,⟨.t 12,.bin .geq (.t 11) (.c (.int .i64 1)),none⟩,⟨.t 13,.mov (.t 12),none⟩,⟨.t 14,.fieldAddr 0 (.p 0),some (.t 13,true)⟩,
 ⟨.t 15,.load1 (.t 14),some (.t 13,true)⟩,⟨.t 16,.lenSl (.t 15),some (.t 13,true)⟩,⟨.t 17,.bin .leq (.t 16) (.c (.int .i64 16)),some (.t 13,true)⟩,⟨.t 18,.pick (.t 13) (.t 17) (.c (.bool false)),none⟩,
 ⟨.t 19,.call F_gram_court_must [.t 8,.t 18,.c (.int .i64 6)],none⟩]) (.seq (.seq (.reg [⟨.t 20,.fieldAddr 0 (.p 0),none⟩,⟨.t 21,.load1 (.t 20),none⟩,⟨.p 22,.lenSl (.t 21),none⟩,⟨.p 23,.mov (.c (.int .i64 0)),none⟩]) (.block 0 [0,1] (.loop [0,1,22,23] lb_gram_Check_1_0))) (.seq (.reg [⟨.t 34,.mov (.p 1),none⟩,
 ⟨.t 35,.fieldAddr 0 (.p 0),none⟩,⟨.t 36,.load1 (.t 35),none⟩,⟨.t 37,.lenSl (.t 36),none⟩,⟨.t 38,.nilCheck (.t 34),none⟩,⟨.t 39,.fieldAddr 2 (.t 38),none⟩,⟨.no,.store 1 (.t 39) (.t 37),none⟩]) (.seq (.reg [⟨.t 40,.mov (.p 1),none⟩,
 ⟨.t 41,.fieldAddr 1 (.p 0),none⟩,⟨.t 42,.load1 (.t 41),none⟩,⟨.t 43,.lenSl (.t 42),none⟩,⟨.t 44,.bin .leq (.t 43) (.c (.int .i64 8)),none⟩,⟨.t 45,.call F_gram_court_must [.t 40,.t 44,.c (.int .i64 6)],none⟩]) (.seq (.reg [⟨.t 46,.fieldAddr 1 (.p 0),none⟩,
 ⟨.p 47,.load1 (.t 46),none⟩,⟨.p 48,.lenSl (.p 47),none⟩,⟨.p 49,.mov (.c (.int .i64 0)),none⟩]) (.block 2 [] (.loop [0,1,47,48,49] lb_gram_Check_1_1)))))))
def cf_gram_Check_1 : CFunc :=
{ nargs := 1,ps := [0,1,2,3,4,22,23,24,47,48,49,50],results := [],body := bd_gram_Check_1 }
def bd_gram_court_must : CCode :=
 .seq (.reg [⟨.t 6,.mov (.p 1),none⟩,⟨.p 7,.un .not (.t 6),none⟩]) (.cond (.p 7) (.reg [⟨.t 8,.mov (.p 2),none⟩,⟨.t 9,.mov (.p 0),none⟩,⟨.t 10,.nilCheck (.t 9),none⟩,⟨.t 11,.fieldAddr 2 (.t 10),none⟩,
 ⟨.t 12,.load1 (.t 11),none⟩,⟨.t 13,.build [.int .i64 0,.int .i64 0] [(0,1,.t 8),(1,1,.t 12)],none⟩,⟨.t 14,.mkIface T_gram_fault (.t 13),none⟩,⟨.no,.panic (.t 14),none⟩]) (.skip))
def cf_gram_court_must : CFunc :=
{ nargs := 3,ps := [0,1,2,7],results := [],body := bd_gram_court_must }
def bd_gram_court_token : CCode :=
 .seq (.reg [⟨.t 5,.mov (.p 0),none⟩,⟨.t 6,.nilCheck (.t 5),none⟩,⟨.t 7,.fieldAddr 0 (.t 6),none⟩,⟨.t 8,.fieldAddr 0 (.t 7),none⟩,⟨.t 9,.load1 (.t 8),none⟩,⟨.t 10,.mov (.p 1),none⟩,
 ⟨.t 11,.idxAddr 6 (.t 9) (.t 10),none⟩,⟨.t 12,.loadN 6 (.t 11),none⟩,⟨.p 4,.alloc [.str [],.int .i64 0,.int .i64 0,.int .i64 0,.nils,.nils],none⟩,⟨.no,.store 6 (.p 4) (.t 12),none⟩]) (.seq (.dreg [⟨⟨.t 13,.mov (.p 0),none⟩,false,false,[]⟩,
 ⟨⟨.t 14,.fieldAddr 0 (.p 4),none⟩,false,false,[]⟩,⟨⟨.t 15,.load1 (.t 14),none⟩,false,false,[]⟩,⟨⟨.t 16,.call F_gram_Name [.t 15],none⟩,false,false,[]⟩,⟨⟨.t 17,.mov (.t 16),none⟩,false,false,[]⟩,
 ⟨⟨.t 18,.mov (.p 0),some (.t 17,true)⟩,false,false,[]⟩,⟨⟨.t 19,.nilCheck (.t 18),some (.t 17,true)⟩,false,false,[]⟩,⟨⟨.t 20,.fieldAddr 0 (.t 19),some (.t 17,true)⟩,false,false,[]⟩,
 ⟨⟨.t 21,.loadN 2 (.t 20),some (.t 17,true)⟩,false,false,[]⟩,⟨⟨.t 22,.fieldAddr 0 (.p 4),some (.t 17,true)⟩,false,false,[]⟩,⟨⟨.t 23,.load1 (.t 22),some (.t 17,true)⟩,false,false,[]⟩,
 ⟨⟨.t 24,.call F_gram_Find [.t 21,.t 23],some (.t 17,true)⟩,false,false,[]⟩,⟨⟨.t 25,.mov (.p 1),some (.t 17,true)⟩,false,false,[]⟩,⟨⟨.t 26,.bin .eql (.t 24) (.t 25),some (.t 17,true)⟩,false,false,[]⟩,
 ⟨⟨.t 27,.pick (.t 17) (.t 26) (.c (.bool false)),none⟩,false,false,[]⟩,⟨⟨.t 28,.call F_gram_court_must [.t 13,.t 27,.c (.int .i64 4)],none⟩,false,false,[]⟩]) (.seq (.reg [⟨.t 29,.mov (.p 0),none⟩,
 ⟨.t 30,.fieldAddr 1 (.p 4),none⟩,⟨.t 31,.load1 (.t 30),none⟩,⟨.t 32,.bin .eql (.t 31) (.c (.int .i64 0)),none⟩,⟨.t 33,.mov (.t 32),none⟩,⟨.t 34,.fieldAddr 1 (.p 4),some (.t 33,false)⟩,
 ⟨.t 35,.load1 (.t 34),some (.t 33,false)⟩,⟨.t 36,.bin .eql (.t 35) (.c (.int .i64 1)),some (.t 33,false)⟩,⟨.t 37,.pick (.t 33) (.c (.bool true)) (.t 36),none⟩,⟨.t 38,.mov (.t 37),none⟩,
 ⟨.t 39,.fieldAddr 1 (.p 4),some (.t 38,false)⟩,⟨.t 40,.load1 (.t 39),some (.t 38,false)⟩,⟨.t 41,.bin .eql (.t 40) (.c (.int .i64 2)),some (.t 38,false)⟩,⟨.t 42,.pick (.t 38) (.c (.bool true)) (.t 41),none⟩,
 ⟨.t 43,.call F_gram_court_must [.t 29,.t 42,.c (.int .i64 5)],none⟩]) (.seq (.reg [⟨.t 44,.mov (.p 0),none⟩,⟨.t 45,.fieldAddr 2 (.p 4),none⟩,⟨.t 46,.load1 (.t 45),none⟩,⟨.t 47,.call F_gram_court_class [.t 44,.t 46],none⟩]) (.seq (.reg [⟨.t 48,.mov (.p 0),none⟩,
 ⟨.t 49,.fieldAddr 3 (.p 4),none⟩,⟨.t 50,.loadN 3 (.t 49),none⟩,⟨.t 51,.call F_regex_May [.t 50],none⟩,⟨.t 52,.call F_gram_court_must [.t 48,.t 51,.c (.int .i64 6)],none⟩]) (.reg [⟨.t 53,.mov (.p 0),none⟩,
 ⟨.t 54,.fieldAddr 3 (.p 4),none⟩,⟨.t 55,.loadN 3 (.t 54),none⟩,⟨.t 56,.call F_regex_Empty [.t 55],none⟩,⟨.t 57,.un .not (.t 56),none⟩,⟨.t 58,.call F_gram_court_must [.t 53,.t 57,.c (.int .i64 11)],none⟩])))))
def cf_gram_court_token : CFunc :=
{ nargs := 2,ps := [0,1,4],results := [],body := bd_gram_court_token }
def bd_strings_Builder_copyCheck : CCode :=
 .seq (.reg [⟨.t 2,.mov (.p 0),none⟩,⟨.t 3,.nilCheck (.t 2),none⟩,⟨.t 4,.fieldAddr 0 (.t 3),none⟩,⟨.t 5,.load1 (.t 4),none⟩,⟨.p 6,.eqv false .ptr (.t 5) (.c (.nilp)),none⟩]) (.cond (.p 6) (.reg [⟨.t 7,.mov (.p 0),none⟩,
 ⟨.t 8,.mov (.p 0),none⟩,⟨.t 9,.ext .toU [.t 8],none⟩,⟨.t 10,.ext .same [.t 9],none⟩,⟨.t 11,.ext (.fromU T_strings_Builder 2) [.t 10],none⟩,⟨.t 12,.nilCheck (.t 7),none⟩,⟨.t 13,.fieldAddr 0 (.t 12),none⟩,
 ⟨.no,.ext .stT [.t 13,.t 11],none⟩]) (.seq (.reg [⟨.t 14,.mov (.p 0),none⟩,⟨.t 15,.nilCheck (.t 14),none⟩,⟨.t 16,.fieldAddr 0 (.t 15),none⟩,⟨.t 17,.load1 (.t 16),none⟩,⟨.t 18,.mov (.p 0),none⟩,
 ⟨.p 19,.ext (.peq true) [.t 17,.t 18],none⟩]) (.cond (.p 19) (.stuck) (.skip))))
def cf_strings_Builder_copyCheck : CFunc :=
{ nargs := 1,ps := [0,6,19],results := [],body := bd_strings_Builder_copyCheck }
def bd_strconv_Itoa_70 : CCode :=
 .seq (.reg [⟨.p 2,.mov (.c (.str [])),none⟩]) (.seq (.reg [⟨.t 3,.mov (.p 0),none⟩,⟨.t 4,.call F_strconv_FormatInt_101 [.t 3,.c (.int .i64 10)],none⟩,⟨.p 2,.mov (.t 4),none⟩]) (.ret))
def cf_strconv_Itoa_70 : CFunc :=
{ nargs := 1,ps := [0,2],results := [.slot 2],body := bd_strconv_Itoa_70 }
def lb_strings_Join_0 : CCode :=
 .seq (.stuck) (.seq (.cond (.p 42) (.skip) (.exit 1)) (.seq (.block 2 [0,1,5,39,40,41] (.seq (.stuck) (.seq (.seq (.stuck) (.cond (.p 49) (.stuck) (.skip))) (.stuck)))) (.stuck)))
def lb_strings_Join_1 : CCode :=
 .seq (.stuck) (.seq (.cond (.p 66) (.skip) (.exit 3)) (.seq (.block 4 [1,8,63,64,65] (.seq (.stuck) (.seq (.stuck) (.stuck)))) (.stuck)))
def bd_strings_Join : CCode :=
 .seq (.reg [⟨.p 4,.mov (.c (.str [])),none⟩]) (.seq (.seq (.reg [⟨.t 11,.mov (.p 0),none⟩,⟨.p 12,.lenSl (.t 11),none⟩]) (.block 0 [0,1] (.seq (.reg [⟨.t 14,.bin .eql (.p 12) (.c (.int .i64 0)),none⟩,
 ⟨.p 13,.mov (.t 14),none⟩]) (.cond (.p 13) (.seq (.stuck) (.ret)) (.seq (.reg [⟨.t 16,.bin .eql (.p 12) (.c (.int .i64 1)),none⟩,⟨.p 15,.mov (.t 16),none⟩]) (.cond (.p 15) (.seq (.reg [⟨.t 17,.mov (.p 0),none⟩,
 ⟨.t 18,.idxAddr 1 (.t 17) (.c (.int .i64 0)),none⟩,⟨.t 19,.load1 (.t 18),none⟩,⟨.p 4,.mov (.t 19),none⟩]) (.ret)) (.skip))))))) (.seq (.stuck) (.seq (.seq (.stuck) (.cond (.p 22) (.seq (.seq (.stuck) (.cond (.p 29) (.stuck) (.skip))) (.stuck)) (.skip))) (.seq (.seq (.stuck) (.block 1 [0,1,5] (.loop [0,1,5,39,40,41] lb_strings_Join_0))) (.seq (.stuck) (.seq (.stuck) (.seq (.stuck) (.seq (.seq (.stuck) (.block 3 [8] (.loop [1,8,63,64,65] lb_strings_Join_1))) (.seq (.stuck) (.ret))))))))))
def cf_strings_Join : CFunc :=
{ nargs := 2,ps := [0,1,4,5,7,8,10,12,13,15,22,29,39,40,41,42,49,63,64,65,66],results := [.slot 4],body := bd_strings_Join }
def bd_print_pat_1 : CCode :=
 .seq (.reg [⟨.p 5,.mov (.c (.str [])),none⟩]) (.seq (.dreg [⟨⟨.t 6,.fieldAddr 3 (.p 2),none⟩,false,false,[]⟩,⟨⟨.t 7,.load1 (.t 6),none⟩,false,false,[]⟩,⟨⟨.t 8,.mov (.p 0),none⟩,false,false,[]⟩,
 ⟨⟨.t 9,.idxAddr 4 (.t 7) (.t 8),none⟩,false,false,[]⟩,⟨⟨.t 10,.loadN 4 (.t 9),none⟩,false,false,[]⟩,⟨⟨.t 11,.call F_print_pat [.t 10],none⟩,true,false,[]⟩,⟨⟨.t 12,.mov (.p 1),none⟩,false,false,[]⟩,
 ⟨⟨.t 13,.fieldAddr 3 (.p 2),none⟩,false,false,[]⟩,⟨⟨.t 14,.load1 (.t 13),none⟩,false,false,[5]⟩,⟨⟨.t 15,.mov (.p 0),none⟩,false,false,[]⟩,⟨⟨.t 16,.idxAddr 4 (.t 14) (.t 15),none⟩,false,false,[]⟩,
 ⟨⟨.t 17,.fieldAddr 0 (.t 16),none⟩,false,false,[]⟩,⟨⟨.t 18,.load1 (.t 17),none⟩,false,false,[5]⟩,⟨⟨.t 19,.call F_slices_Contains_int_int [.t 12,.t 18],none⟩,false,false,[]⟩,⟨⟨.t 20,.call F_print_within [.t 11,.t 19],none⟩,false,false,[]⟩,
 ⟨⟨.p 5,.mov (.t 20),none⟩,false,false,[]⟩]) (.ret))
def cf_print_pat_1 : CFunc :=
{ nargs := 3,ps := [0,1,2,5],results := [.slot 5],body := bd_print_pat_1 }
def lb_strings_ToUpper_0 : CCode :=
 .seq (.seq (.reg [⟨.t 11,.mov (.p 5),none⟩,⟨.t 12,.mov (.p 0),none⟩,⟨.t 13,.lenStr (.t 12),none⟩,⟨.p 14,.bin .lss (.t 11) (.t 13),none⟩]) (.cond (.p 14) (.skip) (.exit 0))) (.seq (.block 1 [0,3,4,5] (.seq (.reg [⟨.t 17,.mov (.p 0),none⟩,
 ⟨.t 18,.mov (.p 5),none⟩,⟨.t 19,.idxStr (.t 17) (.t 18),none⟩,⟨.p 6,.mov (.t 19),none⟩]) (.seq (.seq (.reg [⟨.t 20,.mov (.p 6),none⟩,⟨.p 21,.bin .geq (.t 20) (.c (.int .u8 128)),none⟩]) (.cond (.p 21) (.seq (.stuck) (.exit 0)) (.skip))) (.reg [⟨.t 22,.mov (.p 4),none⟩,
 ⟨.t 23,.mov (.t 22),none⟩,⟨.t 24,.mov (.p 6),some (.t 23,false)⟩,⟨.t 25,.bin .leq (.c (.int .u8 97)) (.t 24),some (.t 23,false)⟩,⟨.t 26,.mov (.t 25),some (.t 23,false)⟩,⟨.t 27,.mov (.p 6),some (.t 26,true)⟩,
 ⟨.t 28,.bin .leq (.t 27) (.c (.int .u8 122)),some (.t 26,true)⟩,⟨.t 29,.pick (.t 26) (.t 28) (.c (.bool false)),some (.t 23,false)⟩,⟨.t 30,.pick (.t 23) (.c (.bool true)) (.t 29),none⟩,
 ⟨.p 4,.mov (.t 30),none⟩])))) (.reg [⟨.t 15,.mov (.p 5),none⟩,⟨.t 16,.bin .add (.t 15) (.c (.int .i64 1)),none⟩,⟨.p 5,.mov (.t 16),none⟩]))
def lb_strings_ToUpper_1 : CCode :=
 .seq (.seq (.reg [⟨.t 38,.mov (.p 9),none⟩,⟨.t 39,.mov (.p 0),none⟩,⟨.t 40,.lenStr (.t 39),none⟩,⟨.p 41,.bin .lss (.t 38) (.t 40),none⟩]) (.cond (.p 41) (.skip) (.exit 2))) (.seq (.block 3 [0,7,8,9] (.seq (.reg [⟨.t 44,.mov (.p 0),none⟩,
 ⟨.t 45,.mov (.p 9),none⟩,⟨.t 46,.idxStr (.t 44) (.t 45),none⟩,⟨.p 10,.mov (.t 46),none⟩]) (.seq (.reg [⟨.t 47,.mov (.p 10),none⟩,⟨.t 48,.bin .leq (.c (.int .u8 97)) (.t 47),none⟩,⟨.t 49,.mov (.t 48),none⟩,
 ⟨.t 50,.mov (.p 10),some (.t 49,true)⟩,⟨.t 51,.bin .leq (.t 50) (.c (.int .u8 122)),some (.t 49,true)⟩,⟨.p 52,.pick (.t 49) (.t 51) (.c (.bool false)),none⟩]) (.cond (.p 52) (.seq (.reg [⟨.t 53,.mov (.p 10),none⟩,
 ⟨.t 54,.bin .sub (.t 53) (.c (.int .u8 32)),none⟩,⟨.p 10,.mov (.t 54),none⟩]) (.seq (.seq (.reg [⟨.t 55,.mov (.p 8),none⟩,⟨.t 56,.mov (.p 9),none⟩,⟨.p 57,.bin .lss (.t 55) (.t 56),none⟩]) (.cond (.p 57) (.reg [⟨.t 58,.mov (.p 0),none⟩,
 ⟨.t 59,.mov (.p 8),none⟩,⟨.t 60,.mov (.p 9),none⟩,⟨.t 61,.sliceStr (.t 58) (some (.t 59)) (some (.t 60)),none⟩,⟨.t 62,.call F_strings_Builder_WriteString [.p 7,.t 61],none⟩]) (.skip))) (.seq (.reg [⟨.t 63,.mov (.p 10),none⟩,
 ⟨.t 64,.call F_strings_Builder_WriteByte [.p 7,.t 63],none⟩]) (.reg [⟨.t 65,.mov (.p 9),none⟩,⟨.t 66,.bin .add (.t 65) (.c (.int .i64 1)),none⟩,⟨.p 8,.mov (.t 66),none⟩])))) (.skip))))) (.reg [⟨.t 42,.mov (.p 9),none⟩,
 ⟨.t 43,.bin .add (.t 42) (.c (.int .i64 1)),none⟩,⟨.p 9,.mov (.t 43),none⟩]))
def bd_strings_ToUpper : CCode :=
 .seq (.reg [⟨.p 2,.mov (.c (.str [])),none⟩]) (.seq (.reg [⟨.p 3,.mov (.c (.bool true)),none⟩,⟨.p 4,.mov (.c (.bool false)),none⟩]) (.seq (.seq (.reg [⟨.p 5,.mov (.c (.int .i64 0)),none⟩]) (.block 0 [0,3,4] (.loop [0,3,4,5] lb_strings_ToUpper_0))) (.seq (.seq (.reg [⟨.p 31,.mov (.p 3),none⟩]) (.cond (.p 31) (.seq (.seq (.reg [⟨.t 32,.mov (.p 4),none⟩,
 ⟨.p 33,.un .not (.t 32),none⟩]) (.cond (.p 33) (.seq (.stuck) (.ret)) (.skip))) (.seq (.reg [⟨.p 7,.ext (.allocT T_strings_Builder [.nilp,.nils]) [],none⟩]) (.seq (.reg [⟨.p 8,.mov (.c (.int .i64 0)),none⟩]) (.seq (.reg [⟨.t 35,.mov (.p 0),none⟩,
 ⟨.t 36,.lenStr (.t 35),none⟩,⟨.t 37,.call F_strings_Builder_Grow [.p 7,.t 36],none⟩]) (.seq (.seq (.reg [⟨.p 9,.mov (.c (.int .i64 0)),none⟩]) (.block 2 [0,7,8] (.loop [0,7,8,9] lb_strings_ToUpper_1))) (.seq (.seq (.reg [⟨.t 67,.mov (.p 8),none⟩,
 ⟨.t 68,.mov (.p 0),none⟩,⟨.t 69,.lenStr (.t 68),none⟩,⟨.p 70,.bin .lss (.t 67) (.t 69),none⟩]) (.cond (.p 70) (.stuck) (.skip))) (.seq (.reg [⟨.t 75,.call F_strings_Builder_String [.p 7],none⟩,
 ⟨.p 2,.mov (.t 75),none⟩]) (.ret)))))))) (.skip))) (.seq (.stuck) (.ret)))))
def cf_strings_ToUpper : CFunc :=
{ nargs := 1,ps := [0,2,3,4,5,6,7,8,9,10,14,21,31,33,41,52,57,70],results := [.slot 2],body := bd_strings_ToUpper }
def bd_strconv_FormatInt : CCode :=
 .seq (.reg [⟨.p 4,.mov (.c (.str [])),none⟩]) (.seq (.reg [⟨.t 5,.mov (.p 0),none⟩,⟨.t 6,.mov (.p 1),none⟩,⟨.t 7,.call F_strconv_FormatInt_101 [.t 5,.t 6],none⟩,⟨.p 4,.mov (.t 7),none⟩]) (.ret))
def cf_strconv_FormatInt : CFunc :=
{ nargs := 2,ps := [0,1,4],results := [.slot 4],body := bd_strconv_FormatInt }
def lb_runes_spans_0 : CCode :=
 .seq (.reg [⟨.p 14,.bin .lss (.p 13) (.p 12),none⟩]) (.seq (.cond (.p 14) (.skip) (.exit 0)) (.seq (.block 1 [3,11,12,13] (.seq (.reg [⟨.t 15,.idxAddr 2 (.p 11) (.p 13),none⟩,⟨.t 16,.loadN 2 (.t 15),none⟩,
 ⟨.p 5,.alloc [.int .i32 0,.int .i32 0],none⟩,⟨.no,.store 2 (.p 5) (.t 16),none⟩]) (.seq (.dreg [⟨⟨.t 17,.fieldAddr 0 (.p 5),none⟩,false,false,[]⟩,⟨⟨.t 18,.load1 (.t 17),none⟩,true,false,[]⟩,
 ⟨⟨.t 19,.callP 8 F_runes_number [.t 18],none⟩,false,false,[]⟩,⟨⟨.t 20,.fieldAddr 1 (.p 5),none⟩,false,false,[]⟩,⟨⟨.t 21,.load1 (.t 20),none⟩,true,false,[]⟩,⟨⟨.t 22,.callP 8 F_runes_behind [.t 21],none⟩,false,false,[]⟩,
 ⟨⟨.t 23,.build [.int .i64 0,.int .i64 0] [(0,1,.t 19),(1,1,.t 22)],none⟩,false,false,[]⟩,⟨⟨.p 6,.alloc [.int .i64 0,.int .i64 0],none⟩,false,false,[1,4]⟩,⟨⟨.no,.store 2 (.p 6) (.t 23),none⟩,false,false,[]⟩]) (.seq (.reg [⟨.t 24,.fieldAddr 0 (.p 5),none⟩,
 ⟨.t 25,.load1 (.t 24),none⟩,⟨.t 26,.fieldAddr 1 (.p 5),none⟩,⟨.t 27,.load1 (.t 26),none⟩,⟨.t 28,.bin .leq (.t 25) (.t 27),none⟩,⟨.t 29,.mov (.t 28),none⟩,⟨.t 30,.fieldAddr 0 (.p 6),some (.t 29,true)⟩,
 ⟨.t 31,.load1 (.t 30),some (.t 29,true)⟩,⟨.t 32,.fieldAddr 1 (.p 6),some (.t 29,true)⟩,⟨.t 33,.load1 (.t 32),some (.t 29,true)⟩,⟨.t 34,.bin .lss (.t 31) (.t 33),some (.t 29,true)⟩,
 ⟨.p 35,.pick (.t 29) (.t 34) (.c (.bool false)),none⟩]) (.cond (.p 35) (.reg [⟨.t 36,.mov (.p 3),none⟩,⟨.t 37,.loadN 2 (.p 6),none⟩,⟨.t 38,.lit [.int .i64 0,.int .i64 0] 1 [(0,2,.t 37)],none⟩,
 ⟨.t 39,.append 2 16 (.t 36) (.t 38),none⟩,⟨.p 3,.mov (.t 39),none⟩]) (.skip)))))) (.reg [⟨.t 40,.bin .add (.p 13) (.c (.int .i64 1)),none⟩,⟨.p 13,.mov (.t 40),none⟩])))
def lb_runes_spans_1 : CCode :=
 .seq (.reg [⟨.p 46,.bin .lss (.p 45) (.p 44),none⟩]) (.seq (.cond (.p 46) (.skip) (.exit 2)) (.seq (.block 3 [7,43,44,45] (.seq (.reg [⟨.t 47,.idxAddr 2 (.p 43) (.p 45),none⟩,⟨.t 48,.loadN 2 (.t 47),none⟩,
 ⟨.p 9,.alloc [.int .i64 0,.int .i64 0],none⟩,⟨.no,.store 2 (.p 9) (.t 48),none⟩]) (.seq (.reg [⟨.t 49,.mov (.p 7),none⟩,⟨.t 50,.lenSl (.t 49),none⟩,⟨.p 10,.mov (.t 50),none⟩]) (.seq (.dreg [⟨⟨.t 51,.mov (.p 10),none⟩,false,false,[]⟩,
 ⟨⟨.t 52,.bin .gtr (.t 51) (.c (.int .i64 0)),none⟩,false,false,[]⟩,⟨⟨.t 53,.mov (.t 52),none⟩,false,false,[]⟩,⟨⟨.t 54,.fieldAddr 0 (.p 9),some (.t 53,true)⟩,false,false,[]⟩,⟨⟨.t 55,.load1 (.t 54),some (.t 53,true)⟩,false,false,[]⟩,
 ⟨⟨.t 56,.mov (.p 7),some (.t 53,true)⟩,false,false,[]⟩,⟨⟨.t 57,.mov (.p 10),some (.t 53,true)⟩,false,false,[]⟩,⟨⟨.t 58,.bin .sub (.t 57) (.c (.int .i64 1)),some (.t 53,true)⟩,false,false,[]⟩,
 ⟨⟨.t 59,.idxAddr 2 (.t 56) (.t 58),some (.t 53,true)⟩,false,false,[]⟩,⟨⟨.t 60,.fieldAddr 1 (.t 59),some (.t 53,true)⟩,false,false,[]⟩,⟨⟨.t 61,.load1 (.t 60),some (.t 53,true)⟩,false,false,[]⟩,
 ⟨⟨.t 62,.bin .leq (.t 55) (.t 61),some (.t 53,true)⟩,false,false,[]⟩,⟨⟨.p 63,.pick (.t 53) (.t 62) (.c (.bool false)),none⟩,false,false,[]⟩]) (.cond (.p 63) (.dreg [⟨⟨.t 64,.mov (.p 7),none⟩,false,false,[]⟩,
 ⟨⟨.t 65,.mov (.p 10),none⟩,false,false,[]⟩,⟨⟨.t 66,.bin .sub (.t 65) (.c (.int .i64 1)),none⟩,false,false,[]⟩,⟨⟨.t 67,.mov (.p 7),none⟩,false,false,[]⟩,⟨⟨.t 68,.mov (.p 10),none⟩,false,false,[]⟩,
 ⟨⟨.t 69,.bin .sub (.t 68) (.c (.int .i64 1)),none⟩,false,false,[]⟩,⟨⟨.t 70,.idxAddr 2 (.t 67) (.t 69),none⟩,false,false,[]⟩,⟨⟨.t 71,.fieldAddr 1 (.t 70),none⟩,false,false,[]⟩,⟨⟨.t 72,.load1 (.t 71),none⟩,false,false,[]⟩,
 ⟨⟨.t 73,.fieldAddr 1 (.p 9),none⟩,false,false,[]⟩,⟨⟨.t 74,.load1 (.t 73),none⟩,false,false,[]⟩,⟨⟨.t 75,.minmax true [.t 72,.t 74],none⟩,false,false,[]⟩,⟨⟨.t 76,.idxAddr 2 (.t 64) (.t 66),none⟩,false,false,[]⟩,
 ⟨⟨.t 77,.fieldAddr 1 (.t 76),none⟩,false,false,[]⟩,⟨⟨.no,.store 1 (.t 77) (.t 75),none⟩,false,false,[]⟩]) (.reg [⟨.t 78,.mov (.p 7),none⟩,⟨.t 79,.loadN 2 (.p 9),none⟩,⟨.t 80,.lit [.int .i64 0,.int .i64 0] 1 [(0,2,.t 79)],none⟩,
 ⟨.t 81,.append 2 16 (.t 78) (.t 80),none⟩,⟨.p 7,.mov (.t 81),none⟩])))))) (.reg [⟨.t 82,.bin .add (.p 45) (.c (.int .i64 1)),none⟩,⟨.p 45,.mov (.t 82),none⟩])))
def bd_runes_spans : CCode :=
 .seq (.reg [⟨.p 2,.mov (.c (.nils)),none⟩]) (.seq (.reg [⟨.p 3,.mov (.c (.nils)),none⟩]) (.seq (.seq (.reg [⟨.p 11,.mov (.p 0),none⟩,⟨.p 12,.lenSl (.p 11),none⟩,⟨.p 13,.mov (.c (.int .i64 0)),none⟩]) (.block 0 [3] (.loop [3,11,12,13] lb_runes_spans_0))) (.seq (.reg [⟨.t 41,.mov (.p 3),none⟩,
 ⟨.t 42,.call F_slices_SortFunc_runes_span_runes_span [.t 41,.f F_runes_spans_1],none⟩]) (.seq (.reg [⟨.p 7,.mov (.c (.nils)),none⟩]) (.seq (.seq (.reg [⟨.p 43,.mov (.p 3),none⟩,⟨.p 44,.lenSl (.p 43),none⟩,
 ⟨.p 45,.mov (.c (.int .i64 0)),none⟩]) (.block 2 [7] (.loop [7,43,44,45] lb_runes_spans_1))) (.seq (.reg [⟨.t 83,.mov (.p 7),none⟩,⟨.p 2,.mov (.t 83),none⟩]) (.ret)))))))
def cf_runes_spans : CFunc :=
{ nargs := 1,ps := [0,2,3,5,6,7,9,10,11,12,13,14,35,43,44,45,46,63],results := [.slot 2],body := bd_runes_spans }
def bd_gram_Shaped_1 : CCode :=
 .seq (.reg [⟨.p 2,.box (.p 0),none⟩,⟨.p 3,.mov (.c (.bool false)),none⟩]) (.seq (.reg [⟨.t 4,.loadN 4 (.p 2),none⟩,⟨.t 5,.call F_gram_shaped [.t 4],none⟩,⟨.t 6,.mov (.t 5),none⟩,⟨.t 7,.fieldAddr 3 (.p 2),some (.t 6,true)⟩,
 ⟨.t 8,.load1 (.t 7),some (.t 6,true)⟩,⟨.t 9,.mkFn F_gram_Shaped_1_1 [.p 1],some (.t 6,true)⟩,⟨.t 10,.call F_slices_ContainsFunc_api_Pat_api_Pat [.t 8,.t 9],some (.t 6,true)⟩,⟨.t 11,.un .not (.t 10),some (.t 6,true)⟩,
 ⟨.t 12,.pick (.t 6) (.t 11) (.c (.bool false)),none⟩,⟨.p 3,.mov (.t 12),none⟩]) (.ret))
def cf_gram_Shaped_1 : CFunc :=
{ nargs := 2,ps := [0,1,2,3],results := [.slot 3],body := bd_gram_Shaped_1 }
def bd_gram_shaped : CCode :=
 .seq (.reg [⟨.p 1,.box (.p 0),none⟩,⟨.p 2,.mov (.c (.bool false)),none⟩]) (.seq (.reg [⟨.t 4,.fieldAddr 0 (.p 1),none⟩,⟨.t 5,.load1 (.t 4),none⟩,⟨.t 6,.bin .eql (.t 5) (.c (.int .i64 3)),none⟩,
 ⟨.p 3,.mov (.t 6),none⟩]) (.seq (.dreg [⟨⟨.t 7,.fieldAddr 3 (.p 1),none⟩,false,false,[]⟩,⟨⟨.t 8,.load1 (.t 7),none⟩,true,false,[]⟩,⟨⟨.t 9,.lenSl (.t 8),none⟩,false,false,[]⟩,⟨⟨.t 10,.fieldAddr 0 (.p 1),none⟩,false,false,[]⟩,
 ⟨⟨.t 11,.load1 (.t 10),none⟩,false,false,[]⟩,⟨⟨.t 12,.call F_gram_parts [.t 11],none⟩,false,false,[1]⟩,⟨⟨.t 13,.bin .eql (.t 9) (.t 12),none⟩,false,false,[]⟩,⟨⟨.t 14,.mov (.t 13),none⟩,false,false,[]⟩,
 ⟨⟨.t 15,.fieldAddr 1 (.p 1),some (.t 14,true)⟩,false,false,[]⟩,⟨⟨.t 16,.load1 (.t 15),some (.t 14,true)⟩,false,false,[]⟩,⟨⟨.t 17,.lenSl (.t 16),some (.t 14,true)⟩,false,false,[]⟩,⟨⟨.t 18,.bin .gtr (.t 17) (.c (.int .i64 0)),some (.t 14,true)⟩,false,false,[]⟩,
 ⟨⟨.t 19,.mov (.p 3),some (.t 14,true)⟩,false,false,[]⟩,⟨⟨.t 20,.mov (.t 19),some (.t 14,true)⟩,false,false,[]⟩,⟨⟨.t 21,.fieldAddr 0 (.p 1),some (.t 20,false)⟩,false,false,[]⟩,⟨⟨.t 22,.load1 (.t 21),some (.t 20,false)⟩,false,false,[]⟩,
 ⟨⟨.t 23,.bin .eql (.t 22) (.c (.int .i64 2)),some (.t 20,false)⟩,false,false,[]⟩,⟨⟨.t 24,.pick (.t 20) (.c (.bool true)) (.t 23),some (.t 14,true)⟩,false,false,[]⟩,⟨⟨.t 25,.eqv false .bool (.t 18) (.t 24),some (.t 14,true)⟩,false,false,[]⟩,
 ⟨⟨.t 26,.pick (.t 14) (.t 25) (.c (.bool false)),none⟩,false,false,[]⟩,⟨⟨.t 27,.mov (.t 26),none⟩,false,false,[]⟩,⟨⟨.t 28,.fieldAddr 2 (.p 1),some (.t 27,true)⟩,false,false,[]⟩,⟨⟨.t 29,.load1 (.t 28),some (.t 27,true)⟩,false,false,[]⟩,
 ⟨⟨.t 30,.lenSl (.t 29),some (.t 27,true)⟩,false,false,[]⟩,⟨⟨.t 31,.bin .gtr (.t 30) (.c (.int .i64 0)),some (.t 27,true)⟩,false,false,[]⟩,⟨⟨.t 32,.mov (.p 3),some (.t 27,true)⟩,false,false,[]⟩,
 ⟨⟨.t 33,.eqv false .bool (.t 31) (.t 32),some (.t 27,true)⟩,false,false,[]⟩,⟨⟨.t 34,.pick (.t 27) (.t 33) (.c (.bool false)),none⟩,false,false,[]⟩,⟨⟨.p 2,.mov (.t 34),none⟩,false,false,[]⟩]) (.ret)))
def cf_gram_shaped : CFunc :=
{ nargs := 1,ps := [0,1,2,3],results := [.slot 2],body := bd_gram_shaped }
def bd_slices_ContainsFunc_api_Pat_api_Pat : CCode :=
 .seq (.reg [⟨.p 4,.mov (.c (.bool false)),none⟩]) (.seq (.reg [⟨.t 5,.mov (.p 0),none⟩,⟨.t 6,.mov (.p 1),none⟩,⟨.t 7,.call F_slices_IndexFunc_api_Pat_api_Pat [.t 5,.t 6],none⟩,⟨.t 8,.bin .geq (.t 7) (.c (.int .i64 0)),none⟩,
 ⟨.p 4,.mov (.t 8),none⟩]) (.ret))
def cf_slices_ContainsFunc_api_Pat_api_Pat : CFunc :=
{ nargs := 2,ps := [0,1,4],results := [.slot 4],body := bd_slices_ContainsFunc_api_Pat_api_Pat }
def bd_gram_Shaped_1_1 : CCode :=
 .seq (.reg [⟨.p 2,.box (.p 0),none⟩,⟨.p 3,.mov (.c (.bool false)),none⟩]) (.seq (.reg [⟨.t 4,.load1 (.p 1),none⟩,⟨.t 5,.loadN 4 (.p 2),none⟩,⟨.t 6,.callV (.t 4) [.t 5],none⟩,⟨.t 7,.un .not (.t 6),none⟩,
 ⟨.p 3,.mov (.t 7),none⟩]) (.ret))
def cf_gram_Shaped_1_1 : CFunc :=
{ nargs := 2,ps := [0,1,2,3],results := [.slot 3],body := bd_gram_Shaped_1_1 }
def bd_gram_few : CCode :=
 .seq (.reg [⟨.p 1,.box (.p 0),none⟩,⟨.p 2,.mov (.c (.bool false)),none⟩]) (.seq (.reg [⟨.p 3,.alloc [.int .i64 0],none⟩,⟨.no,.store 1 (.p 3) (.c (.int .i64 60)),none⟩]) (.seq (.reg [⟨.p 4,.alloc [.nilf],none⟩]) (.seq (.reg [⟨.t 5,.mkFn F_gram_few_1 [.p 3,.p 4],none⟩,
 ⟨.no,.store 1 (.p 4) (.t 5),none⟩]) (.seq (.reg [⟨.t 6,.load1 (.p 4),none⟩,⟨.t 7,.loadN 4 (.p 1),none⟩,⟨.t 8,.callV (.t 6) [.t 7,.c (.int .i64 1)],none⟩,⟨.p 2,.mov (.t 8),none⟩]) (.ret)))))
def cf_gram_few : CFunc :=
{ nargs := 1,ps := [0,1,2,3,4],results := [.slot 2],body := bd_gram_few }
def lb_goboref3_Same_0 : CCode :=
 .seq (.seq (.reg [⟨.t 11,.mov (.p 5),none⟩,⟨.t 12,.mov (.p 0),none⟩,⟨.t 13,.lenSl (.t 12),none⟩,⟨.p 14,.bin .lss (.t 11) (.t 13),none⟩]) (.cond (.p 14) (.skip) (.exit 0))) (.seq (.block 1 [0,1,5] (.seq (.dreg [⟨⟨.t 17,.mov (.p 0),none⟩,false,false,[]⟩,
 ⟨⟨.t 18,.mov (.p 5),none⟩,false,false,[]⟩,⟨⟨.t 19,.idxAddr 2 (.t 17) (.t 18),none⟩,false,false,[]⟩,⟨⟨.t 20,.loadN 2 (.t 19),none⟩,false,false,[]⟩,⟨⟨.t 21,.mov (.p 1),none⟩,false,false,[]⟩,
 ⟨⟨.t 22,.mov (.p 5),none⟩,false,false,[]⟩,⟨⟨.t 23,.idxAddr 2 (.t 21) (.t 22),none⟩,false,false,[]⟩,⟨⟨.t 24,.loadN 2 (.t 23),none⟩,false,false,[]⟩,⟨⟨.p 25,.eqv true (.agg [(0,.i),(1,.i)]) (.t 20) (.t 24),none⟩,false,false,[]⟩]) (.cond (.p 25) (.seq (.reg [⟨.p 4,.mov (.c (.bool false)),none⟩]) (.ret)) (.skip)))) (.reg [⟨.t 15,.mov (.p 5),none⟩,
 ⟨.t 16,.bin .add (.t 15) (.c (.int .i64 1)),none⟩,⟨.p 5,.mov (.t 16),none⟩]))
def bd_goboref3_Same : CCode :=
 .seq (.reg [⟨.p 4,.mov (.c (.bool false)),none⟩]) (.seq (.seq (.reg [⟨.t 6,.mov (.p 0),none⟩,⟨.t 7,.lenSl (.t 6),none⟩,⟨.t 8,.mov (.p 1),none⟩,⟨.t 9,.lenSl (.t 8),none⟩,⟨.p 10,.bin .neq (.t 7) (.t 9),none⟩]) (.cond (.p 10) (.seq (.reg [⟨.p 4,.mov (.c (.bool false)),none⟩]) (.ret)) (.skip))) (.seq (.seq (.reg [⟨.p 5,.mov (.c (.int .i64 0)),none⟩]) (.block 0 [] (.loop [0,1,5] lb_goboref3_Same_0))) (.seq (.reg [⟨.p 4,.mov (.c (.bool true)),none⟩]) (.ret))))
def cf_goboref3_Same : CFunc :=
{ nargs := 2,ps := [0,1,4,5,10,14,25],results := [.slot 4],body := bd_goboref3_Same }
def bd_goboref3_Norm : CCode :=
 .seq (.reg [⟨.p 2,.mov (.c (.nils)),none⟩]) (.seq (.reg [⟨.t 3,.mov (.p 0),none⟩,⟨.t 4,.call F_goboref3_cells [.t 3],none⟩,⟨.t 5,.call F_goboref3_pick [.t 4,.c (.nils),.c (.int .i64 1)],none⟩,
 ⟨.p 2,.mov (.t 5),none⟩]) (.ret))
def cf_goboref3_Norm : CFunc :=
{ nargs := 1,ps := [0,2],results := [.slot 2],body := bd_goboref3_Norm }
def lb_slices_IndexFunc_api_Re_api_Re_0 : CCode :=
 .seq (.reg [⟨.p 9,.bin .lss (.p 8) (.p 7),none⟩]) (.seq (.cond (.p 9) (.skip) (.exit 0)) (.seq (.block 1 [0,1,7,8] (.seq (.reg [⟨.t 10,.mov (.p 8),none⟩,⟨.p 5,.mov (.t 10),none⟩]) (.seq (.reg [⟨.t 11,.mov (.p 1),none⟩,
 ⟨.t 12,.mov (.p 0),none⟩,⟨.t 13,.mov (.p 5),none⟩,⟨.t 14,.idxAddr 3 (.t 12) (.t 13),none⟩,⟨.t 15,.loadN 3 (.t 14),none⟩,⟨.p 16,.callV (.t 11) [.t 15],none⟩]) (.cond (.p 16) (.seq (.reg [⟨.t 17,.mov (.p 5),none⟩,
 ⟨.p 4,.mov (.t 17),none⟩]) (.ret)) (.skip))))) (.reg [⟨.t 18,.bin .add (.p 8) (.c (.int .i64 1)),none⟩,⟨.p 8,.mov (.t 18),none⟩])))
def bd_slices_IndexFunc_api_Re_api_Re : CCode :=
 .seq (.reg [⟨.p 4,.mov (.c (.int .i64 0)),none⟩]) (.seq (.seq (.reg [⟨.t 6,.mov (.p 0),none⟩,⟨.p 7,.lenSl (.t 6),none⟩,⟨.p 8,.mov (.c (.int .i64 0)),none⟩]) (.block 0 [] (.loop [0,1,7,8] lb_slices_IndexFunc_api_Re_api_Re_0))) (.seq (.reg [⟨.p 4,.mov (.c (.int .i64 (-1))),none⟩]) (.ret)))
def cf_slices_IndexFunc_api_Re_api_Re : CFunc :=
{ nargs := 2,ps := [0,1,4,5,7,8,9,16],results := [.slot 4],body := bd_slices_IndexFunc_api_Re_api_Re }
end Go.Ev
