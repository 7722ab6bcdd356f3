/- Functions of the program, printed by gen.py. -/
import Derived.Test.YtibdapopccemeaaGreatDoorT15
set_option linter.unusedSimpArgs false
set_option linter.unusedVariables false
namespace Go.Ev
open Go
def lb_gobolaw13_ParseBrackets_0 : CCode :=
 .seq (.seq (.reg [⟨.t 25,.mov (.p 10),none⟩,⟨.t 26,.mov (.p 6),none⟩,⟨.p 27,.bin .lss (.t 25) (.t 26),none⟩]) (.cond (.p 27) (.skip) (.exit 0))) (.seq (.block 1 [5,6,7,8,9,10] (.reg [⟨.t 30,.mov (.p 8),none⟩,
 ⟨.t 31,.bin .add (.t 30) (.c (.str [40])),none⟩,⟨.t 32,.mov (.p 9),none⟩,⟨.t 33,.bin .add (.t 32) (.c (.str [41])),none⟩,⟨.p 8,.mov (.t 31),none⟩,⟨.p 9,.mov (.t 33),none⟩])) (.reg [⟨.t 28,.mov (.p 10),none⟩,
 ⟨.t 29,.bin .add (.t 28) (.c (.int .i64 1)),none⟩,⟨.p 10,.mov (.t 29),none⟩]))
def bd_gobolaw13_ParseBrackets : CCode :=
 .seq (.reg [⟨.p 4,.mov (.c (.bool false)),none⟩]) (.seq (.reg [⟨.t 17,.mov (.p 0),none⟩,⟨.t 18,.call F_gobolaw6_Make [.t 17],none⟩,⟨.p 5,.alloc [.int .i64 0,.nils,.nils],none⟩,⟨.no,.store 3 (.p 5) (.t 18),none⟩]) (.seq (.reg [⟨.t 19,.mov (.p 1),none⟩,
 ⟨.t 20,.convI .u64 (.t 19),none⟩,⟨.t 21,.bin .rem (.t 20) (.c (.int .u64 46)),none⟩,⟨.t 22,.convI .i64 (.t 21),none⟩,⟨.p 6,.mov (.t 22),none⟩]) (.seq (.reg [⟨.t 23,.loadN 3 (.p 5),none⟩,
 ⟨.t 24,.call F_goboref11_PrintRe [.t 23],none⟩,⟨.p 7,.mov (.t 24),none⟩]) (.seq (.reg [⟨.p 8,.mov (.c (.str [])),none⟩,⟨.p 9,.mov (.c (.str [])),none⟩]) (.seq (.seq (.reg [⟨.p 10,.mov (.c (.int .i64 0)),none⟩]) (.block 0 [5,6,7,8,9] (.loop [5,6,7,8,9,10] lb_gobolaw13_ParseBrackets_0))) (.seq (.reg [⟨.t 35,.mov (.p 7),none⟩,
 ⟨.t 36,.call F_parse_Re [.t 35],none⟩,⟨.t 34,.mov (.t 36),none⟩,⟨.t 37,.extract (.t 34) 0,none⟩,⟨.t 38,.extract (.t 34) 1,none⟩,⟨.t 39,.extract (.t 34) 2,none⟩,⟨.p 11,.alloc [.int .i64 0,.nils,.nils],none⟩,
 ⟨.no,.store 3 (.p 11) (.t 37),none⟩,⟨.p 12,.mov (.t 38),none⟩,⟨.t 13,.mov (.t 39),none⟩]) (.seq (.seq (.reg [⟨.t 40,.mov (.p 12),none⟩,⟨.t 41,.bin .neq (.t 40) (.c (.int .i64 0)),none⟩,
 ⟨.t 42,.mov (.t 41),none⟩,⟨.t 43,.loadN 3 (.p 11),some (.t 42,false)⟩,⟨.t 44,.loadN 3 (.p 5),some (.t 42,false)⟩,⟨.t 45,.call F_goboref6_Same [.t 43,.t 44],some (.t 42,false)⟩,⟨.t 46,.un .not (.t 45),some (.t 42,false)⟩,
 ⟨.p 47,.pick (.t 42) (.c (.bool true)) (.t 46),none⟩]) (.cond (.p 47) (.seq (.reg [⟨.p 4,.mov (.c (.bool false)),none⟩]) (.ret)) (.skip))) (.seq (.reg [⟨.t 49,.mov (.p 8),none⟩,⟨.t 50,.bin .add (.t 49) (.c (.str [97])),none⟩,
 ⟨.t 51,.mov (.p 9),none⟩,⟨.t 52,.bin .add (.t 50) (.t 51),none⟩,⟨.t 53,.call F_parse_Re [.t 52],none⟩,⟨.t 48,.mov (.t 53),none⟩,⟨.t 54,.extract (.t 48) 0,none⟩,⟨.t 55,.extract (.t 48) 1,none⟩,
 ⟨.t 56,.extract (.t 48) 2,none⟩,⟨.p 14,.alloc [.int .i64 0,.nils,.nils],none⟩,⟨.no,.store 3 (.p 14) (.t 54),none⟩,⟨.p 15,.mov (.t 55),none⟩,⟨.p 16,.mov (.t 56),none⟩]) (.seq (.seq (.reg [⟨.t 57,.mov (.p 6),none⟩,
 ⟨.p 58,.bin .gtr (.t 57) (.c (.int .i64 40)),none⟩]) (.cond (.p 58) (.seq (.reg [⟨.t 59,.call F_gobolaw13_told [],none⟩,⟨.t 60,.mov (.t 59),none⟩,⟨.t 61,.mov (.p 15),some (.t 60,true)⟩,
 ⟨.t 62,.bin .eql (.t 61) (.c (.int .i64 7)),some (.t 60,true)⟩,⟨.t 63,.pick (.t 60) (.t 62) (.c (.bool false)),none⟩,⟨.t 64,.mov (.t 63),none⟩,⟨.t 65,.mov (.p 16),some (.t 64,true)⟩,
 ⟨.t 66,.bin .eql (.t 65) (.c (.int .i64 40)),some (.t 64,true)⟩,⟨.t 67,.pick (.t 64) (.t 66) (.c (.bool false)),none⟩,⟨.p 4,.mov (.t 67),none⟩]) (.ret)) (.skip))) (.seq (.dreg [⟨⟨.t 68,.call F_gobolaw13_told [],none⟩,false,false,[]⟩,
 ⟨⟨.t 69,.mov (.t 68),none⟩,false,false,[]⟩,⟨⟨.t 70,.mov (.p 15),some (.t 69,true)⟩,false,false,[]⟩,⟨⟨.t 71,.bin .eql (.t 70) (.c (.int .i64 0)),some (.t 69,true)⟩,false,false,[]⟩,⟨⟨.t 72,.pick (.t 69) (.t 71) (.c (.bool false)),none⟩,false,false,[]⟩,
 ⟨⟨.t 73,.mov (.t 72),none⟩,false,false,[]⟩,⟨⟨.t 74,.loadN 3 (.p 14),some (.t 73,true)⟩,true,false,[]⟩,⟨⟨.t 75,.call F_gobolaw6_One [.c (.int .i32 97)],some (.t 73,true)⟩,false,false,[6]⟩,
 ⟨⟨.t 76,.call F_goboref6_Same [.t 74,.t 75],some (.t 73,true)⟩,false,false,[]⟩,⟨⟨.t 77,.pick (.t 73) (.t 76) (.c (.bool false)),none⟩,false,false,[]⟩,⟨⟨.p 4,.mov (.t 77),none⟩,false,false,[]⟩]) (.ret)))))))))))
def cf_gobolaw13_ParseBrackets : CFunc :=
{ nargs := 2,ps := [0,1,4,5,6,7,8,9,10,11,12,14,15,16,27,47,58],results := [.slot 4],body := bd_gobolaw13_ParseBrackets }
def lb_gobolaw6_Make_0 : CCode :=
 .seq (.seq (.reg [⟨.t 10,.mov (.p 4),none⟩,⟨.t 11,.mov (.p 0),none⟩,⟨.t 12,.lenSl (.t 11),none⟩,⟨.t 13,.bin .lss (.t 10) (.t 12),none⟩,⟨.t 14,.mov (.t 13),none⟩,⟨.t 15,.mov (.p 4),some (.t 14,true)⟩,
 ⟨.t 16,.bin .lss (.t 15) (.c (.int .i64 14)),some (.t 14,true)⟩,⟨.p 17,.pick (.t 14) (.t 16) (.c (.bool false)),none⟩]) (.cond (.p 17) (.skip) (.exit 0))) (.seq (.block 1 [0,2,3,4] (.seq (.reg [⟨.t 20,.mov (.p 3),none⟩,
 ⟨.t 21,.lenSl (.t 20),none⟩,⟨.p 5,.mov (.t 21),none⟩]) (.seq (.reg [⟨.t 22,.mov (.p 0),none⟩,⟨.t 23,.mov (.p 4),none⟩,⟨.t 24,.idxAddr 1 (.t 22) (.t 23),none⟩,⟨.t 25,.load1 (.t 24),none⟩,
 ⟨.t 26,.convI .u64 (.t 25),none⟩,⟨.t 27,.bin .rem (.t 26) (.c (.int .u64 9)),none⟩,⟨.t 28,.convI .i64 (.t 27),none⟩,⟨.p 6,.mov (.t 28),none⟩]) (.block 2 [0,2,3,4] (.seq (.reg [⟨.t 30,.mov (.p 6),none⟩,
 ⟨.t 31,.bin .lss (.t 30) (.c (.int .i64 4)),none⟩,⟨.t 32,.mov (.t 31),none⟩,⟨.t 33,.mov (.p 5),some (.t 32,false)⟩,⟨.t 34,.bin .eql (.t 33) (.c (.int .i64 0)),some (.t 32,false)⟩,⟨.t 35,.pick (.t 32) (.c (.bool true)) (.t 34),none⟩,
 ⟨.p 29,.mov (.t 35),none⟩]) (.cond (.p 29) (.seq (.reg [⟨.t 36,.mov (.p 0),none⟩,⟨.t 37,.mov (.p 4),none⟩,⟨.t 38,.idxAddr 1 (.t 36) (.t 37),none⟩,⟨.t 39,.load1 (.t 38),none⟩,⟨.t 40,.bin .and (.t 39) (.c (.int .i64 1)),none⟩,
 ⟨.t 41,.bin .add (.c (.int .i64 97)) (.t 40),none⟩,⟨.t 42,.convI .i32 (.t 41),none⟩,⟨.p 7,.mov (.t 42),none⟩]) (.reg [⟨.t 43,.mov (.p 3),none⟩,⟨.t 44,.mov (.p 7),none⟩,⟨.t 45,.mov (.p 7),none⟩,
 ⟨.t 46,.mov (.p 6),none⟩,⟨.t 47,.bin .and (.t 46) (.c (.int .i64 1)),none⟩,⟨.t 48,.convI .i32 (.t 47),none⟩,⟨.t 49,.bin .add (.t 45) (.t 48),none⟩,⟨.t 50,.build [.int .i32 0,.int .i32 0] [(0,1,.t 44),(1,1,.t 49)],none⟩,
 ⟨.t 51,.lit [.int .i32 0,.int .i32 0] 1 [(0,2,.t 50)],none⟩,⟨.t 52,.build [.int .i64 0,.nils,.nils] [(0,1,.c (.int .i64 2)),(1,1,.t 51)],none⟩,⟨.t 53,.lit [.int .i64 0,.nils,.nils] 1 [(0,3,.t 52)],none⟩,
 ⟨.t 54,.append 3 56 (.t 43) (.t 53),none⟩,⟨.p 3,.mov (.t 54),none⟩])) (.seq (.reg [⟨.t 56,.mov (.p 6),none⟩,⟨.t 57,.bin .eql (.t 56) (.c (.int .i64 4)),none⟩,⟨.p 55,.mov (.t 57),none⟩]) (.cond (.p 55) (.reg [⟨.t 58,.mov (.p 3),none⟩,
 ⟨.t 59,.mov (.p 5),none⟩,⟨.t 60,.bin .sub (.t 59) (.c (.int .i64 1)),none⟩,⟨.t 61,.mov (.p 3),none⟩,⟨.t 62,.mov (.p 5),none⟩,⟨.t 63,.bin .sub (.t 62) (.c (.int .i64 1)),none⟩,⟨.t 64,.idxAddr 3 (.t 61) (.t 63),none⟩,
 ⟨.t 65,.loadN 3 (.t 64),none⟩,⟨.t 66,.lit [.int .i64 0,.nils,.nils] 1 [(0,3,.t 65)],none⟩,⟨.t 67,.build [.int .i64 0,.nils,.nils] [(0,1,.c (.int .i64 5)),(2,1,.t 66)],none⟩,⟨.t 68,.idxAddr 3 (.t 58) (.t 60),none⟩,
 ⟨.no,.store 3 (.t 68) (.t 67),none⟩]) (.seq (.reg [⟨.t 70,.mov (.p 5),none⟩,⟨.t 71,.bin .gtr (.t 70) (.c (.int .i64 1)),none⟩,⟨.t 72,.mov (.t 71),none⟩,⟨.t 73,.mov (.p 6),some (.t 72,true)⟩,
 ⟨.t 74,.bin .lss (.t 73) (.c (.int .i64 7)),some (.t 72,true)⟩,⟨.t 75,.pick (.t 72) (.t 74) (.c (.bool false)),none⟩,⟨.p 69,.mov (.t 75),none⟩]) (.cond (.p 69) (.dreg [⟨⟨.t 76,.mov (.p 3),none⟩,false,false,[]⟩,
 ⟨⟨.t 77,.mov (.p 5),none⟩,false,false,[]⟩,⟨⟨.t 78,.bin .sub (.t 77) (.c (.int .i64 2)),none⟩,false,false,[]⟩,⟨⟨.t 79,.mov (.p 5),none⟩,false,false,[]⟩,⟨⟨.t 80,.bin .sub (.t 79) (.c (.int .i64 2)),none⟩,false,false,[]⟩,
 ⟨⟨.t 81,.sliceSl 3 (.t 76) none (some (.t 78)) (some (.t 80)),none⟩,false,false,[]⟩,⟨⟨.t 82,.mov (.p 3),none⟩,false,false,[]⟩,⟨⟨.t 83,.mov (.p 5),none⟩,false,false,[]⟩,⟨⟨.t 84,.bin .sub (.t 83) (.c (.int .i64 2)),none⟩,false,false,[]⟩,
 ⟨⟨.t 85,.idxAddr 3 (.t 82) (.t 84),none⟩,false,false,[]⟩,⟨⟨.t 86,.loadN 3 (.t 85),none⟩,false,false,[]⟩,⟨⟨.t 87,.mov (.p 3),none⟩,false,false,[]⟩,⟨⟨.t 88,.mov (.p 5),none⟩,false,false,[]⟩,
 ⟨⟨.t 89,.bin .sub (.t 88) (.c (.int .i64 1)),none⟩,false,false,[]⟩,⟨⟨.t 90,.idxAddr 3 (.t 87) (.t 89),none⟩,false,false,[]⟩,⟨⟨.t 91,.loadN 3 (.t 90),none⟩,false,false,[]⟩,⟨⟨.t 92,.lit [.int .i64 0,.nils,.nils,.int .i64 0,.nils,.nils] 2 [(0,3,.t 86),(3,3,.t 91)],none⟩,false,false,[]⟩,
 ⟨⟨.t 93,.build [.int .i64 0,.nils,.nils] [(0,1,.c (.int .i64 3)),(2,1,.t 92)],none⟩,false,false,[]⟩,⟨⟨.t 94,.lit [.int .i64 0,.nils,.nils] 1 [(0,3,.t 93)],none⟩,false,false,[]⟩,⟨⟨.t 95,.append 3 56 (.t 81) (.t 94),none⟩,false,false,[]⟩,
 ⟨⟨.p 3,.mov (.t 95),none⟩,false,false,[]⟩]) (.seq (.reg [⟨.t 97,.mov (.p 5),none⟩,⟨.t 98,.bin .gtr (.t 97) (.c (.int .i64 1)),none⟩,⟨.p 96,.mov (.t 98),none⟩]) (.cond (.p 96) (.dreg [⟨⟨.t 99,.mov (.p 3),none⟩,false,false,[]⟩,
 ⟨⟨.t 100,.mov (.p 5),none⟩,false,false,[]⟩,⟨⟨.t 101,.bin .sub (.t 100) (.c (.int .i64 2)),none⟩,false,false,[]⟩,⟨⟨.t 102,.mov (.p 5),none⟩,false,false,[]⟩,⟨⟨.t 103,.bin .sub (.t 102) (.c (.int .i64 2)),none⟩,false,false,[]⟩,
 ⟨⟨.t 104,.sliceSl 3 (.t 99) none (some (.t 101)) (some (.t 103)),none⟩,false,false,[]⟩,⟨⟨.t 105,.mov (.p 3),none⟩,false,false,[]⟩,⟨⟨.t 106,.mov (.p 5),none⟩,false,false,[]⟩,⟨⟨.t 107,.bin .sub (.t 106) (.c (.int .i64 2)),none⟩,false,false,[]⟩,
 ⟨⟨.t 108,.idxAddr 3 (.t 105) (.t 107),none⟩,false,false,[]⟩,⟨⟨.t 109,.loadN 3 (.t 108),none⟩,false,false,[]⟩,⟨⟨.t 110,.mov (.p 3),none⟩,false,false,[]⟩,⟨⟨.t 111,.mov (.p 5),none⟩,false,false,[]⟩,
 ⟨⟨.t 112,.bin .sub (.t 111) (.c (.int .i64 1)),none⟩,false,false,[]⟩,⟨⟨.t 113,.idxAddr 3 (.t 110) (.t 112),none⟩,false,false,[]⟩,⟨⟨.t 114,.loadN 3 (.t 113),none⟩,false,false,[]⟩,⟨⟨.t 115,.lit [.int .i64 0,.nils,.nils,.int .i64 0,.nils,.nils] 2 [(0,3,.t 109),(3,3,.t 114)],none⟩,false,false,[]⟩,
 ⟨⟨.t 116,.build [.int .i64 0,.nils,.nils] [(0,1,.c (.int .i64 4)),(2,1,.t 115)],none⟩,false,false,[]⟩,⟨⟨.t 117,.lit [.int .i64 0,.nils,.nils] 1 [(0,3,.t 116)],none⟩,false,false,[]⟩,
 ⟨⟨.t 118,.append 3 56 (.t 104) (.t 117),none⟩,false,false,[]⟩,⟨⟨.p 3,.mov (.t 118),none⟩,false,false,[]⟩]) (.seq (.reg [⟨.t 120,.mov (.p 6),none⟩,⟨.t 121,.bin .eql (.t 120) (.c (.int .i64 8)),none⟩,
 ⟨.p 119,.mov (.t 121),none⟩]) (.cond (.p 119) (.reg [⟨.t 122,.mov (.p 3),none⟩,⟨.t 123,.build [.int .i64 0,.nils,.nils] [(0,1,.c (.int .i64 1))],none⟩,⟨.t 124,.lit [.int .i64 0,.nils,.nils] 1 [(0,3,.t 123)],none⟩,
 ⟨.t 125,.append 3 56 (.t 122) (.t 124),none⟩,⟨.p 3,.mov (.t 125),none⟩]) (.skip))))))))))))))) (.reg [⟨.t 18,.mov (.p 4),none⟩,⟨.t 19,.bin .add (.t 18) (.c (.int .i64 1)),none⟩,⟨.p 4,.mov (.t 19),none⟩]))
def lb_gobolaw6_Make_1 : CCode :=
 .seq (.seq (.reg [⟨.t 133,.mov (.p 9),none⟩,⟨.t 134,.mov (.p 3),none⟩,⟨.t 135,.lenSl (.t 134),none⟩,⟨.p 136,.bin .lss (.t 133) (.t 135),none⟩]) (.cond (.p 136) (.skip) (.exit 3))) (.seq (.block 4 [2,3,8,9] (.dreg [⟨⟨.t 139,.loadN 3 (.p 8),none⟩,false,false,[]⟩,
 ⟨⟨.t 140,.mov (.p 3),none⟩,false,false,[]⟩,⟨⟨.t 141,.mov (.p 9),none⟩,false,false,[]⟩,⟨⟨.t 142,.idxAddr 3 (.t 140) (.t 141),none⟩,false,false,[]⟩,⟨⟨.t 143,.loadN 3 (.t 142),none⟩,false,false,[]⟩,
 ⟨⟨.t 144,.lit [.int .i64 0,.nils,.nils,.int .i64 0,.nils,.nils] 2 [(0,3,.t 139),(3,3,.t 143)],none⟩,false,false,[]⟩,⟨⟨.t 145,.build [.int .i64 0,.nils,.nils] [(0,1,.c (.int .i64 3)),(2,1,.t 144)],none⟩,false,false,[]⟩,
 ⟨⟨.no,.store 3 (.p 8) (.t 145),none⟩,false,false,[]⟩])) (.reg [⟨.t 137,.mov (.p 9),none⟩,⟨.t 138,.bin .add (.t 137) (.c (.int .i64 1)),none⟩,⟨.p 9,.mov (.t 138),none⟩]))
def bd_gobolaw6_Make : CCode :=
 .seq (.reg [⟨.p 2,.alloc [.int .i64 0,.nils,.nils],none⟩]) (.seq (.reg [⟨.p 3,.mov (.c (.nils)),none⟩]) (.seq (.seq (.reg [⟨.p 4,.mov (.c (.int .i64 0)),none⟩]) (.block 0 [2,3] (.loop [0,2,3,4] lb_gobolaw6_Make_0))) (.seq (.seq (.reg [⟨.t 126,.mov (.p 3),none⟩,
 ⟨.t 127,.lenSl (.t 126),none⟩,⟨.p 128,.bin .eql (.t 127) (.c (.int .i64 0)),none⟩]) (.cond (.p 128) (.seq (.reg [⟨.t 129,.call F_gobolaw6_One [.c (.int .i32 97)],none⟩,⟨.no,.store 3 (.p 2) (.t 129),none⟩]) (.ret)) (.skip))) (.seq (.reg [⟨.t 130,.mov (.p 3),none⟩,
 ⟨.t 131,.idxAddr 3 (.t 130) (.c (.int .i64 0)),none⟩,⟨.t 132,.loadN 3 (.t 131),none⟩,⟨.p 8,.alloc [.int .i64 0,.nils,.nils],none⟩,⟨.no,.store 3 (.p 8) (.t 132),none⟩]) (.seq (.seq (.reg [⟨.p 9,.mov (.c (.int .i64 1)),none⟩]) (.block 3 [2,8] (.loop [2,3,8,9] lb_gobolaw6_Make_1))) (.seq (.seq (.reg [⟨.t 146,.loadN 3 (.p 8),none⟩,
 ⟨.t 147,.call F_goboref6_May [.t 146],none⟩,⟨.p 148,.un .not (.t 147),none⟩]) (.cond (.p 148) (.seq (.reg [⟨.t 149,.call F_gobolaw6_One [.c (.int .i32 98)],none⟩,⟨.no,.store 3 (.p 2) (.t 149),none⟩]) (.ret)) (.skip))) (.seq (.reg [⟨.t 150,.loadN 3 (.p 8),none⟩,
 ⟨.no,.store 3 (.p 2) (.t 150),none⟩]) (.ret))))))))
def cf_gobolaw6_Make : CFunc :=
{ nargs := 1,ps := [0,2,3,4,5,6,7,8,9,17,29,55,69,96,119,128,136,148],results := [.cellN 2 3],body := bd_gobolaw6_Make }
def bd_goboref11_PrintRe : CCode :=
 .seq (.reg [⟨.p 1,.box (.p 0),none⟩,⟨.p 2,.mov (.c (.str [])),none⟩]) (.seq (.seq (.reg [⟨.t 3,.loadN 3 (.p 1),none⟩,⟨.t 4,.call F_goboref6_May [.t 3],none⟩,⟨.p 5,.un .not (.t 4),none⟩]) (.cond (.p 5) (.seq (.reg [⟨.p 2,.mov (.c (.str [])),none⟩]) (.ret)) (.skip))) (.seq (.reg [⟨.t 6,.loadN 3 (.p 1),none⟩,
 ⟨.t 7,.call F_goboref11_re [.t 6],none⟩,⟨.p 2,.mov (.t 7),none⟩]) (.ret)))
def cf_goboref11_PrintRe : CFunc :=
{ nargs := 1,ps := [0,1,2,5],results := [.slot 2],body := bd_goboref11_PrintRe }
def bd_parse_Re : CCode :=
 .seq (.reg [⟨.p 1,.box (.p 0),none⟩,⟨.p 2,.alloc [.int .i64 0,.nils,.nils],none⟩,⟨.p 3,.mov (.c (.int .i64 0)),none⟩,⟨.p 4,.mov (.c (.int .i64 0)),none⟩]) (.seq (.reg [⟨.p 5,.alloc [.int .i64 0,.nils,.nils],none⟩]) (.seq (.reg [⟨.t 7,.mkFn F_parse_Re_1 [.p 1,.p 5],none⟩,
 ⟨.t 8,.call F_word_Caught [.t 7],none⟩,⟨.p 6,.alloc [.int .i64 0,.int .i64 0],none⟩,⟨.no,.store 2 (.p 6) (.t 8),none⟩]) (.seq (.seq (.reg [⟨.t 9,.fieldAddr 0 (.p 6),none⟩,⟨.t 10,.load1 (.t 9),none⟩,
 ⟨.p 11,.bin .neq (.t 10) (.c (.int .i64 0)),none⟩]) (.cond (.p 11) (.seq (.dreg [⟨⟨.t 12,.build [.int .i64 0,.nils,.nils] [],none⟩,false,false,[]⟩,⟨⟨.t 13,.fieldAddr 0 (.p 6),none⟩,false,false,[]⟩,
 ⟨⟨.t 14,.load1 (.t 13),none⟩,true,false,[]⟩,⟨⟨.t 15,.fieldAddr 1 (.p 6),none⟩,false,false,[]⟩,⟨⟨.t 16,.load1 (.t 15),none⟩,true,false,[]⟩,⟨⟨.no,.store 3 (.p 2) (.t 12),none⟩,false,false,[2,4]⟩,
 ⟨⟨.p 3,.mov (.t 14),none⟩,false,false,[]⟩,⟨⟨.p 4,.mov (.t 16),none⟩,false,false,[]⟩]) (.ret)) (.skip))) (.seq (.reg [⟨.t 17,.loadN 3 (.p 5),none⟩,⟨.no,.store 3 (.p 2) (.t 17),none⟩,
 ⟨.p 3,.mov (.c (.int .i64 0)),none⟩,⟨.p 4,.mov (.c (.int .i64 0)),none⟩]) (.ret)))))
def cf_parse_Re : CFunc :=
{ nargs := 1,ps := [0,1,2,3,4,5,6,11],results := [.cellN 2 3,.slot 3,.slot 4],body := bd_parse_Re }
def lb_goboref6_Same_0 : CCode :=
 .seq (.seq (.reg [⟨.t 28,.mov (.p 5),none⟩,⟨.t 29,.fieldAddr 2 (.p 2),none⟩,⟨.t 30,.load1 (.t 29),none⟩,⟨.t 31,.lenSl (.t 30),none⟩,⟨.p 32,.bin .lss (.t 28) (.t 31),none⟩]) (.cond (.p 32) (.skip) (.exit 0))) (.seq (.block 1 [2,3,5] (.seq (.dreg [⟨⟨.t 35,.fieldAddr 2 (.p 2),none⟩,false,false,[]⟩,
 ⟨⟨.t 36,.load1 (.t 35),none⟩,false,false,[]⟩,⟨⟨.t 37,.mov (.p 5),none⟩,false,false,[]⟩,⟨⟨.t 38,.idxAddr 3 (.t 36) (.t 37),none⟩,false,false,[]⟩,⟨⟨.t 39,.loadN 3 (.t 38),none⟩,false,false,[]⟩,
 ⟨⟨.t 40,.fieldAddr 2 (.p 3),none⟩,false,false,[]⟩,⟨⟨.t 41,.load1 (.t 40),none⟩,false,false,[]⟩,⟨⟨.t 42,.mov (.p 5),none⟩,false,false,[]⟩,⟨⟨.t 43,.idxAddr 3 (.t 41) (.t 42),none⟩,false,false,[]⟩,
 ⟨⟨.t 44,.loadN 3 (.t 43),none⟩,false,false,[]⟩,⟨⟨.t 45,.call F_goboref6_Same [.t 39,.t 44],none⟩,false,false,[]⟩,⟨⟨.p 46,.un .not (.t 45),none⟩,false,false,[]⟩]) (.cond (.p 46) (.seq (.reg [⟨.p 4,.mov (.c (.bool false)),none⟩]) (.ret)) (.skip)))) (.reg [⟨.t 33,.mov (.p 5),none⟩,
 ⟨.t 34,.bin .add (.t 33) (.c (.int .i64 1)),none⟩,⟨.p 5,.mov (.t 34),none⟩]))
def bd_goboref6_Same : CCode :=
 .seq (.reg [⟨.p 2,.box (.p 0),none⟩,⟨.p 3,.box (.p 1),none⟩,⟨.p 4,.mov (.c (.bool false)),none⟩]) (.seq (.seq (.reg [⟨.t 6,.fieldAddr 0 (.p 2),none⟩,⟨.t 7,.load1 (.t 6),none⟩,⟨.t 8,.fieldAddr 0 (.p 3),none⟩,
 ⟨.t 9,.load1 (.t 8),none⟩,⟨.t 10,.bin .neq (.t 7) (.t 9),none⟩,⟨.t 11,.mov (.t 10),none⟩,⟨.t 12,.fieldAddr 2 (.p 2),some (.t 11,false)⟩,⟨.t 13,.load1 (.t 12),some (.t 11,false)⟩,⟨.t 14,.lenSl (.t 13),some (.t 11,false)⟩,
 ⟨.t 15,.fieldAddr 2 (.p 3),some (.t 11,false)⟩,⟨.t 16,.load1 (.t 15),some (.t 11,false)⟩,⟨.t 17,.lenSl (.t 16),some (.t 11,false)⟩,⟨.t 18,.bin .neq (.t 14) (.t 17),some (.t 11,false)⟩,
 ⟨.t 19,.pick (.t 11) (.c (.bool true)) (.t 18),none⟩,⟨.t 20,.mov (.t 19),none⟩,⟨.t 21,.fieldAddr 1 (.p 2),some (.t 20,false)⟩,⟨.t 22,.load1 (.t 21),some (.t 20,false)⟩,⟨.t 23,.fieldAddr 1 (.p 3),some (.t 20,false)⟩,
 ⟨.t 24,.load1 (.t 23),some (.t 20,false)⟩,⟨.t 25,.call F_goboref3_Same [.t 22,.t 24],some (.t 20,false)⟩,⟨.t 26,.un .not (.t 25),some (.t 20,false)⟩,⟨.p 27,.pick (.t 20) (.c (.bool true)) (.t 26),none⟩]) (.cond (.p 27) (.seq (.reg [⟨.p 4,.mov (.c (.bool false)),none⟩]) (.ret)) (.skip))) (.seq (.seq (.reg [⟨.p 5,.mov (.c (.int .i64 0)),none⟩]) (.block 0 [] (.loop [2,3,5] lb_goboref6_Same_0))) (.seq (.reg [⟨.p 4,.mov (.c (.bool true)),none⟩]) (.ret))))
def cf_goboref6_Same : CFunc :=
{ nargs := 2,ps := [0,1,2,3,4,5,27,32,46],results := [.slot 4],body := bd_goboref6_Same }
def bd_gobolaw13_told : CCode :=
 .seq (.reg [⟨.p 0,.mov (.c (.bool false)),none⟩]) (.seq (.reg [⟨.t 17,.call F_parse_Re [.c (.str [97,124,98,42])],none⟩,⟨.t 16,.mov (.t 17),none⟩,⟨.t 18,.extract (.t 16) 0,none⟩,⟨.t 19,.extract (.t 16) 1,none⟩,
 ⟨.t 20,.extract (.t 16) 2,none⟩,⟨.p 1,.alloc [.int .i64 0,.nils,.nils],none⟩,⟨.no,.store 3 (.p 1) (.t 18),none⟩,⟨.p 2,.mov (.t 19),none⟩,⟨.t 3,.mov (.t 20),none⟩]) (.seq (.reg [⟨.t 22,.call F_parse_Re [.c (.str [97,41])],none⟩,
 ⟨.t 21,.mov (.t 22),none⟩,⟨.t 23,.extract (.t 21) 0,none⟩,⟨.t 24,.extract (.t 21) 1,none⟩,⟨.t 25,.extract (.t 21) 2,none⟩,⟨.t 4,.alloc [.int .i64 0,.nils,.nils],none⟩,⟨.no,.store 3 (.t 4) (.t 23),none⟩,
 ⟨.p 5,.mov (.t 24),none⟩,⟨.p 6,.mov (.t 25),none⟩]) (.seq (.reg [⟨.t 27,.call F_parse_Source [.c (.str [116,111,107,32,97,32,105,110,116,32,51,32,61,32,47,97,47,10,114,117,108,101,32,53,32,123,97,125,42,32,95,10])],none⟩,
 ⟨.t 26,.mov (.t 27),none⟩,⟨.t 28,.extract (.t 26) 0,none⟩,⟨.t 29,.extract (.t 26) 1,none⟩,⟨.t 30,.extract (.t 26) 2,none⟩,⟨.p 7,.alloc [.nils,.nils],none⟩,⟨.no,.store 2 (.p 7) (.t 28),none⟩,
 ⟨.p 8,.mov (.t 29),none⟩,⟨.t 9,.mov (.t 30),none⟩]) (.seq (.reg [⟨.t 32,.call F_parse_Source [.c (.str [116,111,107,32,97,32,105,110,116,32,51,32,61,32,47,40,47])],none⟩,⟨.t 31,.mov (.t 32),none⟩,
 ⟨.t 33,.extract (.t 31) 0,none⟩,⟨.t 34,.extract (.t 31) 1,none⟩,⟨.t 35,.extract (.t 31) 2,none⟩,⟨.t 10,.alloc [.nils,.nils],none⟩,⟨.no,.store 2 (.t 10) (.t 33),none⟩,⟨.p 11,.mov (.t 34),none⟩,
 ⟨.p 12,.mov (.t 35),none⟩]) (.seq (.reg [⟨.t 37,.call F_parse_Source [.c (.str [])],none⟩,⟨.t 36,.mov (.t 37),none⟩,⟨.t 38,.extract (.t 36) 0,none⟩,⟨.t 39,.extract (.t 36) 1,none⟩,
 ⟨.t 40,.extract (.t 36) 2,none⟩,⟨.t 13,.alloc [.nils,.nils],none⟩,⟨.no,.store 2 (.t 13) (.t 38),none⟩,⟨.p 14,.mov (.t 39),none⟩,⟨.p 15,.mov (.t 40),none⟩]) (.seq (.reg [⟨.t 41,.mov (.p 2),none⟩,
 ⟨.t 42,.bin .eql (.t 41) (.c (.int .i64 0)),none⟩,⟨.t 43,.mov (.t 42),none⟩,⟨.t 44,.fieldAddr 0 (.p 1),some (.t 43,true)⟩,⟨.t 45,.load1 (.t 44),some (.t 43,true)⟩,⟨.t 46,.bin .eql (.t 45) (.c (.int .i64 4)),some (.t 43,true)⟩,
 ⟨.t 47,.pick (.t 43) (.t 46) (.c (.bool false)),none⟩,⟨.t 48,.mov (.t 47),none⟩,⟨.t 49,.fieldAddr 2 (.p 1),some (.t 48,true)⟩,⟨.t 50,.load1 (.t 49),some (.t 48,true)⟩,⟨.t 51,.idxAddr 3 (.t 50) (.c (.int .i64 1)),some (.t 48,true)⟩,
 ⟨.t 52,.fieldAddr 0 (.t 51),some (.t 48,true)⟩,⟨.t 53,.load1 (.t 52),some (.t 48,true)⟩,⟨.t 54,.bin .eql (.t 53) (.c (.int .i64 5)),some (.t 48,true)⟩,⟨.t 55,.pick (.t 48) (.t 54) (.c (.bool false)),none⟩,
 ⟨.t 56,.mov (.t 55),none⟩,⟨.t 57,.mov (.p 5),some (.t 56,true)⟩,⟨.t 58,.bin .eql (.t 57) (.c (.int .i64 3)),some (.t 56,true)⟩,⟨.t 59,.pick (.t 56) (.t 58) (.c (.bool false)),none⟩,
 ⟨.t 60,.mov (.t 59),none⟩,⟨.t 61,.mov (.p 6),some (.t 60,true)⟩,⟨.t 62,.bin .eql (.t 61) (.c (.int .i64 1)),some (.t 60,true)⟩,⟨.t 63,.pick (.t 60) (.t 62) (.c (.bool false)),none⟩,
 ⟨.t 64,.mov (.t 63),none⟩,⟨.t 65,.mov (.p 8),some (.t 64,true)⟩,⟨.t 66,.bin .eql (.t 65) (.c (.int .i64 0)),some (.t 64,true)⟩,⟨.t 67,.pick (.t 64) (.t 66) (.c (.bool false)),none⟩,
 ⟨.t 68,.mov (.t 67),none⟩,⟨.t 69,.fieldAddr 0 (.p 7),some (.t 68,true)⟩,⟨.t 70,.load1 (.t 69),some (.t 68,true)⟩,⟨.t 71,.lenSl (.t 70),some (.t 68,true)⟩,⟨.t 72,.bin .eql (.t 71) (.c (.int .i64 1)),some (.t 68,true)⟩,
 ⟨.t 73,.pick (.t 68) (.t 72) (.c (.bool false)),none⟩,⟨.t 74,.mov (.t 73),none⟩,⟨.t 75,.fieldAddr 0 (.p 7),some (.t 74,true)⟩,⟨.t 76,.load1 (.t 75),some (.t 74,true)⟩,⟨.t 77,.idxAddr 6 (.t 76) (.c (.int .i64 0)),some (.t 74,true)⟩,
 ⟨.t 78,.fieldAddr 2 (.t 77),some (.t 74,true)⟩,⟨.t 79,.load1 (.t 78),some (.t 74,true)⟩,⟨.t 80,.bin .eql (.t 79) (.c (.int .i64 3)),some (.t 74,true)⟩,⟨.t 81,.pick (.t 74) (.t 80) (.c (.bool false)),none⟩,
 ⟨.t 82,.mov (.t 81),none⟩,⟨.t 83,.fieldAddr 1 (.p 7),some (.t 82,true)⟩,⟨.t 84,.load1 (.t 83),some (.t 82,true)⟩,⟨.t 85,.lenSl (.t 84),some (.t 82,true)⟩,⟨.t 86,.bin .eql (.t 85) (.c (.int .i64 1)),some (.t 82,true)⟩,
 ⟨.t 87,.pick (.t 82) (.t 86) (.c (.bool false)),none⟩,⟨.t 88,.mov (.t 87),none⟩,⟨.t 89,.fieldAddr 1 (.p 7),some (.t 88,true)⟩,⟨.t 90,.load1 (.t 89),some (.t 88,true)⟩,⟨.t 91,.idxAddr 3 (.t 90) (.c (.int .i64 0)),some (.t 88,true)⟩,
 ⟨.t 92,.fieldAddr 2 (.t 91),some (.t 88,true)⟩,⟨.t 93,.load1 (.t 92),some (.t 88,true)⟩,⟨.t 94,.idxAddr 5 (.t 93) (.c (.int .i64 0)),some (.t 88,true)⟩,⟨.t 95,.fieldAddr 1 (.t 94),some (.t 88,true)⟩,
 ⟨.t 96,.fieldAddr 0 (.t 95),some (.t 88,true)⟩,⟨.t 97,.load1 (.t 96),some (.t 88,true)⟩,⟨.t 98,.bin .eql (.t 97) (.c (.int .i64 5)),some (.t 88,true)⟩,⟨.t 99,.pick (.t 88) (.t 98) (.c (.bool false)),none⟩,
 ⟨.t 100,.mov (.t 99),none⟩,⟨.t 101,.mov (.p 11),some (.t 100,true)⟩,⟨.t 102,.bin .eql (.t 101) (.c (.int .i64 3)),some (.t 100,true)⟩,⟨.t 103,.pick (.t 100) (.t 102) (.c (.bool false)),none⟩,
 ⟨.t 104,.mov (.t 103),none⟩,⟨.t 105,.mov (.p 12),some (.t 104,true)⟩,⟨.t 106,.bin .eql (.t 105) (.c (.int .i64 16)),some (.t 104,true)⟩,⟨.t 107,.pick (.t 104) (.t 106) (.c (.bool false)),none⟩,
 ⟨.t 108,.mov (.t 107),none⟩,⟨.t 109,.mov (.p 14),some (.t 108,true)⟩,⟨.t 110,.bin .eql (.t 109) (.c (.int .i64 6)),some (.t 108,true)⟩,⟨.t 111,.pick (.t 108) (.t 110) (.c (.bool false)),none⟩,
 ⟨.t 112,.mov (.t 111),none⟩,⟨.t 113,.mov (.p 15),some (.t 112,true)⟩,⟨.t 114,.bin .eql (.t 113) (.c (.int .i64 0)),some (.t 112,true)⟩,⟨.t 115,.pick (.t 112) (.t 114) (.c (.bool false)),none⟩,
 ⟨.p 0,.mov (.t 115),none⟩]) (.ret)))))))
def cf_gobolaw13_told : CFunc :=
{ nargs := 0,ps := [0,1,2,5,6,7,8,11,12,14,15],results := [.slot 0],body := bd_gobolaw13_told }
def bd_gobolaw6_One : CCode :=
 .seq (.reg [⟨.p 2,.alloc [.int .i64 0,.nils,.nils],none⟩]) (.seq (.reg [⟨.t 3,.mov (.p 0),none⟩,⟨.t 4,.mov (.p 0),none⟩,⟨.t 5,.build [.int .i32 0,.int .i32 0] [(0,1,.t 3),(1,1,.t 4)],none⟩,
 ⟨.t 6,.lit [.int .i32 0,.int .i32 0] 1 [(0,2,.t 5)],none⟩,⟨.t 7,.build [.int .i64 0,.nils,.nils] [(0,1,.c (.int .i64 2)),(1,1,.t 6)],none⟩,⟨.no,.store 3 (.p 2) (.t 7),none⟩]) (.ret))
def cf_gobolaw6_One : CFunc :=
{ nargs := 1,ps := [0,2],results := [.cellN 2 3],body := bd_gobolaw6_One }
def bd_goboref6_May : CCode :=
 .seq (.reg [⟨.p 1,.box (.p 0),none⟩,⟨.p 2,.mov (.c (.bool false)),none⟩]) (.seq (.reg [⟨.t 6,.loadN 3 (.p 1),none⟩,⟨.t 7,.call F_goboref6_Count [.t 6],none⟩,⟨.t 5,.mov (.t 7),none⟩,
 ⟨.t 8,.extract (.t 5) 0,none⟩,⟨.t 9,.extract (.t 5) 1,none⟩,⟨.p 3,.mov (.t 8),none⟩,⟨.p 4,.mov (.t 9),none⟩]) (.seq (.reg [⟨.t 10,.mov (.p 3),none⟩,⟨.t 11,.bin .leq (.t 10) (.c (.int .i64 60)),none⟩,
 ⟨.t 12,.mov (.t 11),none⟩,⟨.t 13,.mov (.p 4),some (.t 12,true)⟩,⟨.t 14,.bin .leq (.t 13) (.c (.int .i64 12)),some (.t 12,true)⟩,⟨.t 15,.pick (.t 12) (.t 14) (.c (.bool false)),none⟩,
 ⟨.t 16,.mov (.t 15),none⟩,⟨.t 17,.loadN 3 (.p 1),some (.t 16,true)⟩,⟨.t 18,.call F_goboref6_parts [.t 17],some (.t 16,true)⟩,⟨.t 19,.pick (.t 16) (.t 18) (.c (.bool false)),none⟩,⟨.p 2,.mov (.t 19),none⟩]) (.ret)))
def cf_goboref6_May : CFunc :=
{ nargs := 1,ps := [0,1,2,3,4],results := [.slot 2],body := bd_goboref6_May }
def bd_goboref11_re : CCode :=
 .seq (.reg [⟨.p 1,.box (.p 0),none⟩,⟨.p 2,.mov (.c (.str [])),none⟩]) (.seq (.seq (.reg [⟨.t 3,.fieldAddr 0 (.p 1),none⟩,⟨.p 4,.load1 (.t 3),none⟩]) (.block 0 [1] (.seq (.reg [⟨.t 6,.bin .eql (.p 4) (.c (.int .i64 0)),none⟩,
 ⟨.p 5,.mov (.t 6),none⟩]) (.cond (.p 5) (.seq (.reg [⟨.p 2,.mov (.c (.str [91,93])),none⟩]) (.ret)) (.seq (.reg [⟨.t 8,.bin .eql (.p 4) (.c (.int .i64 1)),none⟩,⟨.p 7,.mov (.t 8),none⟩]) (.cond (.p 7) (.seq (.reg [⟨.p 2,.mov (.c (.str [40,41])),none⟩]) (.ret)) (.seq (.reg [⟨.t 10,.bin .eql (.p 4) (.c (.int .i64 2)),none⟩,
 ⟨.p 9,.mov (.t 10),none⟩]) (.cond (.p 9) (.seq (.reg [⟨.t 11,.fieldAddr 1 (.p 1),none⟩,⟨.t 12,.load1 (.t 11),none⟩,⟨.t 13,.call F_goboref11_Set [.t 12],none⟩,⟨.p 2,.mov (.t 13),none⟩]) (.ret)) (.seq (.reg [⟨.t 15,.bin .eql (.p 4) (.c (.int .i64 3)),none⟩,
 ⟨.p 14,.mov (.t 15),none⟩]) (.cond (.p 14) (.seq (.dreg [⟨⟨.t 16,.fieldAddr 2 (.p 1),none⟩,false,false,[]⟩,⟨⟨.t 17,.load1 (.t 16),none⟩,false,false,[]⟩,⟨⟨.t 18,.idxAddr 3 (.t 17) (.c (.int .i64 0)),none⟩,false,false,[]⟩,
 ⟨⟨.t 19,.loadN 3 (.t 18),none⟩,false,false,[]⟩,⟨⟨.t 20,.call F_goboref11_re [.t 19],none⟩,true,false,[]⟩,⟨⟨.t 21,.fieldAddr 2 (.p 1),none⟩,false,false,[]⟩,⟨⟨.t 22,.load1 (.t 21),none⟩,false,false,[4]⟩,
 ⟨⟨.t 23,.idxAddr 3 (.t 22) (.c (.int .i64 0)),none⟩,false,false,[]⟩,⟨⟨.t 24,.fieldAddr 0 (.t 23),none⟩,false,false,[]⟩,⟨⟨.t 25,.load1 (.t 24),none⟩,false,false,[4]⟩,⟨⟨.t 26,.bin .eql (.t 25) (.c (.int .i64 4)),none⟩,false,false,[]⟩,
 ⟨⟨.t 27,.call F_goboref11_in [.t 20,.t 26],none⟩,true,false,[]⟩,⟨⟨.t 28,.fieldAddr 2 (.p 1),none⟩,false,false,[]⟩,⟨⟨.t 29,.load1 (.t 28),none⟩,false,false,[4,11]⟩,⟨⟨.t 30,.idxAddr 3 (.t 29) (.c (.int .i64 1)),none⟩,false,false,[]⟩,
 ⟨⟨.t 31,.loadN 3 (.t 30),none⟩,false,false,[4,11]⟩,⟨⟨.t 32,.call F_goboref11_re [.t 31],none⟩,true,false,[]⟩,⟨⟨.t 33,.fieldAddr 2 (.p 1),none⟩,false,false,[]⟩,⟨⟨.t 34,.load1 (.t 33),none⟩,false,false,[4,11,16]⟩,
 ⟨⟨.t 35,.idxAddr 3 (.t 34) (.c (.int .i64 1)),none⟩,false,false,[]⟩,⟨⟨.t 36,.fieldAddr 0 (.t 35),none⟩,false,false,[]⟩,⟨⟨.t 37,.load1 (.t 36),none⟩,false,false,[4,11,16]⟩,⟨⟨.t 38,.bin .eql (.t 37) (.c (.int .i64 4)),none⟩,false,false,[]⟩,
 ⟨⟨.t 39,.mov (.t 38),none⟩,false,false,[]⟩,⟨⟨.t 40,.fieldAddr 2 (.p 1),some (.t 39,false)⟩,false,false,[]⟩,⟨⟨.t 41,.load1 (.t 40),some (.t 39,false)⟩,false,false,[]⟩,⟨⟨.t 42,.idxAddr 3 (.t 41) (.c (.int .i64 1)),some (.t 39,false)⟩,false,false,[]⟩,
 ⟨⟨.t 43,.fieldAddr 0 (.t 42),some (.t 39,false)⟩,false,false,[]⟩,⟨⟨.t 44,.load1 (.t 43),some (.t 39,false)⟩,false,false,[]⟩,⟨⟨.t 45,.bin .eql (.t 44) (.c (.int .i64 3)),some (.t 39,false)⟩,false,false,[]⟩,
 ⟨⟨.t 46,.pick (.t 39) (.c (.bool true)) (.t 45),none⟩,false,false,[]⟩,⟨⟨.t 47,.call F_goboref11_in [.t 32,.t 46],none⟩,false,false,[]⟩,⟨⟨.t 48,.bin .add (.t 27) (.t 47),none⟩,false,false,[]⟩,
 ⟨⟨.p 2,.mov (.t 48),none⟩,false,false,[]⟩]) (.ret)) (.seq (.reg [⟨.t 50,.bin .eql (.p 4) (.c (.int .i64 4)),none⟩,⟨.p 49,.mov (.t 50),none⟩]) (.cond (.p 49) (.seq (.dreg [⟨⟨.t 51,.fieldAddr 2 (.p 1),none⟩,false,false,[]⟩,
 ⟨⟨.t 52,.load1 (.t 51),none⟩,false,false,[]⟩,⟨⟨.t 53,.idxAddr 3 (.t 52) (.c (.int .i64 0)),none⟩,false,false,[]⟩,⟨⟨.t 54,.loadN 3 (.t 53),none⟩,false,false,[]⟩,⟨⟨.t 55,.call F_goboref11_re [.t 54],none⟩,true,false,[]⟩,
 ⟨⟨.t 56,.bin .add (.t 55) (.c (.str [124])),none⟩,false,false,[]⟩,⟨⟨.t 57,.fieldAddr 2 (.p 1),none⟩,false,false,[]⟩,⟨⟨.t 58,.load1 (.t 57),none⟩,false,false,[4]⟩,⟨⟨.t 59,.idxAddr 3 (.t 58) (.c (.int .i64 1)),none⟩,false,false,[]⟩,
 ⟨⟨.t 60,.loadN 3 (.t 59),none⟩,false,false,[4]⟩,⟨⟨.t 61,.call F_goboref11_re [.t 60],none⟩,true,false,[]⟩,⟨⟨.t 62,.fieldAddr 2 (.p 1),none⟩,false,false,[]⟩,⟨⟨.t 63,.load1 (.t 62),none⟩,false,false,[4,10]⟩,
 ⟨⟨.t 64,.idxAddr 3 (.t 63) (.c (.int .i64 1)),none⟩,false,false,[]⟩,⟨⟨.t 65,.fieldAddr 0 (.t 64),none⟩,false,false,[]⟩,⟨⟨.t 66,.load1 (.t 65),none⟩,false,false,[4,10]⟩,⟨⟨.t 67,.bin .eql (.t 66) (.c (.int .i64 4)),none⟩,false,false,[]⟩,
 ⟨⟨.t 68,.call F_goboref11_in [.t 61,.t 67],none⟩,false,false,[]⟩,⟨⟨.t 69,.bin .add (.t 56) (.t 68),none⟩,false,false,[]⟩,⟨⟨.p 2,.mov (.t 69),none⟩,false,false,[]⟩]) (.ret)) (.skip))))))))))))) (.seq (.dreg [⟨⟨.t 70,.fieldAddr 2 (.p 1),none⟩,false,false,[]⟩,
 ⟨⟨.t 71,.load1 (.t 70),none⟩,false,false,[]⟩,⟨⟨.t 72,.idxAddr 3 (.t 71) (.c (.int .i64 0)),none⟩,false,false,[]⟩,⟨⟨.t 73,.loadN 3 (.t 72),none⟩,false,false,[]⟩,⟨⟨.t 74,.call F_goboref11_re [.t 73],none⟩,true,false,[]⟩,
 ⟨⟨.t 75,.fieldAddr 2 (.p 1),none⟩,false,false,[]⟩,⟨⟨.t 76,.load1 (.t 75),none⟩,false,false,[4]⟩,⟨⟨.t 77,.idxAddr 3 (.t 76) (.c (.int .i64 0)),none⟩,false,false,[]⟩,⟨⟨.t 78,.fieldAddr 0 (.t 77),none⟩,false,false,[]⟩,
 ⟨⟨.t 79,.load1 (.t 78),none⟩,false,false,[4]⟩,⟨⟨.t 80,.bin .eql (.t 79) (.c (.int .i64 3)),none⟩,false,false,[]⟩,⟨⟨.t 81,.mov (.t 80),none⟩,false,false,[]⟩,⟨⟨.t 82,.fieldAddr 2 (.p 1),some (.t 81,false)⟩,false,false,[]⟩,
 ⟨⟨.t 83,.load1 (.t 82),some (.t 81,false)⟩,false,false,[]⟩,⟨⟨.t 84,.idxAddr 3 (.t 83) (.c (.int .i64 0)),some (.t 81,false)⟩,false,false,[]⟩,⟨⟨.t 85,.fieldAddr 0 (.t 84),some (.t 81,false)⟩,false,false,[]⟩,
 ⟨⟨.t 86,.load1 (.t 85),some (.t 81,false)⟩,false,false,[]⟩,⟨⟨.t 87,.bin .eql (.t 86) (.c (.int .i64 4)),some (.t 81,false)⟩,false,false,[]⟩,⟨⟨.t 88,.pick (.t 81) (.c (.bool true)) (.t 87),none⟩,false,false,[]⟩,
 ⟨⟨.t 89,.call F_goboref11_in [.t 74,.t 88],none⟩,false,false,[]⟩,⟨⟨.t 90,.bin .add (.t 89) (.c (.str [42])),none⟩,false,false,[]⟩,⟨⟨.p 2,.mov (.t 90),none⟩,false,false,[]⟩]) (.ret)))
def cf_goboref11_re : CFunc :=
{ nargs := 1,ps := [0,1,2,4,5,7,9,14,49],results := [.slot 2],body := bd_goboref11_re }
def bd_word_Caught : CCode :=
 .seq (.reg [⟨.p 2,.alloc [.int .i64 0,.int .i64 0],none⟩]) (.seq (.reg [⟨.t 3,.mkFn F_word_Caught_1 [.p 2],none⟩,⟨.no,.dfr (.t 3) [],none⟩]) (.seq (.reg [⟨.t 4,.mov (.p 0),none⟩,⟨.t 5,.callV (.t 4) [],none⟩]) (.seq (.reg [⟨.t 6,.build [.int .i64 0,.int .i64 0] [],none⟩,
 ⟨.no,.store 2 (.p 2) (.t 6),none⟩]) (.ret))))
def cf_word_Caught : CFunc :=
{ nargs := 1,ps := [0,2],results := [.cellN 2 2],body := bd_word_Caught }
def bd_parse_Re_1 : CCode :=
 .seq (.reg [⟨.t 3,.load1 (.p 0),none⟩,⟨.t 4,.call F_word_Read [.t 3],none⟩,⟨.t 5,.build [.nilp,.int .i64 0] [(0,1,.t 4)],none⟩,⟨.t 6,.box (.t 5),none⟩,⟨.p 2,.mov (.t 6),none⟩]) (.seq (.reg [⟨.t 7,.mov (.p 2),none⟩,
 ⟨.t 8,.call F_parse_regex_all [.t 7],none⟩,⟨.no,.store 3 (.p 1) (.t 8),none⟩]) (.seq (.reg [⟨.t 9,.mov (.p 2),none⟩,⟨.t 10,.nilCheck (.t 9),none⟩,⟨.t 11,.fieldAddr 0 (.t 10),none⟩,
 ⟨.t 12,.load1 (.t 11),none⟩,⟨.t 13,.call F_word_Reader_Peek [.t 12],none⟩,⟨.p 14,.bin .neq (.t 13) (.c (.int .i32 (-1))),none⟩]) (.cond (.p 14) (.reg [⟨.t 15,.mov (.p 2),none⟩,⟨.t 16,.nilCheck (.t 15),none⟩,
 ⟨.t 17,.fieldAddr 0 (.t 16),none⟩,⟨.t 18,.load1 (.t 17),none⟩,⟨.t 19,.call F_word_Reader_At [.t 18],none⟩,⟨.t 20,.call F_word_Fail [.c (.int .i64 3),.t 19],none⟩]) (.skip))))
def cf_parse_Re_1 : CFunc :=
{ nargs := 2,ps := [0,1,2,14],results := [],body := bd_parse_Re_1 }
def bd_word_Read : CCode :=
 .seq (.reg [⟨.p 2,.mov (.c (.nilp)),none⟩]) (.seq (.reg [⟨.t 3,.mov (.p 0),none⟩,⟨.t 4,.strBytes (.t 3),none⟩,⟨.t 5,.call F_decode_All [.t 4],none⟩,⟨.t 6,.mov (.p 0),none⟩,⟨.t 7,.lenStr (.t 6),none⟩,
 ⟨.t 8,.build [.nils,.int .i64 0,.int .i64 0] [(0,1,.t 5),(2,1,.t 7)],none⟩,⟨.t 9,.box (.t 8),none⟩,⟨.p 2,.mov (.t 9),none⟩]) (.ret))
def cf_word_Read : CFunc :=
{ nargs := 1,ps := [0,2],results := [.slot 2],body := bd_word_Read }
def lb_parse_regex_all_0 : CCode :=
 .seq (.seq (.reg [⟨.t 6,.mov (.p 0),none⟩,⟨.t 7,.nilCheck (.t 6),none⟩,⟨.t 8,.fieldAddr 0 (.t 7),none⟩,⟨.t 9,.load1 (.t 8),none⟩,⟨.p 10,.call F_word_Reader_Skip [.t 9,.c (.int .i32 124)],none⟩]) (.cond (.p 10) (.skip) (.exit 0))) (.block 1 [0,2,3] (.dreg [⟨⟨.t 11,.loadN 3 (.p 3),none⟩,true,false,[]⟩,
 ⟨⟨.t 12,.mov (.p 0),none⟩,false,false,[]⟩,⟨⟨.t 13,.call F_parse_regex_row [.t 12],none⟩,false,false,[0]⟩,⟨⟨.t 14,.call F_parse_two [.c (.int .i64 4),.t 11,.t 13],none⟩,false,false,[]⟩,
 ⟨⟨.no,.store 3 (.p 3) (.t 14),none⟩,false,false,[]⟩]))
def bd_parse_regex_all : CCode :=
 .seq (.reg [⟨.p 2,.alloc [.int .i64 0,.nils,.nils],none⟩]) (.seq (.reg [⟨.t 4,.mov (.p 0),none⟩,⟨.t 5,.call F_parse_regex_row [.t 4],none⟩,⟨.p 3,.alloc [.int .i64 0,.nils,.nils],none⟩,
 ⟨.no,.store 3 (.p 3) (.t 5),none⟩]) (.seq (.block 0 [2,3] (.loop [0,2,3] lb_parse_regex_all_0)) (.seq (.reg [⟨.t 15,.loadN 3 (.p 3),none⟩,⟨.no,.store 3 (.p 2) (.t 15),none⟩]) (.ret))))
def cf_parse_regex_all : CFunc :=
{ nargs := 1,ps := [0,2,3,10],results := [.cellN 2 3],body := bd_parse_regex_all }
def bd_word_Reader_Peek : CCode :=
 .seq (.reg [⟨.p 2,.mov (.c (.int .i32 0)),none⟩]) (.seq (.block 0 [0] (.seq (.dreg [⟨⟨.t 4,.mov (.p 0),none⟩,false,false,[]⟩,⟨⟨.t 5,.nilCheck (.t 4),none⟩,false,false,[]⟩,⟨⟨.t 6,.fieldAddr 1 (.t 5),none⟩,false,false,[]⟩,
 ⟨⟨.t 7,.load1 (.t 6),none⟩,false,false,[]⟩,⟨⟨.t 8,.mov (.p 0),none⟩,false,false,[]⟩,⟨⟨.t 9,.nilCheck (.t 8),none⟩,false,false,[]⟩,⟨⟨.t 10,.fieldAddr 0 (.t 9),none⟩,false,false,[]⟩,
 ⟨⟨.t 11,.load1 (.t 10),none⟩,false,false,[]⟩,⟨⟨.t 12,.lenSl (.t 11),none⟩,false,false,[]⟩,⟨⟨.t 13,.bin .eql (.t 7) (.t 12),none⟩,false,false,[]⟩,⟨⟨.p 3,.mov (.t 13),none⟩,false,false,[]⟩]) (.cond (.p 3) (.seq (.reg [⟨.p 2,.mov (.c (.int .i32 (-1))),none⟩]) (.ret)) (.seq (.dreg [⟨⟨.t 15,.mov (.p 0),none⟩,false,false,[]⟩,
 ⟨⟨.t 16,.nilCheck (.t 15),none⟩,false,false,[]⟩,⟨⟨.t 17,.fieldAddr 0 (.t 16),none⟩,false,false,[]⟩,⟨⟨.t 18,.load1 (.t 17),none⟩,false,false,[]⟩,⟨⟨.t 19,.mov (.p 0),none⟩,false,false,[]⟩,
 ⟨⟨.t 20,.nilCheck (.t 19),none⟩,false,false,[]⟩,⟨⟨.t 21,.fieldAddr 1 (.t 20),none⟩,false,false,[]⟩,⟨⟨.t 22,.load1 (.t 21),none⟩,false,false,[]⟩,⟨⟨.t 23,.idxAddr 5 (.t 18) (.t 22),none⟩,false,false,[]⟩,
 ⟨⟨.t 24,.fieldAddr 3 (.t 23),none⟩,false,false,[]⟩,⟨⟨.t 25,.load1 (.t 24),none⟩,false,false,[]⟩,⟨⟨.p 14,.mov (.t 25),none⟩,false,false,[]⟩]) (.cond (.p 14) (.seq (.reg [⟨.p 2,.mov (.c (.int .i32 (-2))),none⟩]) (.ret)) (.skip)))))) (.seq (.dreg [⟨⟨.t 26,.mov (.p 0),none⟩,false,false,[]⟩,
 ⟨⟨.t 27,.nilCheck (.t 26),none⟩,false,false,[]⟩,⟨⟨.t 28,.fieldAddr 0 (.t 27),none⟩,false,false,[]⟩,⟨⟨.t 29,.load1 (.t 28),none⟩,false,false,[]⟩,⟨⟨.t 30,.mov (.p 0),none⟩,false,false,[]⟩,
 ⟨⟨.t 31,.nilCheck (.t 30),none⟩,false,false,[]⟩,⟨⟨.t 32,.fieldAddr 1 (.t 31),none⟩,false,false,[]⟩,⟨⟨.t 33,.load1 (.t 32),none⟩,false,false,[]⟩,⟨⟨.t 34,.idxAddr 5 (.t 29) (.t 33),none⟩,false,false,[]⟩,
 ⟨⟨.t 35,.fieldAddr 0 (.t 34),none⟩,false,false,[]⟩,⟨⟨.t 36,.load1 (.t 35),none⟩,false,false,[]⟩,⟨⟨.p 2,.mov (.t 36),none⟩,false,false,[]⟩]) (.ret)))
def cf_word_Reader_Peek : CFunc :=
{ nargs := 1,ps := [0,2,3,14],results := [.slot 2],body := bd_word_Reader_Peek }
def bd_word_Fail : CCode :=
 .reg [⟨.t 4,.mov (.p 0),none⟩,⟨.t 5,.mov (.p 1),none⟩,⟨.t 6,.build [.int .i64 0,.int .i64 0] [(0,1,.t 4),(1,1,.t 5)],none⟩,⟨.t 7,.mkIface T_word_Fault (.t 6),none⟩,⟨.no,.panic (.t 7),none⟩]
def cf_word_Fail : CFunc :=
{ nargs := 2,ps := [0,1],results := [],body := bd_word_Fail }
def bd_word_Reader_At : CCode :=
 .seq (.reg [⟨.p 2,.mov (.c (.int .i64 0)),none⟩]) (.seq (.seq (.dreg [⟨⟨.t 3,.mov (.p 0),none⟩,false,false,[]⟩,⟨⟨.t 4,.nilCheck (.t 3),none⟩,false,false,[]⟩,⟨⟨.t 5,.fieldAddr 1 (.t 4),none⟩,false,false,[]⟩,
 ⟨⟨.t 6,.load1 (.t 5),none⟩,false,false,[]⟩,⟨⟨.t 7,.mov (.p 0),none⟩,false,false,[]⟩,⟨⟨.t 8,.nilCheck (.t 7),none⟩,false,false,[]⟩,⟨⟨.t 9,.fieldAddr 0 (.t 8),none⟩,false,false,[]⟩,⟨⟨.t 10,.load1 (.t 9),none⟩,false,false,[]⟩,
 ⟨⟨.t 11,.lenSl (.t 10),none⟩,false,false,[]⟩,⟨⟨.p 12,.bin .eql (.t 6) (.t 11),none⟩,false,false,[]⟩]) (.cond (.p 12) (.seq (.reg [⟨.t 13,.mov (.p 0),none⟩,⟨.t 14,.nilCheck (.t 13),none⟩,
 ⟨.t 15,.fieldAddr 2 (.t 14),none⟩,⟨.t 16,.load1 (.t 15),none⟩,⟨.p 2,.mov (.t 16),none⟩]) (.ret)) (.skip))) (.seq (.dreg [⟨⟨.t 17,.mov (.p 0),none⟩,false,false,[]⟩,⟨⟨.t 18,.nilCheck (.t 17),none⟩,false,false,[]⟩,
 ⟨⟨.t 19,.fieldAddr 0 (.t 18),none⟩,false,false,[]⟩,⟨⟨.t 20,.load1 (.t 19),none⟩,false,false,[]⟩,⟨⟨.t 21,.mov (.p 0),none⟩,false,false,[]⟩,⟨⟨.t 22,.nilCheck (.t 21),none⟩,false,false,[]⟩,
 ⟨⟨.t 23,.fieldAddr 1 (.t 22),none⟩,false,false,[]⟩,⟨⟨.t 24,.load1 (.t 23),none⟩,false,false,[]⟩,⟨⟨.t 25,.idxAddr 5 (.t 20) (.t 24),none⟩,false,false,[]⟩,⟨⟨.t 26,.fieldAddr 1 (.t 25),none⟩,false,false,[]⟩,
 ⟨⟨.t 27,.load1 (.t 26),none⟩,false,false,[]⟩,⟨⟨.p 2,.mov (.t 27),none⟩,false,false,[]⟩]) (.ret)))
def cf_word_Reader_At : CFunc :=
{ nargs := 1,ps := [0,2,12],results := [.slot 2],body := bd_word_Reader_At }
def lb_goboref3_Same_0 : CCode :=
 .seq (.seq (.reg [⟨.t 11,.mov (.p 5),none⟩,⟨.t 12,.mov (.p 0),none⟩,⟨.t 13,.lenSl (.t 12),none⟩,⟨.p 14,.bin .lss (.t 11) (.t 13),none⟩]) (.cond (.p 14) (.skip) (.exit 0))) (.seq (.block 1 [0,1,5] (.seq (.dreg [⟨⟨.t 17,.mov (.p 0),none⟩,false,false,[]⟩,
 ⟨⟨.t 18,.mov (.p 5),none⟩,false,false,[]⟩,⟨⟨.t 19,.idxAddr 2 (.t 17) (.t 18),none⟩,false,false,[]⟩,⟨⟨.t 20,.loadN 2 (.t 19),none⟩,false,false,[]⟩,⟨⟨.t 21,.mov (.p 1),none⟩,false,false,[]⟩,
 ⟨⟨.t 22,.mov (.p 5),none⟩,false,false,[]⟩,⟨⟨.t 23,.idxAddr 2 (.t 21) (.t 22),none⟩,false,false,[]⟩,⟨⟨.t 24,.loadN 2 (.t 23),none⟩,false,false,[]⟩,⟨⟨.p 25,.eqv true (.agg [(0,.i),(1,.i)]) (.t 20) (.t 24),none⟩,false,false,[]⟩]) (.cond (.p 25) (.seq (.reg [⟨.p 4,.mov (.c (.bool false)),none⟩]) (.ret)) (.skip)))) (.reg [⟨.t 15,.mov (.p 5),none⟩,
 ⟨.t 16,.bin .add (.t 15) (.c (.int .i64 1)),none⟩,⟨.p 5,.mov (.t 16),none⟩]))
def bd_goboref3_Same : CCode :=
 .seq (.reg [⟨.p 4,.mov (.c (.bool false)),none⟩]) (.seq (.seq (.reg [⟨.t 6,.mov (.p 0),none⟩,⟨.t 7,.lenSl (.t 6),none⟩,⟨.t 8,.mov (.p 1),none⟩,⟨.t 9,.lenSl (.t 8),none⟩,⟨.p 10,.bin .neq (.t 7) (.t 9),none⟩]) (.cond (.p 10) (.seq (.reg [⟨.p 4,.mov (.c (.bool false)),none⟩]) (.ret)) (.skip))) (.seq (.seq (.reg [⟨.p 5,.mov (.c (.int .i64 0)),none⟩]) (.block 0 [] (.loop [0,1,5] lb_goboref3_Same_0))) (.seq (.reg [⟨.p 4,.mov (.c (.bool true)),none⟩]) (.ret))))
def cf_goboref3_Same : CFunc :=
{ nargs := 2,ps := [0,1,4,5,10,14,25],results := [.slot 4],body := bd_goboref3_Same }
def bd_parse_Source : CCode :=
 .seq (.reg [⟨.p 2,.alloc [.nils,.nils],none⟩,⟨.p 3,.mov (.c (.int .i64 0)),none⟩,⟨.p 4,.mov (.c (.int .i64 0)),none⟩]) (.seq (.reg [⟨.t 11,.mov (.p 0),none⟩,⟨.t 12,.call F_word_All [.t 11],none⟩,
 ⟨.t 10,.mov (.t 12),none⟩,⟨.t 13,.extract (.t 10) 0,none⟩,⟨.t 14,.extract (.t 10) 1,none⟩,⟨.t 15,.extract (.t 10) 2,none⟩,⟨.p 5,.alloc [.nils],none⟩,⟨.no,.store 1 (.p 5) (.t 13),none⟩,
 ⟨.p 6,.mov (.t 14),none⟩,⟨.p 7,.mov (.t 15),none⟩]) (.seq (.seq (.reg [⟨.t 16,.mov (.p 6),none⟩,⟨.p 17,.bin .neq (.t 16) (.c (.int .i64 0)),none⟩]) (.cond (.p 17) (.seq (.reg [⟨.t 18,.build [.nils,.nils] [],none⟩,
 ⟨.t 19,.mov (.p 6),none⟩,⟨.t 20,.mov (.p 7),none⟩,⟨.no,.store 2 (.p 2) (.t 18),none⟩,⟨.p 3,.mov (.t 19),none⟩,⟨.p 4,.mov (.t 20),none⟩]) (.ret)) (.skip))) (.seq (.reg [⟨.t 21,.load1 (.p 5),none⟩,
 ⟨.t 22,.mov (.p 0),none⟩,⟨.t 23,.lenStr (.t 22),none⟩,⟨.t 24,.build [.nils,.int .i64 0,.int .i64 0,.int .i64 0,.nils,.nils,.nils,.nils] [(0,1,.t 21),(2,1,.t 23)],none⟩,⟨.t 25,.box (.t 24),none⟩,
 ⟨.p 8,.alloc [.nilp],none⟩,⟨.no,.store 1 (.p 8) (.t 25),none⟩]) (.seq (.reg [⟨.t 26,.mkFn F_parse_Source_1 [.p 8,.p 5],none⟩,⟨.t 27,.call F_word_Caught [.t 26],none⟩,⟨.p 9,.alloc [.int .i64 0,.int .i64 0],none⟩,
 ⟨.no,.store 2 (.p 9) (.t 27),none⟩]) (.seq (.seq (.reg [⟨.t 28,.fieldAddr 0 (.p 9),none⟩,⟨.t 29,.load1 (.t 28),none⟩,⟨.p 30,.bin .neq (.t 29) (.c (.int .i64 0)),none⟩]) (.cond (.p 30) (.seq (.dreg [⟨⟨.t 31,.build [.nils,.nils] [],none⟩,false,false,[]⟩,
 ⟨⟨.t 32,.fieldAddr 0 (.p 9),none⟩,false,false,[]⟩,⟨⟨.t 33,.load1 (.t 32),none⟩,true,false,[]⟩,⟨⟨.t 34,.fieldAddr 1 (.p 9),none⟩,false,false,[]⟩,⟨⟨.t 35,.load1 (.t 34),none⟩,true,false,[]⟩,
 ⟨⟨.no,.store 2 (.p 2) (.t 31),none⟩,false,false,[2,4]⟩,⟨⟨.p 3,.mov (.t 33),none⟩,false,false,[]⟩,⟨⟨.p 4,.mov (.t 35),none⟩,false,false,[]⟩]) (.ret)) (.skip))) (.seq (.reg [⟨.t 36,.load1 (.p 8),none⟩,
 ⟨.t 37,.nilCheck (.t 36),none⟩,⟨.t 38,.fieldAddr 4 (.t 37),none⟩,⟨.t 39,.loadN 2 (.t 38),none⟩,⟨.no,.store 2 (.p 2) (.t 39),none⟩,⟨.p 3,.mov (.c (.int .i64 0)),none⟩,⟨.p 4,.mov (.c (.int .i64 0)),none⟩]) (.ret)))))))
def cf_parse_Source : CFunc :=
{ nargs := 1,ps := [0,2,3,4,5,6,7,8,9,17,30],results := [.cellN 2 2,.slot 3,.slot 4],body := bd_parse_Source }
def bd_goboref6_Count : CCode :=
 .seq (.reg [⟨.p 1,.box (.p 0),none⟩,⟨.p 2,.mov (.c (.int .i64 0)),none⟩,⟨.p 3,.mov (.c (.int .i64 0)),none⟩]) (.seq (.reg [⟨.t 4,.loadN 3 (.p 1),none⟩,⟨.t 5,.call F_goboref6_count [.t 4,.c (.int .i64 0)],none⟩,
 ⟨.t 6,.extract (.t 5) 0,none⟩,⟨.t 7,.extract (.t 5) 1,none⟩,⟨.p 2,.mov (.t 6),none⟩,⟨.p 3,.mov (.t 7),none⟩]) (.ret))
def cf_goboref6_Count : CFunc :=
{ nargs := 1,ps := [0,1,2,3],results := [.slot 2,.slot 3],body := bd_goboref6_Count }
def lb_goboref6_parts_0 : CCode :=
 .seq (.seq (.reg [⟨.t 49,.mov (.p 4),none⟩,⟨.t 50,.mov (.p 3),none⟩,⟨.p 51,.bin .lss (.t 49) (.t 50),none⟩]) (.cond (.p 51) (.skip) (.exit 1))) (.seq (.block 2 [1,3,4] (.seq (.reg [⟨.t 54,.fieldAddr 2 (.p 1),none⟩,
 ⟨.t 55,.load1 (.t 54),none⟩,⟨.t 56,.mov (.p 4),none⟩,⟨.t 57,.idxAddr 3 (.t 55) (.t 56),none⟩,⟨.t 58,.loadN 3 (.t 57),none⟩,⟨.t 59,.call F_goboref6_parts [.t 58],none⟩,⟨.p 60,.un .not (.t 59),none⟩]) (.cond (.p 60) (.seq (.reg [⟨.p 2,.mov (.c (.bool false)),none⟩]) (.ret)) (.skip)))) (.reg [⟨.t 52,.mov (.p 4),none⟩,
 ⟨.t 53,.bin .add (.t 52) (.c (.int .i64 1)),none⟩,⟨.p 4,.mov (.t 53),none⟩]))
def bd_goboref6_parts : CCode :=
 .seq (.reg [⟨.p 1,.box (.p 0),none⟩,⟨.p 2,.mov (.c (.bool false)),none⟩]) (.seq (.reg [⟨.p 3,.mov (.c (.int .i64 0)),none⟩]) (.seq (.seq (.reg [⟨.t 5,.fieldAddr 0 (.p 1),none⟩,⟨.p 6,.load1 (.t 5),none⟩]) (.block 0 [1,3] (.seq (.seq (.reg [⟨.t 8,.bin .eql (.p 6) (.c (.int .i64 0)),none⟩,
 ⟨.p 7,.mov (.t 8),none⟩]) (.cond (.p 7) (.skip) (.reg [⟨.t 9,.bin .eql (.p 6) (.c (.int .i64 1)),none⟩,⟨.p 7,.mov (.t 9),none⟩]))) (.cond (.p 7) (.skip) (.seq (.reg [⟨.t 11,.bin .eql (.p 6) (.c (.int .i64 2)),none⟩,
 ⟨.p 10,.mov (.t 11),none⟩]) (.cond (.p 10) (.seq (.reg [⟨.t 12,.fieldAddr 1 (.p 1),none⟩,⟨.t 13,.load1 (.t 12),none⟩,⟨.t 14,.lenSl (.t 13),none⟩,⟨.t 15,.bin .lss (.t 14) (.c (.int .i64 1)),none⟩,
 ⟨.t 16,.mov (.t 15),none⟩,⟨.t 17,.fieldAddr 1 (.p 1),some (.t 16,false)⟩,⟨.t 18,.load1 (.t 17),some (.t 16,false)⟩,⟨.t 19,.lenSl (.t 18),some (.t 16,false)⟩,⟨.t 20,.bin .gtr (.t 19) (.c (.int .i64 20)),some (.t 16,false)⟩,
 ⟨.t 21,.pick (.t 16) (.c (.bool true)) (.t 20),none⟩,⟨.t 22,.mov (.t 21),none⟩,⟨.t 23,.fieldAddr 1 (.p 1),some (.t 22,false)⟩,⟨.t 24,.load1 (.t 23),some (.t 22,false)⟩,⟨.t 25,.call F_goboref3_May [.t 24],some (.t 22,false)⟩,
 ⟨.t 26,.un .not (.t 25),some (.t 22,false)⟩,⟨.p 27,.pick (.t 22) (.c (.bool true)) (.t 26),none⟩]) (.cond (.p 27) (.seq (.reg [⟨.p 2,.mov (.c (.bool false)),none⟩]) (.ret)) (.skip))) (.seq (.seq (.reg [⟨.t 29,.bin .eql (.p 6) (.c (.int .i64 3)),none⟩,
 ⟨.p 28,.mov (.t 29),none⟩]) (.cond (.p 28) (.skip) (.reg [⟨.t 30,.bin .eql (.p 6) (.c (.int .i64 4)),none⟩,⟨.p 28,.mov (.t 30),none⟩]))) (.cond (.p 28) (.reg [⟨.p 3,.mov (.c (.int .i64 2)),none⟩]) (.seq (.reg [⟨.t 32,.bin .eql (.p 6) (.c (.int .i64 5)),none⟩,
 ⟨.p 31,.mov (.t 32),none⟩]) (.cond (.p 31) (.reg [⟨.p 3,.mov (.c (.int .i64 1)),none⟩]) (.seq (.reg [⟨.p 2,.mov (.c (.bool false)),none⟩]) (.ret)))))))))))) (.seq (.seq (.reg [⟨.t 33,.fieldAddr 2 (.p 1),none⟩,
 ⟨.t 34,.load1 (.t 33),none⟩,⟨.t 35,.lenSl (.t 34),none⟩,⟨.t 36,.mov (.p 3),none⟩,⟨.t 37,.bin .neq (.t 35) (.t 36),none⟩,⟨.t 38,.mov (.t 37),none⟩,⟨.t 39,.fieldAddr 0 (.p 1),some (.t 38,false)⟩,
 ⟨.t 40,.load1 (.t 39),some (.t 38,false)⟩,⟨.t 41,.bin .neq (.t 40) (.c (.int .i64 2)),some (.t 38,false)⟩,⟨.t 42,.mov (.t 41),some (.t 38,false)⟩,⟨.t 43,.fieldAddr 1 (.p 1),some (.t 42,true)⟩,
 ⟨.t 44,.load1 (.t 43),some (.t 42,true)⟩,⟨.t 45,.lenSl (.t 44),some (.t 42,true)⟩,⟨.t 46,.bin .gtr (.t 45) (.c (.int .i64 0)),some (.t 42,true)⟩,⟨.t 47,.pick (.t 42) (.t 46) (.c (.bool false)),some (.t 38,false)⟩,
 ⟨.p 48,.pick (.t 38) (.c (.bool true)) (.t 47),none⟩]) (.cond (.p 48) (.seq (.reg [⟨.p 2,.mov (.c (.bool false)),none⟩]) (.ret)) (.skip))) (.seq (.seq (.reg [⟨.p 4,.mov (.c (.int .i64 0)),none⟩]) (.block 1 [] (.loop [1,3,4] lb_goboref6_parts_0))) (.seq (.reg [⟨.p 2,.mov (.c (.bool true)),none⟩]) (.ret))))))
def cf_goboref6_parts : CFunc :=
{ nargs := 1,ps := [0,1,2,3,4,6,7,10,27,28,31,48,51,60],results := [.slot 2],body := bd_goboref6_parts }
def lb_goboref11_Set_0 : CCode :=
 .seq (.seq (.reg [⟨.t 24,.mov (.p 4),none⟩,⟨.t 25,.mov (.p 0),none⟩,⟨.t 26,.lenSl (.t 25),none⟩,⟨.p 27,.bin .lss (.t 24) (.t 26),none⟩]) (.cond (.p 27) (.skip) (.exit 0))) (.seq (.block 1 [0,3,4] (.seq (.reg [⟨.t 30,.mov (.p 3),none⟩,
 ⟨.t 31,.mov (.p 0),none⟩,⟨.t 32,.mov (.p 4),none⟩,⟨.t 33,.idxAddr 2 (.t 31) (.t 32),none⟩,⟨.t 34,.fieldAddr 0 (.t 33),none⟩,⟨.t 35,.load1 (.t 34),none⟩,⟨.t 36,.call F_goboref11_hex [.t 35],none⟩,
 ⟨.t 37,.bin .add (.t 30) (.t 36),none⟩,⟨.p 3,.mov (.t 37),none⟩]) (.seq (.dreg [⟨⟨.t 38,.mov (.p 0),none⟩,false,false,[]⟩,⟨⟨.t 39,.mov (.p 4),none⟩,false,false,[]⟩,⟨⟨.t 40,.idxAddr 2 (.t 38) (.t 39),none⟩,false,false,[]⟩,
 ⟨⟨.t 41,.fieldAddr 0 (.t 40),none⟩,false,false,[]⟩,⟨⟨.t 42,.load1 (.t 41),none⟩,false,false,[]⟩,⟨⟨.t 43,.mov (.p 0),none⟩,false,false,[]⟩,⟨⟨.t 44,.mov (.p 4),none⟩,false,false,[]⟩,
 ⟨⟨.t 45,.idxAddr 2 (.t 43) (.t 44),none⟩,false,false,[]⟩,⟨⟨.t 46,.fieldAddr 1 (.t 45),none⟩,false,false,[]⟩,⟨⟨.t 47,.load1 (.t 46),none⟩,false,false,[]⟩,⟨⟨.p 48,.bin .lss (.t 42) (.t 47),none⟩,false,false,[]⟩]) (.cond (.p 48) (.reg [⟨.t 49,.mov (.p 3),none⟩,
 ⟨.t 50,.bin .add (.t 49) (.c (.str [45])),none⟩,⟨.t 51,.mov (.p 0),none⟩,⟨.t 52,.mov (.p 4),none⟩,⟨.t 53,.idxAddr 2 (.t 51) (.t 52),none⟩,⟨.t 54,.fieldAddr 1 (.t 53),none⟩,⟨.t 55,.load1 (.t 54),none⟩,
 ⟨.t 56,.call F_goboref11_hex [.t 55],none⟩,⟨.t 57,.bin .add (.t 50) (.t 56),none⟩,⟨.p 3,.mov (.t 57),none⟩]) (.skip))))) (.reg [⟨.t 28,.mov (.p 4),none⟩,⟨.t 29,.bin .add (.t 28) (.c (.int .i64 1)),none⟩,
 ⟨.p 4,.mov (.t 29),none⟩]))
def bd_goboref11_Set : CCode :=
 .seq (.reg [⟨.p 2,.mov (.c (.str [])),none⟩]) (.seq (.seq (.dreg [⟨⟨.t 5,.mov (.p 0),none⟩,false,false,[]⟩,⟨⟨.t 6,.lenSl (.t 5),none⟩,false,false,[]⟩,⟨⟨.t 7,.bin .eql (.t 6) (.c (.int .i64 1)),none⟩,false,false,[]⟩,
 ⟨⟨.t 8,.mov (.t 7),none⟩,false,false,[]⟩,⟨⟨.t 9,.mov (.p 0),some (.t 8,true)⟩,false,false,[]⟩,⟨⟨.t 10,.idxAddr 2 (.t 9) (.c (.int .i64 0)),some (.t 8,true)⟩,false,false,[]⟩,⟨⟨.t 11,.fieldAddr 0 (.t 10),some (.t 8,true)⟩,false,false,[]⟩,
 ⟨⟨.t 12,.load1 (.t 11),some (.t 8,true)⟩,false,false,[]⟩,⟨⟨.t 13,.mov (.p 0),some (.t 8,true)⟩,false,false,[]⟩,⟨⟨.t 14,.idxAddr 2 (.t 13) (.c (.int .i64 0)),some (.t 8,true)⟩,false,false,[]⟩,
 ⟨⟨.t 15,.fieldAddr 1 (.t 14),some (.t 8,true)⟩,false,false,[]⟩,⟨⟨.t 16,.load1 (.t 15),some (.t 8,true)⟩,false,false,[]⟩,⟨⟨.t 17,.bin .eql (.t 12) (.t 16),some (.t 8,true)⟩,false,false,[]⟩,
 ⟨⟨.p 18,.pick (.t 8) (.t 17) (.c (.bool false)),none⟩,false,false,[]⟩]) (.cond (.p 18) (.seq (.reg [⟨.t 19,.mov (.p 0),none⟩,⟨.t 20,.idxAddr 2 (.t 19) (.c (.int .i64 0)),none⟩,⟨.t 21,.fieldAddr 0 (.t 20),none⟩,
 ⟨.t 22,.load1 (.t 21),none⟩,⟨.t 23,.call F_goboref11_hex [.t 22],none⟩,⟨.p 2,.mov (.t 23),none⟩]) (.ret)) (.skip))) (.seq (.reg [⟨.p 3,.mov (.c (.str [91])),none⟩]) (.seq (.seq (.reg [⟨.p 4,.mov (.c (.int .i64 0)),none⟩]) (.block 0 [3] (.loop [0,3,4] lb_goboref11_Set_0))) (.seq (.reg [⟨.t 58,.mov (.p 3),none⟩,
 ⟨.t 59,.bin .add (.t 58) (.c (.str [93])),none⟩,⟨.p 2,.mov (.t 59),none⟩]) (.ret)))))
def cf_goboref11_Set : CFunc :=
{ nargs := 1,ps := [0,2,3,4,18,27,48],results := [.slot 2],body := bd_goboref11_Set }
def bd_goboref11_in : CCode :=
 .seq (.reg [⟨.p 4,.mov (.c (.str [])),none⟩]) (.seq (.seq (.reg [⟨.p 5,.mov (.p 1),none⟩]) (.cond (.p 5) (.seq (.reg [⟨.t 6,.mov (.p 0),none⟩,⟨.t 7,.bin .add (.c (.str [40])) (.t 6),none⟩,
 ⟨.t 8,.bin .add (.t 7) (.c (.str [41])),none⟩,⟨.p 4,.mov (.t 8),none⟩]) (.ret)) (.skip))) (.seq (.reg [⟨.t 9,.mov (.p 0),none⟩,⟨.p 4,.mov (.t 9),none⟩]) (.ret)))
def cf_goboref11_in : CFunc :=
{ nargs := 2,ps := [0,1,4,5],results := [.slot 4],body := bd_goboref11_in }
def bd_word_Caught_1 : CCode :=
 .seq (.reg [⟨.t 4,.recover,none⟩,⟨.p 1,.mov (.t 4),none⟩]) (.seq (.reg [⟨.t 5,.mov (.p 1),none⟩,⟨.p 6,.eqv true .iface (.t 5) (.c (.nili)),none⟩]) (.cond (.p 6) (.seq (.reg [⟨.t 8,.mov (.p 1),none⟩,
 ⟨.t 9,.assert T_word_Fault (some (.agg [.int .i64 0,.int .i64 0])) (.t 8),none⟩,⟨.t 7,.mov (.t 9),none⟩,⟨.t 10,.extract (.t 7) 0,none⟩,⟨.t 11,.extract (.t 7) 1,none⟩,⟨.p 2,.alloc [.int .i64 0,.int .i64 0],none⟩,
 ⟨.no,.store 2 (.p 2) (.t 10),none⟩,⟨.p 3,.mov (.t 11),none⟩]) (.seq (.seq (.reg [⟨.t 12,.mov (.p 3),none⟩,⟨.p 13,.un .not (.t 12),none⟩]) (.cond (.p 13) (.reg [⟨.t 14,.mov (.p 1),none⟩,
 ⟨.no,.panic (.t 14),none⟩]) (.skip))) (.reg [⟨.t 15,.loadN 2 (.p 2),none⟩,⟨.no,.store 2 (.p 0) (.t 15),none⟩]))) (.skip)))
def cf_word_Caught_1 : CFunc :=
{ nargs := 1,ps := [0,1,2,3,6,13],results := [],body := bd_word_Caught_1 }
def bd_decode_All : CCode :=
 .seq (.reg [⟨.p 2,.mov (.c (.nils)),none⟩]) (.seq (.reg [⟨.t 4,.call F_decode_New [],none⟩,⟨.p 3,.mov (.t 4),none⟩]) (.seq (.reg [⟨.t 5,.mov (.p 3),none⟩,⟨.t 6,.mov (.p 0),none⟩,⟨.t 7,.call F_decode_Dec_Feed [.t 5,.t 6],none⟩,
 ⟨.t 8,.mov (.p 3),none⟩,⟨.t 9,.call F_decode_Dec_Close [.t 8],none⟩,⟨.t 10,.append 5 32 (.t 7) (.t 9),none⟩,⟨.p 2,.mov (.t 10),none⟩]) (.ret)))
def cf_decode_All : CFunc :=
{ nargs := 1,ps := [0,2,3],results := [.slot 2],body := bd_decode_All }
def lb_parse_regex_row_0 : CCode :=
 .seq (.seq (.reg [⟨.t 30,.mov (.p 0),none⟩,⟨.t 31,.nilCheck (.t 30),none⟩,⟨.t 32,.fieldAddr 0 (.t 31),none⟩,⟨.t 33,.load1 (.t 32),none⟩,⟨.p 34,.call F_word_Reader_Skip [.t 33,.c (.int .i32 42)],none⟩]) (.cond (.p 34) (.skip) (.exit 2))) (.block 3 [0,2,3,4,6] (.reg [⟨.t 35,.loadN 3 (.p 6),none⟩,
 ⟨.t 36,.lit [.int .i64 0,.nils,.nils] 1 [(0,3,.t 35)],none⟩,⟨.t 37,.build [.int .i64 0,.nils,.nils] [(0,1,.c (.int .i64 5)),(2,1,.t 36)],none⟩,⟨.no,.store 3 (.p 6) (.t 37),none⟩]))
def lb_parse_regex_row_1 : CCode :=
 .seq (.seq (.reg [⟨.t 13,.mov (.p 5),none⟩,⟨.t 14,.bin .neq (.t 13) (.c (.int .i32 (-1))),none⟩,⟨.t 15,.mov (.t 14),none⟩,⟨.t 16,.mov (.p 5),some (.t 15,true)⟩,⟨.t 17,.bin .neq (.t 16) (.c (.int .i32 124)),some (.t 15,true)⟩,
 ⟨.t 18,.pick (.t 15) (.t 17) (.c (.bool false)),none⟩,⟨.t 19,.mov (.t 18),none⟩,⟨.t 20,.mov (.p 5),some (.t 19,true)⟩,⟨.t 21,.bin .neq (.t 20) (.c (.int .i32 41)),some (.t 19,true)⟩,
 ⟨.p 22,.pick (.t 19) (.t 21) (.c (.bool false)),none⟩]) (.cond (.p 22) (.skip) (.exit 0))) (.seq (.block 1 [0,2,3,4] (.seq (.reg [⟨.t 28,.mov (.p 0),none⟩,⟨.t 29,.call F_parse_regex_atom [.t 28],none⟩,
 ⟨.p 6,.alloc [.int .i64 0,.nils,.nils],none⟩,⟨.no,.store 3 (.p 6) (.t 29),none⟩]) (.seq (.block 2 [0,2,3,4,6] (.loop [0,2,3,4,6] lb_parse_regex_row_0)) (.seq (.seq (.reg [⟨.p 38,.mov (.p 4),none⟩]) (.cond (.p 38) (.reg [⟨.t 39,.loadN 3 (.p 3),none⟩,
 ⟨.t 40,.loadN 3 (.p 6),none⟩,⟨.t 41,.call F_parse_two [.c (.int .i64 3),.t 39,.t 40],none⟩,⟨.no,.store 3 (.p 6) (.t 41),none⟩]) (.skip))) (.reg [⟨.t 42,.loadN 3 (.p 6),none⟩,⟨.no,.store 3 (.p 3) (.t 42),none⟩,
 ⟨.p 4,.mov (.c (.bool true)),none⟩]))))) (.reg [⟨.t 23,.mov (.p 0),none⟩,⟨.t 24,.nilCheck (.t 23),none⟩,⟨.t 25,.fieldAddr 0 (.t 24),none⟩,⟨.t 26,.load1 (.t 25),none⟩,⟨.t 27,.call F_word_Reader_Peek [.t 26],none⟩,
 ⟨.p 5,.mov (.t 27),none⟩]))
def bd_parse_regex_row : CCode :=
 .seq (.reg [⟨.p 2,.alloc [.int .i64 0,.nils,.nils],none⟩]) (.seq (.reg [⟨.t 7,.build [.int .i64 0,.nils,.nils] [(0,1,.c (.int .i64 1))],none⟩,⟨.p 3,.alloc [.int .i64 0,.nils,.nils],none⟩,
 ⟨.no,.store 3 (.p 3) (.t 7),none⟩,⟨.p 4,.mov (.c (.bool false)),none⟩]) (.seq (.seq (.reg [⟨.t 8,.mov (.p 0),none⟩,⟨.t 9,.nilCheck (.t 8),none⟩,⟨.t 10,.fieldAddr 0 (.t 9),none⟩,⟨.t 11,.load1 (.t 10),none⟩,
 ⟨.t 12,.call F_word_Reader_Peek [.t 11],none⟩,⟨.p 5,.mov (.t 12),none⟩]) (.block 0 [2,3] (.loop [0,2,3,4,5] lb_parse_regex_row_1))) (.seq (.reg [⟨.t 43,.loadN 3 (.p 3),none⟩,⟨.no,.store 3 (.p 2) (.t 43),none⟩]) (.ret))))
def cf_parse_regex_row : CFunc :=
{ nargs := 1,ps := [0,2,3,4,5,6,22,34,38],results := [.cellN 2 3],body := bd_parse_regex_row }
def bd_word_Reader_Skip : CCode :=
 .seq (.reg [⟨.p 4,.mov (.c (.bool false)),none⟩]) (.seq (.seq (.reg [⟨.t 5,.mov (.p 0),none⟩,⟨.t 6,.call F_word_Reader_Peek [.t 5],none⟩,⟨.t 7,.mov (.p 1),none⟩,⟨.p 8,.bin .neq (.t 6) (.t 7),none⟩]) (.cond (.p 8) (.seq (.reg [⟨.p 4,.mov (.c (.bool false)),none⟩]) (.ret)) (.skip))) (.seq (.reg [⟨.t 9,.mov (.p 0),none⟩,
 ⟨.t 10,.nilCheck (.t 9),none⟩,⟨.t 11,.fieldAddr 1 (.t 10),none⟩,⟨.t 12,.load1 (.t 11),none⟩,⟨.t 13,.bin .add (.t 12) (.c (.int .i64 1)),none⟩,⟨.t 14,.nilCheck (.t 9),none⟩,⟨.t 15,.fieldAddr 1 (.t 14),none⟩,
 ⟨.no,.store 1 (.t 15) (.t 13),none⟩]) (.seq (.reg [⟨.p 4,.mov (.c (.bool true)),none⟩]) (.ret))))
def cf_word_Reader_Skip : CFunc :=
{ nargs := 2,ps := [0,1,4,8],results := [.slot 4],body := bd_word_Reader_Skip }
def bd_parse_two : CCode :=
 .seq (.reg [⟨.p 4,.box (.p 1),none⟩,⟨.p 5,.box (.p 2),none⟩,⟨.p 6,.alloc [.int .i64 0,.nils,.nils],none⟩]) (.seq (.reg [⟨.t 7,.mov (.p 0),none⟩,⟨.t 8,.loadN 3 (.p 4),none⟩,⟨.t 9,.loadN 3 (.p 5),none⟩,
 ⟨.t 10,.lit [.int .i64 0,.nils,.nils,.int .i64 0,.nils,.nils] 2 [(0,3,.t 8),(3,3,.t 9)],none⟩,⟨.t 11,.build [.int .i64 0,.nils,.nils] [(0,1,.t 7),(2,1,.t 10)],none⟩,⟨.no,.store 3 (.p 6) (.t 11),none⟩]) (.ret))
def cf_parse_two : CFunc :=
{ nargs := 3,ps := [0,1,2,4,5,6],results := [.cellN 6 3],body := bd_parse_two }
def lb_word_All_0 : CCode :=
 .seq (.reg [⟨.p 19,.bin .lss (.p 18) (.p 17),none⟩]) (.seq (.cond (.p 19) (.skip) (.exit 0)) (.seq (.block 1 [5,6,16,17,18] (.seq (.reg [⟨.t 20,.idxAddr 5 (.p 16) (.p 18),none⟩,⟨.t 21,.loadN 5 (.t 20),none⟩,
 ⟨.p 8,.alloc [.int .i32 0,.int .i64 0,.int .i64 0,.bool false,.bool false],none⟩,⟨.no,.store 5 (.p 8) (.t 21),none⟩]) (.seq (.reg [⟨.t 22,.fieldAddr 3 (.p 8),none⟩,⟨.t 23,.load1 (.t 22),none⟩,
 ⟨.t 24,.mov (.t 23),none⟩,⟨.t 25,.fieldAddr 0 (.p 6),some (.t 24,true)⟩,⟨.t 26,.load1 (.t 25),some (.t 24,true)⟩,⟨.t 27,.bin .eql (.t 26) (.c (.int .i64 0)),some (.t 24,true)⟩,⟨.t 28,.mov (.t 27),some (.t 24,true)⟩,
 ⟨.t 29,.fieldAddr 1 (.p 8),some (.t 28,false)⟩,⟨.t 30,.load1 (.t 29),some (.t 28,false)⟩,⟨.t 31,.fieldAddr 1 (.p 6),some (.t 28,false)⟩,⟨.t 32,.load1 (.t 31),some (.t 28,false)⟩,⟨.t 33,.bin .lss (.t 30) (.t 32),some (.t 28,false)⟩,
 ⟨.t 34,.pick (.t 28) (.c (.bool true)) (.t 33),some (.t 24,true)⟩,⟨.p 35,.pick (.t 24) (.t 34) (.c (.bool false)),none⟩]) (.cond (.p 35) (.seq (.reg [⟨.t 36,.fieldAddr 1 (.p 8),none⟩,
 ⟨.t 37,.load1 (.t 36),none⟩,⟨.t 38,.build [.int .i64 0,.int .i64 0] [(0,1,.c (.int .i64 2)),(1,1,.t 37)],none⟩,⟨.no,.store 2 (.p 6) (.t 38),none⟩]) (.exit 0)) (.skip))))) (.reg [⟨.t 39,.bin .add (.p 18) (.c (.int .i64 1)),none⟩,
 ⟨.p 18,.mov (.t 39),none⟩])))
def bd_word_All : CCode :=
 .seq (.reg [⟨.p 1,.box (.p 0),none⟩,⟨.p 2,.mov (.c (.nils)),none⟩,⟨.p 3,.mov (.c (.int .i64 0)),none⟩,⟨.p 4,.mov (.c (.int .i64 0)),none⟩]) (.seq (.seq (.reg [⟨.t 9,.load1 (.p 1),none⟩,
 ⟨.t 10,.lenStr (.t 9),none⟩,⟨.p 11,.bin .gtr (.t 10) (.c (.int .i64 4000)),none⟩]) (.cond (.p 11) (.seq (.reg [⟨.p 2,.mov (.c (.nils)),none⟩,⟨.p 3,.mov (.c (.int .i64 6)),none⟩,⟨.p 4,.mov (.c (.int .i64 0)),none⟩]) (.ret)) (.skip))) (.seq (.reg [⟨.p 5,.alloc [.nils],none⟩]) (.seq (.reg [⟨.t 12,.mkFn F_word_All_1 [.p 1,.p 5],none⟩,
 ⟨.t 13,.call F_word_Caught [.t 12],none⟩,⟨.p 6,.alloc [.int .i64 0,.int .i64 0],none⟩,⟨.no,.store 2 (.p 6) (.t 13),none⟩]) (.seq (.seq (.reg [⟨.t 14,.load1 (.p 1),none⟩,⟨.t 15,.strBytes (.t 14),none⟩,
 ⟨.p 16,.call F_decode_All [.t 15],none⟩,⟨.p 17,.lenSl (.p 16),none⟩,⟨.p 18,.mov (.c (.int .i64 0)),none⟩]) (.block 0 [5,6] (.loop [5,6,16,17,18] lb_word_All_0))) (.seq (.seq (.reg [⟨.t 40,.fieldAddr 0 (.p 6),none⟩,
 ⟨.t 41,.load1 (.t 40),none⟩,⟨.p 42,.bin .neq (.t 41) (.c (.int .i64 0)),none⟩]) (.cond (.p 42) (.seq (.dreg [⟨⟨.t 43,.fieldAddr 0 (.p 6),none⟩,false,false,[]⟩,⟨⟨.t 44,.load1 (.t 43),none⟩,false,false,[]⟩,
 ⟨⟨.t 45,.fieldAddr 1 (.p 6),none⟩,false,false,[]⟩,⟨⟨.t 46,.load1 (.t 45),none⟩,false,false,[]⟩,⟨⟨.p 2,.mov (.c (.nils)),none⟩,false,false,[]⟩,⟨⟨.p 3,.mov (.t 44),none⟩,false,false,[]⟩,
 ⟨⟨.p 4,.mov (.t 46),none⟩,false,false,[]⟩]) (.ret)) (.skip))) (.seq (.reg [⟨.t 47,.load1 (.p 5),none⟩,⟨.p 2,.mov (.t 47),none⟩,⟨.p 3,.mov (.c (.int .i64 0)),none⟩,⟨.p 4,.mov (.c (.int .i64 0)),none⟩]) (.ret)))))))
def cf_word_All : CFunc :=
{ nargs := 1,ps := [0,1,2,3,4,5,6,8,11,16,17,18,19,35,42],results := [.slot 2,.slot 3,.slot 4],body := bd_word_All }
def lb_parse_Source_1_0 : CCode :=
 .seq (.seq (.dreg [⟨⟨.t 4,.load1 (.p 0),none⟩,false,false,[]⟩,⟨⟨.t 5,.nilCheck (.t 4),none⟩,false,false,[]⟩,⟨⟨.t 6,.fieldAddr 1 (.t 5),none⟩,false,false,[]⟩,⟨⟨.t 7,.load1 (.t 6),none⟩,false,false,[]⟩,
 ⟨⟨.t 8,.load1 (.p 1),none⟩,false,false,[]⟩,⟨⟨.t 9,.lenSl (.t 8),none⟩,false,false,[]⟩,⟨⟨.p 10,.bin .lss (.t 7) (.t 9),none⟩,false,false,[]⟩]) (.cond (.p 10) (.skip) (.exit 0))) (.block 1 [0,1] (.seq (.reg [⟨.t 11,.load1 (.p 0),none⟩,
 ⟨.t 12,.call F_parse_source_peek [.t 11],none⟩,⟨.t 13,.field1 0 (.t 12),none⟩,⟨.p 14,.bin .eql (.t 13) (.c (.int .i64 5)),none⟩]) (.cond (.p 14) (.reg [⟨.t 15,.load1 (.p 0),none⟩,⟨.t 16,.nilCheck (.t 15),none⟩,
 ⟨.t 17,.fieldAddr 1 (.t 16),none⟩,⟨.t 18,.load1 (.t 17),none⟩,⟨.t 19,.bin .add (.t 18) (.c (.int .i64 1)),none⟩,⟨.t 20,.nilCheck (.t 15),none⟩,⟨.t 21,.fieldAddr 1 (.t 20),none⟩,⟨.no,.store 1 (.t 21) (.t 19),none⟩]) (.reg [⟨.t 22,.load1 (.p 0),none⟩,
 ⟨.t 23,.call F_parse_source_line [.t 22],none⟩]))))
def bd_parse_Source_1 : CCode :=
 .seq (.block 0 [0] (.loop [0,1] lb_parse_Source_1_0)) (.seq (.reg [⟨.t 25,.load1 (.p 0),none⟩,⟨.t 26,.nilCheck (.t 25),none⟩,⟨.t 27,.fieldAddr 4 (.t 26),none⟩,⟨.t 28,.loadN 2 (.t 27),none⟩,
 ⟨.t 29,.call F_gram_Check [.t 28],none⟩,⟨.t 24,.mov (.t 29),none⟩,⟨.t 30,.extract (.t 24) 0,none⟩,⟨.t 31,.extract (.t 24) 1,none⟩,⟨.p 2,.mov (.t 30),none⟩,⟨.p 3,.mov (.t 31),none⟩]) (.seq (.reg [⟨.t 32,.mov (.p 2),none⟩,
 ⟨.p 33,.bin .neq (.t 32) (.c (.int .i64 0)),none⟩]) (.cond (.p 33) (.reg [⟨.t 34,.mov (.p 2),none⟩,⟨.t 35,.load1 (.p 0),none⟩,⟨.t 36,.mov (.p 3),none⟩,⟨.t 37,.call F_parse_source_place [.t 35,.t 36],none⟩,
 ⟨.t 38,.call F_word_Fail [.t 34,.t 37],none⟩]) (.skip))))
def cf_parse_Source_1 : CFunc :=
{ nargs := 2,ps := [0,1,2,3,10,14,33],results := [],body := bd_parse_Source_1 }
def bd_parse_source_peek : CCode :=
 .seq (.reg [⟨.p 2,.alloc [.int .i64 0,.str [],.int .i64 0],none⟩]) (.seq (.seq (.dreg [⟨⟨.t 3,.mov (.p 0),none⟩,false,false,[]⟩,⟨⟨.t 4,.nilCheck (.t 3),none⟩,false,false,[]⟩,⟨⟨.t 5,.fieldAddr 1 (.t 4),none⟩,false,false,[]⟩,
 ⟨⟨.t 6,.load1 (.t 5),none⟩,false,false,[]⟩,⟨⟨.t 7,.mov (.p 0),none⟩,false,false,[]⟩,⟨⟨.t 8,.nilCheck (.t 7),none⟩,false,false,[]⟩,⟨⟨.t 9,.fieldAddr 0 (.t 8),none⟩,false,false,[]⟩,⟨⟨.t 10,.load1 (.t 9),none⟩,false,false,[]⟩,
 ⟨⟨.t 11,.lenSl (.t 10),none⟩,false,false,[]⟩,⟨⟨.p 12,.bin .eql (.t 6) (.t 11),none⟩,false,false,[]⟩]) (.cond (.p 12) (.seq (.reg [⟨.t 13,.mov (.p 0),none⟩,⟨.t 14,.nilCheck (.t 13),none⟩,
 ⟨.t 15,.fieldAddr 2 (.t 14),none⟩,⟨.t 16,.load1 (.t 15),none⟩,⟨.t 17,.build [.int .i64 0,.str [],.int .i64 0] [(2,1,.t 16)],none⟩,⟨.no,.store 3 (.p 2) (.t 17),none⟩]) (.ret)) (.skip))) (.seq (.dreg [⟨⟨.t 18,.mov (.p 0),none⟩,false,false,[]⟩,
 ⟨⟨.t 19,.nilCheck (.t 18),none⟩,false,false,[]⟩,⟨⟨.t 20,.fieldAddr 0 (.t 19),none⟩,false,false,[]⟩,⟨⟨.t 21,.load1 (.t 20),none⟩,false,false,[]⟩,⟨⟨.t 22,.mov (.p 0),none⟩,false,false,[]⟩,
 ⟨⟨.t 23,.nilCheck (.t 22),none⟩,false,false,[]⟩,⟨⟨.t 24,.fieldAddr 1 (.t 23),none⟩,false,false,[]⟩,⟨⟨.t 25,.load1 (.t 24),none⟩,false,false,[]⟩,⟨⟨.t 26,.idxAddr 3 (.t 21) (.t 25),none⟩,false,false,[]⟩,
 ⟨⟨.t 27,.loadN 3 (.t 26),none⟩,false,false,[]⟩,⟨⟨.no,.store 3 (.p 2) (.t 27),none⟩,false,false,[]⟩]) (.ret)))
def cf_parse_source_peek : CFunc :=
{ nargs := 1,ps := [0,2,12],results := [.cellN 2 3],body := bd_parse_source_peek }
def bd_parse_source_line : CCode :=
 .seq (.reg [⟨.t 4,.mov (.p 0),none⟩,⟨.t 5,.call F_parse_source_next [.t 4,.c (.int .i64 1)],none⟩,⟨.p 2,.alloc [.int .i64 0,.str [],.int .i64 0],none⟩,⟨.no,.store 3 (.p 2) (.t 5),none⟩]) (.seq (.reg [⟨.p 3,.mov (.c (.int .i64 0)),none⟩]) (.seq (.seq (.reg [⟨.t 6,.fieldAddr 1 (.p 2),none⟩,
 ⟨.p 7,.load1 (.t 6),none⟩]) (.block 0 [0,2,3] (.seq (.reg [⟨.t 12,.bin .eql (.p 7) (.c (.str [116,111,107])),none⟩,⟨.p 11,.mov (.t 12),none⟩]) (.cond (.p 11) (.reg [⟨.t 13,.mov (.p 0),none⟩,
 ⟨.t 14,.call F_parse_source_token [.t 13],none⟩]) (.seq (.reg [⟨.t 16,.bin .eql (.p 7) (.c (.str [114,117,108,101])),none⟩,⟨.p 15,.mov (.t 16),none⟩]) (.cond (.p 15) (.seq (.reg [⟨.p 3,.mov (.c (.int .i64 1)),none⟩]) (.reg [⟨.t 17,.mov (.p 0),none⟩,
 ⟨.t 18,.call F_parse_source_rule [.t 17],none⟩])) (.reg [⟨.t 8,.fieldAddr 2 (.p 2),none⟩,⟨.t 9,.load1 (.t 8),none⟩,⟨.t 10,.call F_word_Fail [.c (.int .i64 3),.t 9],none⟩]))))))) (.seq (.dreg [⟨⟨.t 19,.mov (.p 0),none⟩,false,false,[]⟩,
 ⟨⟨.t 20,.mov (.p 3),none⟩,false,false,[]⟩,⟨⟨.t 21,.mov (.p 0),none⟩,false,false,[]⟩,⟨⟨.t 22,.mov (.p 3),none⟩,false,false,[]⟩,⟨⟨.t 23,.nilCheck (.t 21),none⟩,false,false,[]⟩,⟨⟨.t 24,.fieldAddr 6 (.t 23),none⟩,false,false,[]⟩,
 ⟨⟨.t 25,.idxArr 2 1 (.t 24) (.t 22),none⟩,false,false,[]⟩,⟨⟨.t 26,.load1 (.t 25),none⟩,true,false,[]⟩,⟨⟨.t 27,.fieldAddr 2 (.p 2),none⟩,false,false,[]⟩,⟨⟨.t 28,.load1 (.t 27),none⟩,false,false,[]⟩,
 ⟨⟨.t 29,.lit [.int .i64 0] 1 [(0,1,.t 28)],none⟩,false,false,[7]⟩,⟨⟨.t 30,.append 1 8 (.t 26) (.t 29),none⟩,false,false,[]⟩,⟨⟨.t 31,.nilCheck (.t 19),none⟩,false,false,[]⟩,⟨⟨.t 32,.fieldAddr 6 (.t 31),none⟩,false,false,[]⟩,
 ⟨⟨.t 33,.idxArr 2 1 (.t 32) (.t 20),none⟩,false,false,[]⟩,⟨⟨.no,.store 1 (.t 33) (.t 30),none⟩,false,false,[]⟩]) (.seq (.dreg [⟨⟨.t 34,.mov (.p 0),none⟩,false,false,[]⟩,⟨⟨.t 35,.nilCheck (.t 34),none⟩,false,false,[]⟩,
 ⟨⟨.t 36,.fieldAddr 1 (.t 35),none⟩,false,false,[]⟩,⟨⟨.t 37,.load1 (.t 36),none⟩,false,false,[]⟩,⟨⟨.t 38,.mov (.p 0),none⟩,false,false,[]⟩,⟨⟨.t 39,.nilCheck (.t 38),none⟩,false,false,[]⟩,
 ⟨⟨.t 40,.fieldAddr 0 (.t 39),none⟩,false,false,[]⟩,⟨⟨.t 41,.load1 (.t 40),none⟩,false,false,[]⟩,⟨⟨.t 42,.lenSl (.t 41),none⟩,false,false,[]⟩,⟨⟨.p 43,.bin .lss (.t 37) (.t 42),none⟩,false,false,[]⟩]) (.cond (.p 43) (.reg [⟨.t 44,.mov (.p 0),none⟩,
 ⟨.t 45,.call F_parse_source_next [.t 44,.c (.int .i64 5)],none⟩]) (.skip))))))
def cf_parse_source_line : CFunc :=
{ nargs := 1,ps := [0,2,3,7,11,15,43],results := [],body := bd_parse_source_line }
def bd_gram_Check : CCode :=
 .seq (.reg [⟨.p 1,.box (.p 0),none⟩,⟨.p 2,.mov (.c (.int .i64 0)),none⟩,⟨.p 3,.mov (.c (.int .i64 0)),none⟩]) (.seq (.reg [⟨.t 5,.mkFn F_gram_Check_1 [.p 1],none⟩,⟨.t 6,.call F_gram_caught [.t 5],none⟩,
 ⟨.p 4,.alloc [.int .i64 0,.int .i64 0],none⟩,⟨.no,.store 2 (.p 4) (.t 6),none⟩]) (.seq (.dreg [⟨⟨.t 7,.fieldAddr 0 (.p 4),none⟩,false,false,[]⟩,⟨⟨.t 8,.load1 (.t 7),none⟩,false,false,[]⟩,
 ⟨⟨.t 9,.fieldAddr 1 (.p 4),none⟩,false,false,[]⟩,⟨⟨.t 10,.load1 (.t 9),none⟩,false,false,[]⟩,⟨⟨.p 2,.mov (.t 8),none⟩,false,false,[]⟩,⟨⟨.p 3,.mov (.t 10),none⟩,false,false,[]⟩]) (.ret)))
def cf_gram_Check : CFunc :=
{ nargs := 1,ps := [0,1,2,3,4],results := [.slot 2,.slot 3],body := bd_gram_Check }
def bd_parse_source_place : CCode :=
 .seq (.reg [⟨.p 4,.mov (.c (.int .i64 0)),none⟩]) (.seq (.dreg [⟨⟨.t 8,.mov (.p 0),none⟩,false,false,[]⟩,⟨⟨.t 9,.nilCheck (.t 8),none⟩,false,false,[]⟩,⟨⟨.t 10,.fieldAddr 6 (.t 9),none⟩,false,false,[]⟩,
 ⟨⟨.t 11,.idxArr 2 1 (.t 10) (.c (.int .i64 0)),none⟩,false,false,[]⟩,⟨⟨.t 12,.load1 (.t 11),none⟩,false,false,[]⟩,⟨⟨.t 13,.mov (.p 0),none⟩,false,false,[]⟩,⟨⟨.t 14,.nilCheck (.t 13),none⟩,false,false,[]⟩,
 ⟨⟨.t 15,.fieldAddr 6 (.t 14),none⟩,false,false,[]⟩,⟨⟨.t 16,.idxArr 2 1 (.t 15) (.c (.int .i64 1)),none⟩,false,false,[]⟩,⟨⟨.t 17,.load1 (.t 16),none⟩,false,false,[]⟩,⟨⟨.p 5,.mov (.t 12),none⟩,false,false,[]⟩,
 ⟨⟨.p 6,.mov (.t 17),none⟩,false,false,[]⟩]) (.seq (.reg [⟨.t 18,.mov (.p 5),none⟩,⟨.t 19,.lenSl (.t 18),none⟩,⟨.p 7,.mov (.t 19),none⟩]) (.block 0 [4] (.seq (.reg [⟨.t 27,.mov (.p 7),none⟩,
 ⟨.t 28,.bin .eql (.t 27) (.c (.int .i64 0)),none⟩,⟨.p 26,.mov (.t 28),none⟩]) (.cond (.p 26) (.seq (.reg [⟨.p 4,.mov (.c (.int .i64 0)),none⟩]) (.ret)) (.seq (.reg [⟨.t 30,.mov (.p 7),none⟩,
 ⟨.t 31,.bin .gtr (.t 30) (.c (.int .i64 16)),none⟩,⟨.p 29,.mov (.t 31),none⟩]) (.cond (.p 29) (.seq (.reg [⟨.t 32,.mov (.p 5),none⟩,⟨.t 33,.idxAddr 1 (.t 32) (.c (.int .i64 16)),none⟩,
 ⟨.t 34,.load1 (.t 33),none⟩,⟨.p 4,.mov (.t 34),none⟩]) (.ret)) (.seq (.reg [⟨.t 36,.mov (.p 1),none⟩,⟨.t 37,.mov (.p 7),none⟩,⟨.t 38,.bin .lss (.t 36) (.t 37),none⟩,⟨.p 35,.mov (.t 38),none⟩]) (.cond (.p 35) (.seq (.reg [⟨.t 39,.mov (.p 5),none⟩,
 ⟨.t 40,.mov (.p 1),none⟩,⟨.t 41,.idxAddr 1 (.t 39) (.t 40),none⟩,⟨.t 42,.load1 (.t 41),none⟩,⟨.p 4,.mov (.t 42),none⟩]) (.ret)) (.seq (.reg [⟨.t 44,.mov (.p 6),none⟩,⟨.t 45,.lenSl (.t 44),none⟩,
 ⟨.t 46,.bin .gtr (.t 45) (.c (.int .i64 8)),none⟩,⟨.t 47,.mov (.t 46),none⟩,⟨.t 48,.mov (.p 1),some (.t 47,true)⟩,⟨.t 49,.mov (.p 7),some (.t 47,true)⟩,⟨.t 50,.bin .eql (.t 48) (.t 49),some (.t 47,true)⟩,
 ⟨.t 51,.pick (.t 47) (.t 50) (.c (.bool false)),none⟩,⟨.p 43,.mov (.t 51),none⟩]) (.cond (.p 43) (.seq (.reg [⟨.t 52,.mov (.p 6),none⟩,⟨.t 53,.idxAddr 1 (.t 52) (.c (.int .i64 8)),none⟩,
 ⟨.t 54,.load1 (.t 53),none⟩,⟨.p 4,.mov (.t 54),none⟩]) (.ret)) (.seq (.reg [⟨.t 20,.mov (.p 6),none⟩,⟨.t 21,.mov (.p 1),none⟩,⟨.t 22,.mov (.p 7),none⟩,⟨.t 23,.bin .sub (.t 21) (.t 22),none⟩,
 ⟨.t 24,.idxAddr 1 (.t 20) (.t 23),none⟩,⟨.t 25,.load1 (.t 24),none⟩,⟨.p 4,.mov (.t 25),none⟩]) (.ret)))))))))))))
def cf_parse_source_place : CFunc :=
{ nargs := 2,ps := [0,1,4,5,6,7,26,29,35,43],results := [.slot 4],body := bd_parse_source_place }
def lb_goboref6_count_0 : CCode :=
 .seq (.seq (.reg [⟨.t 12,.mov (.p 7),none⟩,⟨.t 13,.fieldAddr 2 (.p 2),none⟩,⟨.t 14,.load1 (.t 13),none⟩,⟨.t 15,.lenSl (.t 14),none⟩,⟨.t 16,.bin .lss (.t 12) (.t 15),none⟩,⟨.t 17,.mov (.t 16),none⟩,
 ⟨.t 18,.mov (.p 1),some (.t 17,true)⟩,⟨.t 19,.bin .lss (.t 18) (.c (.int .i64 2000)),some (.t 17,true)⟩,⟨.p 20,.pick (.t 17) (.t 19) (.c (.bool false)),none⟩]) (.cond (.p 20) (.skip) (.exit 0))) (.seq (.block 1 [1,2,6,7] (.seq (.reg [⟨.t 24,.fieldAddr 2 (.p 2),none⟩,
 ⟨.t 25,.load1 (.t 24),none⟩,⟨.t 26,.mov (.p 7),none⟩,⟨.t 27,.idxAddr 3 (.t 25) (.t 26),none⟩,⟨.t 28,.loadN 3 (.t 27),none⟩,⟨.t 29,.call F_goboref6_count [.t 28,.c (.int .i64 0)],none⟩,
 ⟨.t 23,.mov (.t 29),none⟩,⟨.t 30,.extract (.t 23) 0,none⟩,⟨.t 31,.extract (.t 23) 1,none⟩,⟨.p 8,.mov (.t 30),none⟩,⟨.p 9,.mov (.t 31),none⟩]) (.reg [⟨.t 32,.mov (.p 1),none⟩,⟨.t 33,.mov (.p 8),none⟩,
 ⟨.t 34,.bin .add (.t 32) (.t 33),none⟩,⟨.t 35,.mov (.p 6),none⟩,⟨.t 36,.mov (.p 9),none⟩,⟨.t 37,.minmax true [.t 35,.t 36],none⟩,⟨.p 1,.mov (.t 34),none⟩,⟨.p 6,.mov (.t 37),none⟩]))) (.reg [⟨.t 21,.mov (.p 7),none⟩,
 ⟨.t 22,.bin .add (.t 21) (.c (.int .i64 1)),none⟩,⟨.p 7,.mov (.t 22),none⟩]))
def bd_goboref6_count : CCode :=
 .seq (.reg [⟨.p 2,.box (.p 0),none⟩,⟨.p 4,.mov (.c (.int .i64 0)),none⟩,⟨.p 5,.mov (.c (.int .i64 0)),none⟩]) (.seq (.reg [⟨.t 10,.mov (.p 1),none⟩,⟨.t 11,.bin .add (.t 10) (.c (.int .i64 1)),none⟩,
 ⟨.p 1,.mov (.t 11),none⟩,⟨.p 6,.mov (.c (.int .i64 0)),none⟩]) (.seq (.seq (.reg [⟨.p 7,.mov (.c (.int .i64 0)),none⟩]) (.block 0 [1,6] (.loop [1,2,6,7] lb_goboref6_count_0))) (.seq (.reg [⟨.t 38,.mov (.p 1),none⟩,
 ⟨.t 39,.mov (.p 6),none⟩,⟨.t 40,.bin .add (.t 39) (.c (.int .i64 1)),none⟩,⟨.p 4,.mov (.t 38),none⟩,⟨.p 5,.mov (.t 40),none⟩]) (.ret))))
def cf_goboref6_count : CFunc :=
{ nargs := 2,ps := [0,1,2,4,5,6,7,8,9,20],results := [.slot 4,.slot 5],body := bd_goboref6_count }
def bd_goboref3_May : CCode :=
 .seq (.reg [⟨.p 2,.mov (.c (.bool false)),none⟩]) (.seq (.reg [⟨.t 3,.mov (.p 0),none⟩,⟨.t 4,.mov (.p 0),none⟩,⟨.t 5,.call F_goboref3_Norm [.t 4],none⟩,⟨.t 6,.call F_goboref3_Same [.t 3,.t 5],none⟩,
 ⟨.p 2,.mov (.t 6),none⟩]) (.ret))
def cf_goboref3_May : CFunc :=
{ nargs := 1,ps := [0,2],results := [.slot 2],body := bd_goboref3_May }
def lb_goboref11_hex_0 : CCode :=
 .seq (.seq (.reg [⟨.t 28,.mov (.p 0),none⟩,⟨.p 29,.bin .gtr (.t 28) (.c (.int .i32 15)),none⟩]) (.cond (.p 29) (.skip) (.exit 0))) (.block 1 [0,3] (.seq (.reg [⟨.t 30,.mov (.p 0),none⟩,
 ⟨.t 31,.bin .rem (.t 30) (.c (.int .i32 16)),none⟩,⟨.t 32,.mov (.p 0),none⟩,⟨.t 33,.bin .rem (.t 32) (.c (.int .i32 16)),none⟩,⟨.t 34,.bin .add (.t 33) (.c (.int .i32 1)),none⟩,⟨.t 35,.sliceStr (.c (.str [48,49,50,51,52,53,54,55,56,57,65,66,67,68,69,70])) (some (.t 31)) (some (.t 34)),none⟩,
 ⟨.t 36,.mov (.p 3),none⟩,⟨.t 37,.bin .add (.t 35) (.t 36),none⟩,⟨.p 3,.mov (.t 37),none⟩]) (.reg [⟨.t 38,.mov (.p 0),none⟩,⟨.t 39,.bin .quo (.t 38) (.c (.int .i32 16)),none⟩,⟨.p 0,.mov (.t 39),none⟩])))
def bd_goboref11_hex : CCode :=
 .seq (.reg [⟨.p 2,.mov (.c (.str [])),none⟩]) (.seq (.seq (.reg [⟨.t 4,.mov (.p 0),none⟩,⟨.t 5,.bin .lss (.t 4) (.c (.int .i32 128)),none⟩,⟨.t 6,.mov (.t 5),none⟩,⟨.t 7,.mov (.p 0),some (.t 6,true)⟩,
 ⟨.t 8,.convI .u8 (.t 7),some (.t 6,true)⟩,⟨.t 9,.call F_goboref11_small [.t 8],some (.t 6,true)⟩,⟨.t 10,.mov (.t 9),some (.t 6,true)⟩,⟨.t 11,.mov (.p 0),some (.t 10,false)⟩,⟨.t 12,.convI .u8 (.t 11),some (.t 10,false)⟩,
 ⟨.t 13,.call F_goboref11_digit [.t 12],some (.t 10,false)⟩,⟨.t 14,.pick (.t 10) (.c (.bool true)) (.t 13),some (.t 6,true)⟩,⟨.t 15,.mov (.t 14),some (.t 6,true)⟩,⟨.t 16,.mov (.p 0),some (.t 15,false)⟩,
 ⟨.t 17,.bin .geq (.t 16) (.c (.int .i32 65)),some (.t 15,false)⟩,⟨.t 18,.mov (.t 17),some (.t 15,false)⟩,⟨.t 19,.mov (.p 0),some (.t 18,true)⟩,⟨.t 20,.bin .leq (.t 19) (.c (.int .i32 90)),some (.t 18,true)⟩,
 ⟨.t 21,.pick (.t 18) (.t 20) (.c (.bool false)),some (.t 15,false)⟩,⟨.t 22,.pick (.t 15) (.c (.bool true)) (.t 21),some (.t 6,true)⟩,⟨.p 23,.pick (.t 6) (.t 22) (.c (.bool false)),none⟩]) (.cond (.p 23) (.seq (.reg [⟨.t 24,.mov (.p 0),none⟩,
 ⟨.t 25,.convI .u8 (.t 24),none⟩,⟨.t 26,.lit [.int .u8 0] 1 [(0,1,.t 25)],none⟩,⟨.t 27,.bytesStr (.t 26),none⟩,⟨.p 2,.mov (.t 27),none⟩]) (.ret)) (.skip))) (.seq (.reg [⟨.p 3,.mov (.c (.str [])),none⟩]) (.seq (.block 0 [0,3] (.loop [0,3] lb_goboref11_hex_0)) (.seq (.reg [⟨.t 40,.mov (.p 0),none⟩,
 ⟨.t 41,.mov (.p 0),none⟩,⟨.t 42,.bin .add (.t 41) (.c (.int .i32 1)),none⟩,⟨.t 43,.sliceStr (.c (.str [48,49,50,51,52,53,54,55,56,57,65,66,67,68,69,70])) (some (.t 40)) (some (.t 42)),none⟩,
 ⟨.t 44,.bin .add (.c (.str [92,117,123])) (.t 43),none⟩,⟨.t 45,.mov (.p 3),none⟩,⟨.t 46,.bin .add (.t 44) (.t 45),none⟩,⟨.t 47,.bin .add (.t 46) (.c (.str [125])),none⟩,⟨.p 2,.mov (.t 47),none⟩]) (.ret)))))
def cf_goboref11_hex : CFunc :=
{ nargs := 1,ps := [0,2,3,23,29],results := [.slot 2],body := bd_goboref11_hex }
def bd_decode_New : CCode :=
 .seq (.reg [⟨.p 0,.mov (.c (.nilp)),none⟩]) (.seq (.reg [⟨.t 1,.build [.nils,.int .i64 0,.bool false,.nils] [],none⟩,⟨.t 2,.box (.t 1),none⟩,⟨.p 0,.mov (.t 2),none⟩]) (.ret))
def cf_decode_New : CFunc :=
{ nargs := 0,ps := [0],results := [.slot 0],body := bd_decode_New }
def lb_decode_Dec_Feed_0 : CCode :=
 .seq (.reg [⟨.p 18,.bin .lss (.p 17) (.p 16),none⟩]) (.seq (.cond (.p 18) (.skip) (.exit 0)) (.seq (.block 1 [0,15,16,17] (.seq (.reg [⟨.t 19,.idxAddr 1 (.p 15) (.p 17),none⟩,⟨.t 20,.load1 (.t 19),none⟩,
 ⟨.p 6,.mov (.t 20),none⟩]) (.reg [⟨.t 21,.mov (.p 0),none⟩,⟨.t 22,.mov (.p 6),none⟩,⟨.t 23,.call F_decode_Dec_take [.t 21,.t 22],none⟩]))) (.reg [⟨.t 24,.bin .add (.p 17) (.c (.int .i64 1)),none⟩,
 ⟨.p 17,.mov (.t 24),none⟩])))
def bd_decode_Dec_Feed : CCode :=
 .seq (.reg [⟨.p 4,.mov (.c (.nils)),none⟩]) (.seq (.seq (.reg [⟨.t 7,.mov (.p 0),none⟩,⟨.t 8,.eqv false .ptr (.t 7) (.c (.nilp)),none⟩,⟨.t 9,.mov (.t 8),none⟩,⟨.t 10,.mov (.p 0),some (.t 9,false)⟩,
 ⟨.t 11,.nilCheck (.t 10),some (.t 9,false)⟩,⟨.t 12,.fieldAddr 2 (.t 11),some (.t 9,false)⟩,⟨.t 13,.load1 (.t 12),some (.t 9,false)⟩,⟨.p 14,.pick (.t 9) (.c (.bool true)) (.t 13),none⟩]) (.cond (.p 14) (.seq (.reg [⟨.p 4,.mov (.c (.nils)),none⟩]) (.ret)) (.skip))) (.seq (.seq (.reg [⟨.p 15,.mov (.p 1),none⟩,
 ⟨.p 16,.lenSl (.p 15),none⟩,⟨.p 17,.mov (.c (.int .i64 0)),none⟩]) (.block 0 [0] (.loop [0,15,16,17] lb_decode_Dec_Feed_0))) (.seq (.reg [⟨.t 25,.mov (.p 0),none⟩,⟨.t 26,.call F_decode_Dec_taken [.t 25],none⟩,
 ⟨.p 4,.mov (.t 26),none⟩]) (.ret))))
def cf_decode_Dec_Feed : CFunc :=
{ nargs := 2,ps := [0,1,4,6,14,15,16,17,18],results := [.slot 4],body := bd_decode_Dec_Feed }
def bd_decode_Dec_Close : CCode :=
 .seq (.reg [⟨.p 2,.mov (.c (.nils)),none⟩]) (.seq (.seq (.reg [⟨.t 3,.mov (.p 0),none⟩,⟨.t 4,.eqv false .ptr (.t 3) (.c (.nilp)),none⟩,⟨.t 5,.mov (.t 4),none⟩,⟨.t 6,.mov (.p 0),some (.t 5,false)⟩,
 ⟨.t 7,.nilCheck (.t 6),some (.t 5,false)⟩,⟨.t 8,.fieldAddr 2 (.t 7),some (.t 5,false)⟩,⟨.t 9,.load1 (.t 8),some (.t 5,false)⟩,⟨.p 10,.pick (.t 5) (.c (.bool true)) (.t 9),none⟩]) (.cond (.p 10) (.seq (.reg [⟨.p 2,.mov (.c (.nils)),none⟩]) (.ret)) (.skip))) (.seq (.seq (.reg [⟨.t 11,.mov (.p 0),none⟩,
 ⟨.t 12,.nilCheck (.t 11),none⟩,⟨.t 13,.fieldAddr 2 (.t 12),none⟩,⟨.no,.store 1 (.t 13) (.c (.bool true)),none⟩]) (.seq (.reg [⟨.t 14,.mov (.p 0),none⟩,⟨.t 15,.nilCheck (.t 14),none⟩,
 ⟨.t 16,.fieldAddr 0 (.t 15),none⟩,⟨.t 17,.load1 (.t 16),none⟩,⟨.t 18,.lenSl (.t 17),none⟩,⟨.p 19,.bin .gtr (.t 18) (.c (.int .i64 0)),none⟩]) (.cond (.p 19) (.reg [⟨.t 20,.mov (.p 0),none⟩,
 ⟨.t 21,.call F_decode_Dec_tell [.t 20,.c (.bool true),.c (.bool true)],none⟩]) (.skip)))) (.seq (.reg [⟨.t 22,.mov (.p 0),none⟩,⟨.t 23,.call F_decode_Dec_taken [.t 22],none⟩,⟨.p 2,.mov (.t 23),none⟩]) (.ret))))
def cf_decode_Dec_Close : CFunc :=
{ nargs := 1,ps := [0,2,10,19],results := [.slot 2],body := bd_decode_Dec_Close }
def bd_parse_regex_atom : CCode :=
 .seq (.reg [⟨.p 2,.alloc [.int .i64 0,.nils,.nils],none⟩]) (.seq (.reg [⟨.t 7,.mov (.p 0),none⟩,⟨.t 8,.nilCheck (.t 7),none⟩,⟨.t 9,.fieldAddr 0 (.t 8),none⟩,⟨.t 10,.load1 (.t 9),none⟩,
 ⟨.t 11,.call F_word_Reader_At [.t 10],none⟩,⟨.p 3,.mov (.t 11),none⟩]) (.seq (.block 0 [0,2] (.seq (.reg [⟨.t 13,.mov (.p 0),none⟩,⟨.t 14,.nilCheck (.t 13),none⟩,⟨.t 15,.fieldAddr 0 (.t 14),none⟩,
 ⟨.t 16,.load1 (.t 15),none⟩,⟨.t 17,.call F_word_Reader_Skip [.t 16,.c (.int .i32 40)],none⟩,⟨.p 12,.mov (.t 17),none⟩]) (.cond (.p 12) (.seq (.seq (.reg [⟨.t 18,.mov (.p 0),none⟩,⟨.t 19,.nilCheck (.t 18),none⟩,
 ⟨.t 20,.fieldAddr 1 (.t 19),none⟩,⟨.t 21,.load1 (.t 20),none⟩,⟨.t 22,.bin .add (.t 21) (.c (.int .i64 1)),none⟩,⟨.t 23,.nilCheck (.t 18),none⟩,⟨.t 24,.fieldAddr 1 (.t 23),none⟩,⟨.no,.store 1 (.t 24) (.t 22),none⟩]) (.seq (.reg [⟨.t 25,.mov (.p 0),none⟩,
 ⟨.t 26,.nilCheck (.t 25),none⟩,⟨.t 27,.fieldAddr 1 (.t 26),none⟩,⟨.t 28,.load1 (.t 27),none⟩,⟨.p 29,.bin .gtr (.t 28) (.c (.int .i64 40)),none⟩]) (.cond (.p 29) (.reg [⟨.t 30,.mov (.p 3),none⟩,
 ⟨.t 31,.call F_word_Fail [.c (.int .i64 7),.t 30],none⟩]) (.skip)))) (.seq (.reg [⟨.t 32,.mov (.p 0),none⟩,⟨.t 33,.call F_parse_regex_all [.t 32],none⟩,⟨.p 4,.alloc [.int .i64 0,.nils,.nils],none⟩,
 ⟨.no,.store 3 (.p 4) (.t 33),none⟩]) (.seq (.reg [⟨.t 34,.mov (.p 0),none⟩,⟨.t 35,.nilCheck (.t 34),none⟩,⟨.t 36,.fieldAddr 0 (.t 35),none⟩,⟨.t 37,.load1 (.t 36),none⟩,⟨.t 38,.call F_word_Reader_Must [.t 37,.c (.int .i32 41)],none⟩]) (.seq (.reg [⟨.t 39,.mov (.p 0),none⟩,
 ⟨.t 40,.nilCheck (.t 39),none⟩,⟨.t 41,.fieldAddr 1 (.t 40),none⟩,⟨.t 42,.load1 (.t 41),none⟩,⟨.t 43,.bin .sub (.t 42) (.c (.int .i64 1)),none⟩,⟨.t 44,.nilCheck (.t 39),none⟩,⟨.t 45,.fieldAddr 1 (.t 44),none⟩,
 ⟨.no,.store 1 (.t 45) (.t 43),none⟩]) (.seq (.reg [⟨.t 46,.loadN 3 (.p 4),none⟩,⟨.no,.store 3 (.p 2) (.t 46),none⟩]) (.ret)))))) (.seq (.reg [⟨.t 48,.mov (.p 0),none⟩,⟨.t 49,.nilCheck (.t 48),none⟩,
 ⟨.t 50,.fieldAddr 0 (.t 49),none⟩,⟨.t 51,.load1 (.t 50),none⟩,⟨.t 52,.call F_word_Reader_Skip [.t 51,.c (.int .i32 91)],none⟩,⟨.p 47,.mov (.t 52),none⟩]) (.cond (.p 47) (.seq (.reg [⟨.t 53,.mov (.p 0),none⟩,
 ⟨.t 54,.nilCheck (.t 53),none⟩,⟨.t 55,.fieldAddr 0 (.t 54),none⟩,⟨.t 56,.load1 (.t 55),none⟩,⟨.t 57,.call F_word_Reader_Class [.t 56,.c (.int .i32 93)],none⟩,⟨.p 5,.mov (.t 57),none⟩]) (.seq (.reg [⟨.t 58,.mov (.p 0),none⟩,
 ⟨.t 59,.nilCheck (.t 58),none⟩,⟨.t 60,.fieldAddr 0 (.t 59),none⟩,⟨.t 61,.load1 (.t 60),none⟩,⟨.t 62,.call F_word_Reader_Must [.t 61,.c (.int .i32 93)],none⟩]) (.seq (.reg [⟨.t 63,.mov (.p 5),none⟩,
 ⟨.t 64,.call F_parse_set [.t 63],none⟩,⟨.no,.store 3 (.p 2) (.t 64),none⟩]) (.ret)))) (.seq (.reg [⟨.t 66,.mov (.p 0),none⟩,⟨.t 67,.nilCheck (.t 66),none⟩,⟨.t 68,.fieldAddr 0 (.t 67),none⟩,
 ⟨.t 69,.load1 (.t 68),none⟩,⟨.t 70,.call F_word_Reader_Skip [.t 69,.c (.int .i32 46)],none⟩,⟨.p 65,.mov (.t 70),none⟩]) (.cond (.p 65) (.seq (.reg [⟨.t 71,.build [.int .i32 0,.int .i32 0] [(0,1,.c (.int .i32 10)),(1,1,.c (.int .i32 10))],none⟩,
 ⟨.t 72,.lit [.int .i32 0,.int .i32 0] 1 [(0,2,.t 71)],none⟩,⟨.t 73,.call F_runes_Not [.t 72],none⟩,⟨.t 74,.call F_parse_set [.t 73],none⟩,⟨.no,.store 3 (.p 2) (.t 74),none⟩]) (.ret)) (.skip)))))))) (.seq (.reg [⟨.t 75,.mov (.p 0),none⟩,
 ⟨.t 76,.nilCheck (.t 75),none⟩,⟨.t 77,.fieldAddr 0 (.t 76),none⟩,⟨.t 78,.load1 (.t 77),none⟩,⟨.t 79,.call F_word_Reader_Rune [.t 78,.c (.bool false)],none⟩,⟨.p 6,.mov (.t 79),none⟩]) (.seq (.reg [⟨.t 80,.mov (.p 6),none⟩,
 ⟨.t 81,.mov (.p 6),none⟩,⟨.t 82,.build [.int .i32 0,.int .i32 0] [(0,1,.t 80),(1,1,.t 81)],none⟩,⟨.t 83,.lit [.int .i32 0,.int .i32 0] 1 [(0,2,.t 82)],none⟩,⟨.t 84,.call F_parse_set [.t 83],none⟩,
 ⟨.no,.store 3 (.p 2) (.t 84),none⟩]) (.ret)))))
def cf_parse_regex_atom : CFunc :=
{ nargs := 1,ps := [0,2,3,4,5,6,12,29,47,65],results := [.cellN 2 3],body := bd_parse_regex_atom }
def bd_word_All_1 : CCode :=
 .reg [⟨.t 2,.load1 (.p 0),none⟩,⟨.t 3,.call F_word_words [.t 2],none⟩,⟨.no,.store 1 (.p 1) (.t 3),none⟩]
def cf_word_All_1 : CFunc :=
{ nargs := 2,ps := [0,1],results := [],body := bd_word_All_1 }
def lb_word_words_0 : CCode :=
 .seq (.seq (.reg [⟨.t 7,.mov (.p 4),none⟩,⟨.t 8,.mov (.p 0),none⟩,⟨.t 9,.lenStr (.t 8),none⟩,⟨.p 10,.bin .lss (.t 7) (.t 9),none⟩]) (.cond (.p 10) (.skip) (.exit 0))) (.block 1 [0,3,4] (.seq (.reg [⟨.t 11,.mov (.p 0),none⟩,
 ⟨.t 12,.mov (.p 4),none⟩,⟨.t 13,.idxStr (.t 11) (.t 12),none⟩,⟨.t 14,.mov (.p 4),none⟩,⟨.p 5,.mov (.t 13),none⟩,⟨.p 6,.mov (.t 14),none⟩]) (.block 2 [0,3,4] (.seq (.reg [⟨.t 18,.mov (.p 5),none⟩,
 ⟨.t 19,.bin .eql (.t 18) (.c (.int .u8 32)),none⟩,⟨.t 20,.mov (.t 19),none⟩,⟨.t 21,.mov (.p 5),some (.t 20,false)⟩,⟨.t 22,.bin .eql (.t 21) (.c (.int .u8 9)),some (.t 20,false)⟩,⟨.t 23,.pick (.t 20) (.c (.bool true)) (.t 22),none⟩,
 ⟨.t 24,.mov (.t 23),none⟩,⟨.t 25,.mov (.p 5),some (.t 24,false)⟩,⟨.t 26,.bin .eql (.t 25) (.c (.int .u8 13)),some (.t 24,false)⟩,⟨.t 27,.pick (.t 24) (.c (.bool true)) (.t 26),none⟩,
 ⟨.p 17,.mov (.t 27),none⟩]) (.cond (.p 17) (.reg [⟨.t 28,.mov (.p 4),none⟩,⟨.t 29,.bin .add (.t 28) (.c (.int .i64 1)),none⟩,⟨.p 4,.mov (.t 29),none⟩]) (.seq (.reg [⟨.t 31,.mov (.p 5),none⟩,
 ⟨.t 32,.bin .eql (.t 31) (.c (.int .u8 35)),none⟩,⟨.p 30,.mov (.t 32),none⟩]) (.cond (.p 30) (.reg [⟨.t 33,.mov (.p 0),none⟩,⟨.t 34,.mov (.p 4),none⟩,⟨.t 35,.call F_word_run [.t 33,.t 34,.f F_word_words_1],none⟩,
 ⟨.p 4,.mov (.t 35),none⟩]) (.seq (.reg [⟨.t 37,.mov (.p 5),none⟩,⟨.t 38,.bin .eql (.t 37) (.c (.int .u8 10)),none⟩,⟨.p 36,.mov (.t 38),none⟩]) (.cond (.p 36) (.seq (.reg [⟨.t 39,.mov (.p 4),none⟩,
 ⟨.t 40,.bin .add (.t 39) (.c (.int .i64 1)),none⟩,⟨.p 4,.mov (.t 40),none⟩]) (.reg [⟨.t 41,.mov (.p 3),none⟩,⟨.t 42,.mov (.p 6),none⟩,⟨.t 43,.build [.int .i64 0,.str [],.int .i64 0] [(0,1,.c (.int .i64 5)),(1,1,.c (.str [])),(2,1,.t 42)],none⟩,
 ⟨.t 44,.lit [.int .i64 0,.str [],.int .i64 0] 1 [(0,3,.t 43)],none⟩,⟨.t 45,.append 3 32 (.t 41) (.t 44),none⟩,⟨.p 3,.mov (.t 45),none⟩])) (.seq (.reg [⟨.t 47,.mov (.p 5),none⟩,⟨.t 48,.call F_word_letter [.t 47],none⟩,
 ⟨.p 46,.mov (.t 48),none⟩]) (.cond (.p 46) (.seq (.reg [⟨.t 49,.mov (.p 0),none⟩,⟨.t 50,.mov (.p 4),none⟩,⟨.t 51,.call F_word_run [.t 49,.t 50,.f F_word_words_2],none⟩,⟨.p 4,.mov (.t 51),none⟩]) (.reg [⟨.t 52,.mov (.p 3),none⟩,
 ⟨.t 53,.mov (.p 0),none⟩,⟨.t 54,.mov (.p 6),none⟩,⟨.t 55,.mov (.p 4),none⟩,⟨.t 56,.sliceStr (.t 53) (some (.t 54)) (some (.t 55)),none⟩,⟨.t 57,.mov (.p 6),none⟩,⟨.t 58,.build [.int .i64 0,.str [],.int .i64 0] [(0,1,.c (.int .i64 1)),(1,1,.t 56),(2,1,.t 57)],none⟩,
 ⟨.t 59,.lit [.int .i64 0,.str [],.int .i64 0] 1 [(0,3,.t 58)],none⟩,⟨.t 60,.append 3 32 (.t 52) (.t 59),none⟩,⟨.p 3,.mov (.t 60),none⟩])) (.seq (.reg [⟨.t 62,.mov (.p 5),none⟩,⟨.t 63,.call F_word_digit [.t 62],none⟩,
 ⟨.p 61,.mov (.t 63),none⟩]) (.cond (.p 61) (.seq (.reg [⟨.t 64,.mov (.p 0),none⟩,⟨.t 65,.mov (.p 4),none⟩,⟨.t 66,.call F_word_run [.t 64,.t 65,.f F_word_digit],none⟩,⟨.p 4,.mov (.t 66),none⟩]) (.reg [⟨.t 67,.mov (.p 3),none⟩,
 ⟨.t 68,.mov (.p 0),none⟩,⟨.t 69,.mov (.p 6),none⟩,⟨.t 70,.mov (.p 4),none⟩,⟨.t 71,.sliceStr (.t 68) (some (.t 69)) (some (.t 70)),none⟩,⟨.t 72,.mov (.p 6),none⟩,⟨.t 73,.build [.int .i64 0,.str [],.int .i64 0] [(0,1,.c (.int .i64 2)),(1,1,.t 71),(2,1,.t 72)],none⟩,
 ⟨.t 74,.lit [.int .i64 0,.str [],.int .i64 0] 1 [(0,3,.t 73)],none⟩,⟨.t 75,.append 3 32 (.t 67) (.t 74),none⟩,⟨.p 3,.mov (.t 75),none⟩])) (.seq (.reg [⟨.t 77,.mov (.p 5),none⟩,⟨.t 78,.call F_strings_IndexByte [.c (.str [123,125,40,41,124,42,94,60,62,58,95,61]),.t 77],none⟩,
 ⟨.t 79,.bin .geq (.t 78) (.c (.int .i64 0)),none⟩,⟨.p 76,.mov (.t 79),none⟩]) (.cond (.p 76) (.seq (.reg [⟨.t 80,.mov (.p 4),none⟩,⟨.t 81,.bin .add (.t 80) (.c (.int .i64 1)),none⟩,
 ⟨.p 4,.mov (.t 81),none⟩]) (.reg [⟨.t 82,.mov (.p 3),none⟩,⟨.t 83,.mov (.p 0),none⟩,⟨.t 84,.mov (.p 6),none⟩,⟨.t 85,.mov (.p 4),none⟩,⟨.t 86,.sliceStr (.t 83) (some (.t 84)) (some (.t 85)),none⟩,
 ⟨.t 87,.mov (.p 6),none⟩,⟨.t 88,.build [.int .i64 0,.str [],.int .i64 0] [(0,1,.c (.int .i64 3)),(1,1,.t 86),(2,1,.t 87)],none⟩,⟨.t 89,.lit [.int .i64 0,.str [],.int .i64 0] 1 [(0,3,.t 88)],none⟩,
 ⟨.t 90,.append 3 32 (.t 82) (.t 89),none⟩,⟨.p 3,.mov (.t 90),none⟩])) (.seq (.reg [⟨.t 92,.mov (.p 5),none⟩,⟨.t 93,.bin .eql (.t 92) (.c (.int .u8 47)),none⟩,⟨.p 91,.mov (.t 93),none⟩]) (.cond (.p 91) (.seq (.reg [⟨.t 94,.mov (.p 0),none⟩,
 ⟨.t 95,.mov (.p 6),none⟩,⟨.t 96,.call F_word_closed [.t 94,.t 95],none⟩,⟨.p 4,.mov (.t 96),none⟩]) (.seq (.reg [⟨.t 97,.mov (.p 3),none⟩,⟨.t 98,.mov (.p 0),none⟩,⟨.t 99,.mov (.p 6),none⟩,
 ⟨.t 100,.bin .add (.t 99) (.c (.int .i64 1)),none⟩,⟨.t 101,.mov (.p 4),none⟩,⟨.t 102,.sliceStr (.t 98) (some (.t 100)) (some (.t 101)),none⟩,⟨.t 103,.mov (.p 6),none⟩,⟨.t 104,.build [.int .i64 0,.str [],.int .i64 0] [(0,1,.c (.int .i64 4)),(1,1,.t 102),(2,1,.t 103)],none⟩,
 ⟨.t 105,.lit [.int .i64 0,.str [],.int .i64 0] 1 [(0,3,.t 104)],none⟩,⟨.t 106,.append 3 32 (.t 97) (.t 105),none⟩,⟨.p 3,.mov (.t 106),none⟩]) (.reg [⟨.t 107,.mov (.p 4),none⟩,⟨.t 108,.bin .add (.t 107) (.c (.int .i64 1)),none⟩,
 ⟨.p 4,.mov (.t 108),none⟩]))) (.reg [⟨.t 15,.mov (.p 4),none⟩,⟨.t 16,.call F_word_Fail [.c (.int .i64 2),.t 15],none⟩]))))))))))))))))))
def bd_word_words : CCode :=
 .seq (.reg [⟨.p 2,.mov (.c (.nils)),none⟩]) (.seq (.reg [⟨.p 3,.mov (.c (.nils)),none⟩]) (.seq (.seq (.reg [⟨.p 4,.mov (.c (.int .i64 0)),none⟩]) (.block 0 [3] (.loop [0,3,4] lb_word_words_0))) (.seq (.reg [⟨.t 109,.mov (.p 3),none⟩,
 ⟨.p 2,.mov (.t 109),none⟩]) (.ret))))
def cf_word_words : CFunc :=
{ nargs := 1,ps := [0,2,3,4,5,6,10,17,30,36,46,61,76,91],results := [.slot 2],body := bd_word_words }
def bd_parse_source_next : CCode :=
 .seq (.reg [⟨.p 4,.alloc [.int .i64 0,.str [],.int .i64 0],none⟩]) (.seq (.reg [⟨.t 6,.mov (.p 0),none⟩,⟨.t 7,.call F_parse_source_peek [.t 6],none⟩,⟨.p 5,.alloc [.int .i64 0,.str [],.int .i64 0],none⟩,
 ⟨.no,.store 3 (.p 5) (.t 7),none⟩]) (.seq (.seq (.reg [⟨.t 8,.fieldAddr 0 (.p 5),none⟩,⟨.t 9,.load1 (.t 8),none⟩,⟨.t 10,.mov (.p 1),none⟩,⟨.p 11,.bin .neq (.t 9) (.t 10),none⟩]) (.cond (.p 11) (.reg [⟨.t 12,.fieldAddr 2 (.p 5),none⟩,
 ⟨.t 13,.load1 (.t 12),none⟩,⟨.t 14,.call F_word_Fail [.c (.int .i64 3),.t 13],none⟩]) (.skip))) (.seq (.reg [⟨.t 15,.mov (.p 0),none⟩,⟨.t 16,.nilCheck (.t 15),none⟩,⟨.t 17,.fieldAddr 1 (.t 16),none⟩,
 ⟨.t 18,.load1 (.t 17),none⟩,⟨.t 19,.bin .add (.t 18) (.c (.int .i64 1)),none⟩,⟨.t 20,.nilCheck (.t 15),none⟩,⟨.t 21,.fieldAddr 1 (.t 20),none⟩,⟨.no,.store 1 (.t 21) (.t 19),none⟩]) (.seq (.reg [⟨.t 22,.loadN 3 (.p 5),none⟩,
 ⟨.no,.store 3 (.p 4) (.t 22),none⟩]) (.ret)))))
def cf_parse_source_next : CFunc :=
{ nargs := 2,ps := [0,1,4,5,11],results := [.cellN 4 3],body := bd_parse_source_next }
def bd_parse_source_token : CCode :=
 .seq (.reg [⟨.t 7,.mov (.p 0),none⟩,⟨.t 8,.call F_parse_source_name [.t 7],none⟩,⟨.t 9,.build [.str [],.int .i64 0,.int .i64 0,.int .i64 0,.nils,.nils] [(0,1,.t 8)],none⟩,⟨.p 2,.alloc [.str [],.int .i64 0,.int .i64 0,.int .i64 0,.nils,.nils],none⟩,
 ⟨.no,.store 6 (.p 2) (.t 9),none⟩]) (.seq (.reg [⟨.t 10,.mov (.p 0),none⟩,⟨.t 11,.call F_parse_source_next [.t 10,.c (.int .i64 1)],none⟩,⟨.p 3,.alloc [.int .i64 0,.str [],.int .i64 0],none⟩,
 ⟨.no,.store 3 (.p 3) (.t 11),none⟩]) (.seq (.seq (.reg [⟨.t 12,.fieldAddr 1 (.p 3),none⟩,⟨.p 13,.load1 (.t 12),none⟩]) (.block 0 [0,2,3] (.seq (.reg [⟨.t 18,.bin .eql (.p 13) (.c (.str [105,110,116])),none⟩,
 ⟨.p 17,.mov (.t 18),none⟩]) (.cond (.p 17) (.skip) (.seq (.reg [⟨.t 20,.bin .eql (.p 13) (.c (.str [99,97,108,108])),none⟩,⟨.p 19,.mov (.t 20),none⟩]) (.cond (.p 19) (.reg [⟨.t 21,.fieldAddr 1 (.p 2),none⟩,
 ⟨.no,.store 1 (.t 21) (.c (.int .i64 1)),none⟩]) (.seq (.reg [⟨.t 23,.bin .eql (.p 13) (.c (.str [114,101,116])),none⟩,⟨.p 22,.mov (.t 23),none⟩]) (.cond (.p 22) (.reg [⟨.t 24,.fieldAddr 1 (.p 2),none⟩,
 ⟨.no,.store 1 (.t 24) (.c (.int .i64 2)),none⟩]) (.reg [⟨.t 14,.fieldAddr 2 (.p 3),none⟩,⟨.t 15,.load1 (.t 14),none⟩,⟨.t 16,.call F_word_Fail [.c (.int .i64 3),.t 15],none⟩]))))))))) (.seq (.reg [⟨.t 25,.mov (.p 0),none⟩,
 ⟨.t 26,.call F_parse_source_class [.t 25],none⟩,⟨.t 27,.fieldAddr 2 (.p 2),none⟩,⟨.no,.store 1 (.t 27) (.t 26),none⟩]) (.seq (.reg [⟨.t 28,.mov (.p 0),none⟩,⟨.t 29,.call F_parse_source_must [.t 28,.c (.str [61])],none⟩]) (.seq (.reg [⟨.t 30,.mov (.p 0),none⟩,
 ⟨.t 31,.call F_parse_source_next [.t 30,.c (.int .i64 4)],none⟩,⟨.no,.store 3 (.p 3) (.t 31),none⟩]) (.seq (.reg [⟨.t 33,.fieldAddr 1 (.p 3),none⟩,⟨.t 34,.load1 (.t 33),none⟩,⟨.t 35,.call F_parse_Re [.t 34],none⟩,
 ⟨.t 32,.mov (.t 35),none⟩,⟨.t 36,.extract (.t 32) 0,none⟩,⟨.t 37,.extract (.t 32) 1,none⟩,⟨.t 38,.extract (.t 32) 2,none⟩,⟨.p 4,.alloc [.int .i64 0,.nils,.nils],none⟩,⟨.no,.store 3 (.p 4) (.t 36),none⟩,
 ⟨.p 5,.mov (.t 37),none⟩,⟨.p 6,.mov (.t 38),none⟩]) (.seq (.seq (.reg [⟨.t 39,.mov (.p 5),none⟩,⟨.p 40,.bin .neq (.t 39) (.c (.int .i64 0)),none⟩]) (.cond (.p 40) (.reg [⟨.t 41,.mov (.p 5),none⟩,
 ⟨.t 42,.fieldAddr 2 (.p 3),none⟩,⟨.t 43,.load1 (.t 42),none⟩,⟨.t 44,.bin .add (.t 43) (.c (.int .i64 1)),none⟩,⟨.t 45,.mov (.p 6),none⟩,⟨.t 46,.bin .add (.t 44) (.t 45),none⟩,⟨.t 47,.call F_word_Fail [.t 41,.t 46],none⟩]) (.skip))) (.seq (.reg [⟨.t 48,.loadN 3 (.p 4),none⟩,
 ⟨.t 49,.fieldAddr 3 (.p 2),none⟩,⟨.no,.store 3 (.t 49) (.t 48),none⟩]) (.dreg [⟨⟨.t 50,.mov (.p 0),none⟩,false,false,[]⟩,⟨⟨.t 51,.mov (.p 0),none⟩,false,false,[]⟩,⟨⟨.t 52,.nilCheck (.t 51),none⟩,false,false,[]⟩,
 ⟨⟨.t 53,.fieldAddr 4 (.t 52),none⟩,false,false,[]⟩,⟨⟨.t 54,.fieldAddr 0 (.t 53),none⟩,false,false,[]⟩,⟨⟨.t 55,.load1 (.t 54),none⟩,true,false,[]⟩,⟨⟨.t 56,.loadN 6 (.p 2),none⟩,false,false,[]⟩,
 ⟨⟨.t 57,.lit [.str [],.int .i64 0,.int .i64 0,.int .i64 0,.nils,.nils] 1 [(0,6,.t 56)],none⟩,false,false,[5]⟩,⟨⟨.t 58,.append 6 88 (.t 55) (.t 57),none⟩,false,false,[]⟩,⟨⟨.t 59,.nilCheck (.t 50),none⟩,false,false,[]⟩,
 ⟨⟨.t 60,.fieldAddr 4 (.t 59),none⟩,false,false,[]⟩,⟨⟨.t 61,.fieldAddr 0 (.t 60),none⟩,false,false,[]⟩,⟨⟨.no,.store 1 (.t 61) (.t 58),none⟩,false,false,[]⟩])))))))))
def cf_parse_source_token : CFunc :=
{ nargs := 1,ps := [0,2,3,4,5,6,13,17,19,22,40],results := [],body := bd_parse_source_token }
def lb_parse_source_rule_0 : CCode :=
 .seq (.seq (.reg [⟨.t 26,.fieldAddr 2 (.p 2),none⟩,⟨.t 27,.load1 (.t 26),none⟩,⟨.t 28,.lenSl (.t 27),none⟩,⟨.t 29,.bin .eql (.t 28) (.c (.int .i64 0)),none⟩,⟨.t 30,.mov (.t 29),none⟩,
 ⟨.t 31,.mov (.p 0),some (.t 30,false)⟩,⟨.t 32,.call F_parse_source_is [.t 31,.c (.str [94])],some (.t 30,false)⟩,⟨.p 33,.pick (.t 30) (.c (.bool true)) (.t 32),none⟩]) (.cond (.p 33) (.skip) (.exit 0))) (.block 1 [0,2] (.seq (.reg [⟨.p 4,.alloc [.nils,.int .i64 0,.nils,.nils,.nils],none⟩]) (.seq (.seq (.reg [⟨.t 34,.mov (.p 0),none⟩,
 ⟨.p 35,.call F_parse_source_skip [.t 34,.c (.str [94])],none⟩]) (.cond (.p 35) (.reg [⟨.t 36,.mov (.p 0),none⟩,⟨.t 37,.call F_parse_source_list [.t 36],none⟩,⟨.t 38,.fieldAddr 0 (.p 4),none⟩,
 ⟨.no,.store 1 (.t 38) (.t 37),none⟩]) (.skip))) (.seq (.reg [⟨.t 39,.mov (.p 0),none⟩,⟨.t 40,.call F_parse_source_pattern [.t 39],none⟩,⟨.t 41,.fieldAddr 1 (.p 4),none⟩,⟨.no,.store 4 (.t 41) (.t 40),none⟩]) (.reg [⟨.t 42,.fieldAddr 2 (.p 2),none⟩,
 ⟨.t 43,.load1 (.t 42),none⟩,⟨.t 44,.loadN 5 (.p 4),none⟩,⟨.t 45,.lit [.nils,.int .i64 0,.nils,.nils,.nils] 1 [(0,5,.t 44)],none⟩,⟨.t 46,.append 5 104 (.t 43) (.t 45),none⟩,⟨.t 47,.fieldAddr 2 (.p 2),none⟩,
 ⟨.no,.store 1 (.t 47) (.t 46),none⟩])))))
def bd_parse_source_rule : CCode :=
 .seq (.reg [⟨.t 5,.mov (.p 0),none⟩,⟨.t 6,.call F_parse_source_class [.t 5],none⟩,⟨.t 7,.build [.int .i64 0,.bool false,.nils] [(0,1,.t 6)],none⟩,⟨.p 2,.alloc [.int .i64 0,.bool false,.nils],none⟩,
 ⟨.no,.store 3 (.p 2) (.t 7),none⟩]) (.seq (.seq (.reg [⟨.t 8,.mov (.p 0),none⟩,⟨.t 9,.call F_parse_source_peek [.t 8],none⟩,⟨.p 3,.alloc [.int .i64 0,.str [],.int .i64 0],none⟩,⟨.no,.store 3 (.p 3) (.t 9),none⟩]) (.seq (.reg [⟨.t 10,.fieldAddr 0 (.p 3),none⟩,
 ⟨.t 11,.load1 (.t 10),none⟩,⟨.t 12,.bin .eql (.t 11) (.c (.int .i64 1)),none⟩,⟨.t 13,.mov (.t 12),none⟩,⟨.t 14,.fieldAddr 1 (.p 3),some (.t 13,true)⟩,⟨.t 15,.load1 (.t 14),some (.t 13,true)⟩,
 ⟨.t 16,.bin .eql (.t 15) (.c (.str [102,114,101,101])),some (.t 13,true)⟩,⟨.p 17,.pick (.t 13) (.t 16) (.c (.bool false)),none⟩]) (.cond (.p 17) (.seq (.reg [⟨.t 18,.fieldAddr 1 (.p 2),none⟩,
 ⟨.no,.store 1 (.t 18) (.c (.bool true)),none⟩]) (.reg [⟨.t 19,.mov (.p 0),none⟩,⟨.t 20,.nilCheck (.t 19),none⟩,⟨.t 21,.fieldAddr 1 (.t 20),none⟩,⟨.t 22,.load1 (.t 21),none⟩,⟨.t 23,.bin .add (.t 22) (.c (.int .i64 1)),none⟩,
 ⟨.t 24,.nilCheck (.t 19),none⟩,⟨.t 25,.fieldAddr 1 (.t 24),none⟩,⟨.no,.store 1 (.t 25) (.t 23),none⟩])) (.skip)))) (.seq (.block 0 [0,2] (.loop [0,2] lb_parse_source_rule_0)) (.dreg [⟨⟨.t 48,.mov (.p 0),none⟩,false,false,[]⟩,
 ⟨⟨.t 49,.mov (.p 0),none⟩,false,false,[]⟩,⟨⟨.t 50,.nilCheck (.t 49),none⟩,false,false,[]⟩,⟨⟨.t 51,.fieldAddr 4 (.t 50),none⟩,false,false,[]⟩,⟨⟨.t 52,.fieldAddr 1 (.t 51),none⟩,false,false,[]⟩,
 ⟨⟨.t 53,.load1 (.t 52),none⟩,true,false,[]⟩,⟨⟨.t 54,.loadN 3 (.p 2),none⟩,false,false,[]⟩,⟨⟨.t 55,.lit [.int .i64 0,.bool false,.nils] 1 [(0,3,.t 54)],none⟩,false,false,[5]⟩,⟨⟨.t 56,.append 3 40 (.t 53) (.t 55),none⟩,false,false,[]⟩,
 ⟨⟨.t 57,.nilCheck (.t 48),none⟩,false,false,[]⟩,⟨⟨.t 58,.fieldAddr 4 (.t 57),none⟩,false,false,[]⟩,⟨⟨.t 59,.fieldAddr 1 (.t 58),none⟩,false,false,[]⟩,⟨⟨.no,.store 1 (.t 59) (.t 56),none⟩,false,false,[]⟩])))
def cf_parse_source_rule : CFunc :=
{ nargs := 1,ps := [0,2,3,4,17,33,35],results := [],body := bd_parse_source_rule }
def bd_gram_caught : CCode :=
 .seq (.reg [⟨.p 2,.alloc [.int .i64 0,.int .i64 0],none⟩]) (.seq (.reg [⟨.t 3,.mkFn F_gram_caught_1 [.p 2],none⟩,⟨.no,.dfr (.t 3) [],none⟩]) (.seq (.reg [⟨.t 4,.mov (.p 0),none⟩,⟨.t 5,.callV (.t 4) [],none⟩]) (.seq (.reg [⟨.t 6,.build [.int .i64 0,.int .i64 0] [],none⟩,
 ⟨.no,.store 2 (.p 2) (.t 6),none⟩]) (.ret))))
def cf_gram_caught : CFunc :=
{ nargs := 1,ps := [0,2],results := [.cellN 2 2],body := bd_gram_caught }
def lb_gram_Check_1_0 : CCode :=
 .seq (.reg [⟨.p 24,.bin .lss (.p 23) (.p 22),none⟩]) (.seq (.cond (.p 24) (.skip) (.exit 0)) (.seq (.block 1 [0,1,22,23] (.seq (.reg [⟨.t 25,.mov (.p 23),none⟩,⟨.p 2,.mov (.t 25),none⟩]) (.seq (.reg [⟨.t 26,.mov (.p 1),none⟩,
 ⟨.t 27,.mov (.p 2),none⟩,⟨.t 28,.nilCheck (.t 26),none⟩,⟨.t 29,.fieldAddr 2 (.t 28),none⟩,⟨.no,.store 1 (.t 29) (.t 27),none⟩]) (.reg [⟨.t 30,.mov (.p 1),none⟩,⟨.t 31,.mov (.p 2),none⟩,
 ⟨.t 32,.call F_gram_court_token [.t 30,.t 31],none⟩])))) (.reg [⟨.t 33,.bin .add (.p 23) (.c (.int .i64 1)),none⟩,⟨.p 23,.mov (.t 33),none⟩])))
def lb_gram_Check_1_1 : CCode :=
 .seq (.reg [⟨.p 50,.bin .lss (.p 49) (.p 48),none⟩]) (.seq (.cond (.p 50) (.skip) (.exit 2)) (.seq (.block 3 [0,1,47,48,49] (.seq (.reg [⟨.t 51,.mov (.p 49),none⟩,⟨.t 52,.idxAddr 3 (.p 47) (.p 49),none⟩,
 ⟨.t 53,.loadN 3 (.t 52),none⟩,⟨.p 4,.alloc [.int .i64 0,.bool false,.nils],none⟩,⟨.p 3,.mov (.t 51),none⟩,⟨.no,.store 3 (.p 4) (.t 53),none⟩]) (.seq (.reg [⟨.t 54,.mov (.p 1),none⟩,
 ⟨.t 55,.fieldAddr 0 (.p 0),none⟩,⟨.t 56,.load1 (.t 55),none⟩,⟨.t 57,.lenSl (.t 56),none⟩,⟨.t 58,.mov (.p 3),none⟩,⟨.t 59,.bin .add (.t 57) (.t 58),none⟩,⟨.t 60,.nilCheck (.t 54),none⟩,
 ⟨.t 61,.fieldAddr 2 (.t 60),none⟩,⟨.no,.store 1 (.t 61) (.t 59),none⟩]) (.reg [⟨.t 62,.mov (.p 1),none⟩,⟨.t 63,.loadN 3 (.p 4),none⟩,⟨.t 64,.call F_gram_court_rule [.t 62,.t 63],none⟩])))) (.reg [⟨.t 65,.bin .add (.p 49) (.c (.int .i64 1)),none⟩,
 ⟨.p 49,.mov (.t 65),none⟩])))
def bd_gram_Check_1 : CCode :=
 .seq (.reg [⟨.t 5,.loadN 2 (.p 0),none⟩,⟨.t 6,.build [.nils,.nils,.int .i64 0] [(0,2,.t 5)],none⟩,⟨.t 7,.box (.t 6),none⟩,⟨.p 1,.mov (.t 7),none⟩]) (.seq (.reg [⟨.t 8,.mov (.p 1),none⟩,
 ⟨.t 9,.fieldAddr 0 (.p 0),none⟩,⟨.t 10,.load1 (.t 9),none⟩,⟨.t 11,.lenSl (.t 10),none⟩,⟨.t 12,.bin .geq (.t 11) (.c (.int .i64 1)),none⟩,⟨.t 13,.mov (.t 12),none⟩,⟨.t 14,.fieldAddr 0 (.p 0),some (.t 13,true)⟩,
 ⟨.t 15,.load1 (.t 14),some (.t 13,true)⟩,⟨.t 16,.lenSl (.t 15),some (.t 13,true)⟩,⟨.t 17,.bin .leq (.t 16) (.c (.int .i64 16)),some (.t 13,true)⟩,⟨.t 18,.pick (.t 13) (.t 17) (.c (.bool false)),none⟩,
 ⟨.t 19,.call F_gram_court_must [.t 8,.t 18,.c (.int .i64 6)],none⟩]) (.seq (.seq (.reg [⟨.t 20,.fieldAddr 0 (.p 0),none⟩,⟨.t 21,.load1 (.t 20),none⟩,⟨.p 22,.lenSl (.t 21),none⟩,⟨.p 23,.mov (.c (.int .i64 0)),none⟩]) (.block 0 [0,1] (.loop [0,1,22,23] lb_gram_Check_1_0))) (.seq (.reg [⟨.t 34,.mov (.p 1),none⟩,
 ⟨.t 35,.fieldAddr 0 (.p 0),none⟩,⟨.t 36,.load1 (.t 35),none⟩,⟨.t 37,.lenSl (.t 36),none⟩,⟨.t 38,.nilCheck (.t 34),none⟩,⟨.t 39,.fieldAddr 2 (.t 38),none⟩,⟨.no,.store 1 (.t 39) (.t 37),none⟩]) (.seq (.reg [⟨.t 40,.mov (.p 1),none⟩,
 ⟨.t 41,.fieldAddr 1 (.p 0),none⟩,⟨.t 42,.load1 (.t 41),none⟩,⟨.t 43,.lenSl (.t 42),none⟩,⟨.t 44,.bin .leq (.t 43) (.c (.int .i64 8)),none⟩,⟨.t 45,.call F_gram_court_must [.t 40,.t 44,.c (.int .i64 6)],none⟩]) (.seq (.reg [⟨.t 46,.fieldAddr 1 (.p 0),none⟩,
 ⟨.p 47,.load1 (.t 46),none⟩,⟨.p 48,.lenSl (.p 47),none⟩,⟨.p 49,.mov (.c (.int .i64 0)),none⟩]) (.block 2 [] (.loop [0,1,47,48,49] lb_gram_Check_1_1)))))))
def cf_gram_Check_1 : CFunc :=
{ nargs := 1,ps := [0,1,2,3,4,22,23,24,47,48,49,50],results := [],body := bd_gram_Check_1 }
def bd_gram_court_must : CCode :=
 .seq (.reg [⟨.t 6,.mov (.p 1),none⟩,⟨.p 7,.un .not (.t 6),none⟩]) (.cond (.p 7) (.reg [⟨.t 8,.mov (.p 2),none⟩,⟨.t 9,.mov (.p 0),none⟩,⟨.t 10,.nilCheck (.t 9),none⟩,⟨.t 11,.fieldAddr 2 (.t 10),none⟩,
 ⟨.t 12,.load1 (.t 11),none⟩,⟨.t 13,.build [.int .i64 0,.int .i64 0] [(0,1,.t 8),(1,1,.t 12)],none⟩,⟨.t 14,.mkIface T_gram_fault (.t 13),none⟩,⟨.no,.panic (.t 14),none⟩]) (.skip))
def cf_gram_court_must : CFunc :=
{ nargs := 3,ps := [0,1,2,7],results := [],body := bd_gram_court_must }
def bd_gram_court_token : CCode :=
 .seq (.reg [⟨.t 5,.mov (.p 0),none⟩,⟨.t 6,.nilCheck (.t 5),none⟩,⟨.t 7,.fieldAddr 0 (.t 6),none⟩,⟨.t 8,.fieldAddr 0 (.t 7),none⟩,⟨.t 9,.load1 (.t 8),none⟩,⟨.t 10,.mov (.p 1),none⟩,
 ⟨.t 11,.idxAddr 6 (.t 9) (.t 10),none⟩,⟨.t 12,.loadN 6 (.t 11),none⟩,⟨.p 4,.alloc [.str [],.int .i64 0,.int .i64 0,.int .i64 0,.nils,.nils],none⟩,⟨.no,.store 6 (.p 4) (.t 12),none⟩]) (.seq (.dreg [⟨⟨.t 13,.mov (.p 0),none⟩,false,false,[]⟩,
 ⟨⟨.t 14,.fieldAddr 0 (.p 4),none⟩,false,false,[]⟩,⟨⟨.t 15,.load1 (.t 14),none⟩,false,false,[]⟩,⟨⟨.t 16,.call F_gram_Name [.t 15],none⟩,false,false,[]⟩,⟨⟨.t 17,.mov (.t 16),none⟩,false,false,[]⟩,
 ⟨⟨.t 18,.mov (.p 0),some (.t 17,true)⟩,false,false,[]⟩,⟨⟨.t 19,.nilCheck (.t 18),some (.t 17,true)⟩,false,false,[]⟩,⟨⟨.t 20,.fieldAddr 0 (.t 19),some (.t 17,true)⟩,false,false,[]⟩,
 ⟨⟨.t 21,.loadN 2 (.t 20),some (.t 17,true)⟩,false,false,[]⟩,⟨⟨.t 22,.fieldAddr 0 (.p 4),some (.t 17,true)⟩,false,false,[]⟩,⟨⟨.t 23,.load1 (.t 22),some (.t 17,true)⟩,false,false,[]⟩,
 ⟨⟨.t 24,.call F_gram_Find [.t 21,.t 23],some (.t 17,true)⟩,false,false,[]⟩,⟨⟨.t 25,.mov (.p 1),some (.t 17,true)⟩,false,false,[]⟩,⟨⟨.t 26,.bin .eql (.t 24) (.t 25),some (.t 17,true)⟩,false,false,[]⟩,
 ⟨⟨.t 27,.pick (.t 17) (.t 26) (.c (.bool false)),none⟩,false,false,[]⟩,⟨⟨.t 28,.call F_gram_court_must [.t 13,.t 27,.c (.int .i64 4)],none⟩,false,false,[]⟩]) (.seq (.reg [⟨.t 29,.mov (.p 0),none⟩,
 ⟨.t 30,.fieldAddr 1 (.p 4),none⟩,⟨.t 31,.load1 (.t 30),none⟩,⟨.t 32,.bin .eql (.t 31) (.c (.int .i64 0)),none⟩,⟨.t 33,.mov (.t 32),none⟩,⟨.t 34,.fieldAddr 1 (.p 4),some (.t 33,false)⟩,
 ⟨.t 35,.load1 (.t 34),some (.t 33,false)⟩,⟨.t 36,.bin .eql (.t 35) (.c (.int .i64 1)),some (.t 33,false)⟩,⟨.t 37,.pick (.t 33) (.c (.bool true)) (.t 36),none⟩,⟨.t 38,.mov (.t 37),none⟩,
 ⟨.t 39,.fieldAddr 1 (.p 4),some (.t 38,false)⟩,⟨.t 40,.load1 (.t 39),some (.t 38,false)⟩,⟨.t 41,.bin .eql (.t 40) (.c (.int .i64 2)),some (.t 38,false)⟩,⟨.t 42,.pick (.t 38) (.c (.bool true)) (.t 41),none⟩,
 ⟨.t 43,.call F_gram_court_must [.t 29,.t 42,.c (.int .i64 5)],none⟩]) (.seq (.reg [⟨.t 44,.mov (.p 0),none⟩,⟨.t 45,.fieldAddr 2 (.p 4),none⟩,⟨.t 46,.load1 (.t 45),none⟩,⟨.t 47,.call F_gram_court_class [.t 44,.t 46],none⟩]) (.seq (.reg [⟨.t 48,.mov (.p 0),none⟩,
 ⟨.t 49,.fieldAddr 3 (.p 4),none⟩,⟨.t 50,.loadN 3 (.t 49),none⟩,⟨.t 51,.call F_regex_May [.t 50],none⟩,⟨.t 52,.call F_gram_court_must [.t 48,.t 51,.c (.int .i64 6)],none⟩]) (.reg [⟨.t 53,.mov (.p 0),none⟩,
 ⟨.t 54,.fieldAddr 3 (.p 4),none⟩,⟨.t 55,.loadN 3 (.t 54),none⟩,⟨.t 56,.call F_regex_Empty [.t 55],none⟩,⟨.t 57,.un .not (.t 56),none⟩,⟨.t 58,.call F_gram_court_must [.t 53,.t 57,.c (.int .i64 11)],none⟩])))))
def cf_gram_court_token : CFunc :=
{ nargs := 2,ps := [0,1,4],results := [],body := bd_gram_court_token }
def lb_gram_court_rule_0 : CCode :=
 .seq (.reg [⟨.p 26,.bin .lss (.p 25) (.p 24),none⟩]) (.seq (.cond (.p 26) (.skip) (.exit 0)) (.seq (.block 1 [0,3,23,24,25] (.seq (.reg [⟨.t 27,.mov (.p 25),none⟩,⟨.t 28,.idxAddr 5 (.p 23) (.p 25),none⟩,
 ⟨.t 29,.loadN 5 (.t 28),none⟩,⟨.p 5,.alloc [.nils,.int .i64 0,.nils,.nils,.nils],none⟩,⟨.p 4,.mov (.t 27),none⟩,⟨.no,.store 5 (.p 5) (.t 29),none⟩]) (.seq (.reg [⟨.t 30,.mov (.p 0),none⟩,
 ⟨.t 31,.fieldAddr 0 (.p 5),none⟩,⟨.t 32,.load1 (.t 31),none⟩,⟨.t 33,.lenSl (.t 32),none⟩,⟨.t 34,.bin .gtr (.t 33) (.c (.int .i64 0)),none⟩,⟨.t 35,.mov (.p 4),none⟩,⟨.t 36,.bin .gtr (.t 35) (.c (.int .i64 0)),none⟩,
 ⟨.t 37,.mov (.t 36),none⟩,⟨.t 38,.fieldAddr 1 (.p 3),some (.t 37,false)⟩,⟨.t 39,.load1 (.t 38),some (.t 37,false)⟩,⟨.t 40,.pick (.t 37) (.c (.bool true)) (.t 39),none⟩,⟨.t 41,.eqv false .bool (.t 34) (.t 40),none⟩,
 ⟨.t 42,.call F_gram_court_must [.t 30,.t 41,.c (.int .i64 5)],none⟩]) (.seq (.reg [⟨.t 43,.mov (.p 0),none⟩,⟨.t 44,.fieldAddr 0 (.p 5),none⟩,⟨.t 45,.load1 (.t 44),none⟩,⟨.t 46,.call F_gram_court_names [.t 43,.t 45,.c (.int .i64 1)],none⟩]) (.reg [⟨.t 47,.mov (.p 0),none⟩,
 ⟨.t 48,.fieldAddr 1 (.p 5),none⟩,⟨.t 49,.loadN 4 (.t 48),none⟩,⟨.t 50,.call F_gram_court_pattern [.t 47,.t 49],none⟩]))))) (.reg [⟨.t 51,.bin .add (.p 25) (.c (.int .i64 1)),none⟩,⟨.p 25,.mov (.t 51),none⟩])))
def bd_gram_court_rule : CCode :=
 .seq (.reg [⟨.p 3,.box (.p 1),none⟩]) (.seq (.reg [⟨.t 6,.mov (.p 0),none⟩,⟨.t 7,.fieldAddr 0 (.p 3),none⟩,⟨.t 8,.load1 (.t 7),none⟩,⟨.t 9,.call F_gram_court_class [.t 6,.t 8],none⟩]) (.seq (.reg [⟨.t 10,.mov (.p 0),none⟩,
 ⟨.t 11,.fieldAddr 2 (.p 3),none⟩,⟨.t 12,.load1 (.t 11),none⟩,⟨.t 13,.lenSl (.t 12),none⟩,⟨.t 14,.bin .geq (.t 13) (.c (.int .i64 1)),none⟩,⟨.t 15,.mov (.t 14),none⟩,⟨.t 16,.fieldAddr 2 (.p 3),some (.t 15,true)⟩,
 ⟨.t 17,.load1 (.t 16),some (.t 15,true)⟩,⟨.t 18,.lenSl (.t 17),some (.t 15,true)⟩,⟨.t 19,.bin .leq (.t 18) (.c (.int .i64 4)),some (.t 15,true)⟩,⟨.t 20,.pick (.t 15) (.t 19) (.c (.bool false)),none⟩,
 ⟨.t 21,.call F_gram_court_must [.t 10,.t 20,.c (.int .i64 6)],none⟩]) (.seq (.reg [⟨.t 22,.fieldAddr 2 (.p 3),none⟩,⟨.p 23,.load1 (.t 22),none⟩,⟨.p 24,.lenSl (.p 23),none⟩,⟨.p 25,.mov (.c (.int .i64 0)),none⟩]) (.block 0 [] (.loop [0,3,23,24,25] lb_gram_court_rule_0)))))
def cf_gram_court_rule : CFunc :=
{ nargs := 2,ps := [0,1,3,4,5,23,24,25,26],results := [],body := bd_gram_court_rule }
def bd_goboref3_Norm : CCode :=
 .seq (.reg [⟨.p 2,.mov (.c (.nils)),none⟩]) (.seq (.reg [⟨.t 3,.mov (.p 0),none⟩,⟨.t 4,.call F_goboref3_cells [.t 3],none⟩,⟨.t 5,.call F_goboref3_pick [.t 4,.c (.nils),.c (.int .i64 1)],none⟩,
 ⟨.p 2,.mov (.t 5),none⟩]) (.ret))
def cf_goboref3_Norm : CFunc :=
{ nargs := 1,ps := [0,2],results := [.slot 2],body := bd_goboref3_Norm }
def bd_goboref11_small : CCode :=
 .seq (.reg [⟨.p 2,.mov (.c (.bool false)),none⟩]) (.seq (.reg [⟨.t 3,.mov (.p 0),none⟩,⟨.t 4,.bin .geq (.t 3) (.c (.int .u8 97)),none⟩,⟨.t 5,.mov (.t 4),none⟩,⟨.t 6,.mov (.p 0),some (.t 5,true)⟩,
 ⟨.t 7,.bin .leq (.t 6) (.c (.int .u8 122)),some (.t 5,true)⟩,⟨.t 8,.pick (.t 5) (.t 7) (.c (.bool false)),none⟩,⟨.p 2,.mov (.t 8),none⟩]) (.ret))
def cf_goboref11_small : CFunc :=
{ nargs := 1,ps := [0,2],results := [.slot 2],body := bd_goboref11_small }
def bd_goboref11_digit : CCode :=
 .seq (.reg [⟨.p 2,.mov (.c (.bool false)),none⟩]) (.seq (.reg [⟨.t 3,.mov (.p 0),none⟩,⟨.t 4,.bin .geq (.t 3) (.c (.int .u8 48)),none⟩,⟨.t 5,.mov (.t 4),none⟩,⟨.t 6,.mov (.p 0),some (.t 5,true)⟩,
 ⟨.t 7,.bin .leq (.t 6) (.c (.int .u8 57)),some (.t 5,true)⟩,⟨.t 8,.pick (.t 5) (.t 7) (.c (.bool false)),none⟩,⟨.p 2,.mov (.t 8),none⟩]) (.ret))
def cf_goboref11_digit : CFunc :=
{ nargs := 1,ps := [0,2],results := [.slot 2],body := bd_goboref11_digit }
def bd_decode_Dec_take : CCode :=
 .seq (.seq (.reg [⟨.t 4,.mov (.p 0),none⟩,⟨.t 5,.mov (.p 1),none⟩,⟨.p 6,.call F_decode_Dec_more [.t 4,.t 5],none⟩]) (.cond (.p 6) (.ret) (.skip))) (.seq (.seq (.reg [⟨.t 7,.mov (.p 0),none⟩,
 ⟨.t 8,.nilCheck (.t 7),none⟩,⟨.t 9,.fieldAddr 0 (.t 8),none⟩,⟨.t 10,.load1 (.t 9),none⟩,⟨.t 11,.lenSl (.t 10),none⟩,⟨.p 12,.bin .gtr (.t 11) (.c (.int .i64 0)),none⟩]) (.cond (.p 12) (.seq (.reg [⟨.t 13,.mov (.p 0),none⟩,
 ⟨.t 14,.call F_decode_Dec_tell [.t 13,.c (.bool true),.c (.bool true)],none⟩]) (.seq (.reg [⟨.t 15,.mov (.p 0),none⟩,⟨.t 16,.mov (.p 1),none⟩,⟨.t 17,.call F_decode_Dec_take [.t 15,.t 16],none⟩]) (.ret))) (.skip))) (.seq (.reg [⟨.t 18,.mov (.p 0),none⟩,
 ⟨.t 19,.mov (.p 1),none⟩,⟨.t 20,.lit [.int .u8 0] 1 [(0,1,.t 19)],none⟩,⟨.t 21,.nilCheck (.t 18),none⟩,⟨.t 22,.fieldAddr 0 (.t 21),none⟩,⟨.no,.store 1 (.t 22) (.t 20),none⟩]) (.reg [⟨.t 23,.mov (.p 0),none⟩,
 ⟨.t 24,.call F_decode_Dec_tell [.t 23,.c (.bool true),.c (.bool false)],none⟩])))
def cf_decode_Dec_take : CFunc :=
{ nargs := 2,ps := [0,1,6,12],results := [],body := bd_decode_Dec_take }
def bd_decode_Dec_taken : CCode :=
 .seq (.reg [⟨.p 2,.mov (.c (.nils)),none⟩]) (.seq (.reg [⟨.t 4,.mov (.p 0),none⟩,⟨.t 5,.nilCheck (.t 4),none⟩,⟨.t 6,.fieldAddr 3 (.t 5),none⟩,⟨.t 7,.load1 (.t 6),none⟩,⟨.p 3,.mov (.t 7),none⟩]) (.seq (.reg [⟨.t 8,.mov (.p 0),none⟩,
 ⟨.t 9,.nilCheck (.t 8),none⟩,⟨.t 10,.fieldAddr 3 (.t 9),none⟩,⟨.no,.store 1 (.t 10) (.c (.nils)),none⟩]) (.seq (.reg [⟨.t 11,.mov (.p 3),none⟩,⟨.p 2,.mov (.t 11),none⟩]) (.ret))))
def cf_decode_Dec_taken : CFunc :=
{ nargs := 1,ps := [0,2,3],results := [.slot 2],body := bd_decode_Dec_taken }
def bd_decode_Dec_tell : CCode :=
 .seq (.dreg [⟨⟨.t 7,.mov (.p 0),none⟩,false,false,[]⟩,⟨⟨.t 8,.nilCheck (.t 7),none⟩,false,false,[]⟩,⟨⟨.t 9,.fieldAddr 1 (.t 8),none⟩,false,false,[]⟩,⟨⟨.t 10,.load1 (.t 9),none⟩,true,false,[]⟩,
 ⟨⟨.t 11,.mov (.p 0),none⟩,false,false,[]⟩,⟨⟨.t 12,.nilCheck (.t 11),none⟩,false,false,[]⟩,⟨⟨.t 13,.fieldAddr 1 (.t 12),none⟩,false,false,[]⟩,⟨⟨.t 14,.load1 (.t 13),none⟩,true,false,[]⟩,
 ⟨⟨.t 15,.mov (.p 0),none⟩,false,false,[]⟩,⟨⟨.t 16,.nilCheck (.t 15),none⟩,false,false,[]⟩,⟨⟨.t 17,.fieldAddr 0 (.t 16),none⟩,false,false,[]⟩,⟨⟨.t 18,.load1 (.t 17),none⟩,true,false,[]⟩,
 ⟨⟨.t 19,.lenSl (.t 18),none⟩,false,false,[]⟩,⟨⟨.t 20,.bin .add (.t 14) (.t 19),none⟩,false,false,[]⟩,⟨⟨.t 21,.mov (.p 1),none⟩,false,false,[]⟩,⟨⟨.t 22,.mov (.p 2),none⟩,false,false,[]⟩,
 ⟨⟨.t 23,.build [.int .i32 0,.int .i64 0,.int .i64 0,.bool false,.bool false] [(0,1,.c (.int .i32 65533)),(1,1,.t 10),(2,1,.t 20),(3,1,.t 21),(4,1,.t 22)],none⟩,false,false,[]⟩,⟨⟨.p 6,.alloc [.int .i32 0,.int .i64 0,.int .i64 0,.bool false,.bool false],none⟩,false,false,[3,7,11]⟩,
 ⟨⟨.no,.store 5 (.p 6) (.t 23),none⟩,false,false,[]⟩]) (.seq (.seq (.reg [⟨.t 24,.mov (.p 1),none⟩,⟨.p 25,.un .not (.t 24),none⟩]) (.cond (.p 25) (.reg [⟨.t 27,.mov (.p 0),none⟩,⟨.t 28,.nilCheck (.t 27),none⟩,
 ⟨.t 29,.fieldAddr 0 (.t 28),none⟩,⟨.t 30,.load1 (.t 29),none⟩,⟨.t 31,.call F_utf8_DecodeRune [.t 30],none⟩,⟨.t 26,.mov (.t 31),none⟩,⟨.t 32,.extract (.t 26) 0,none⟩,⟨.t 33,.extract (.t 26) 1,none⟩,
 ⟨.t 34,.fieldAddr 0 (.p 6),none⟩,⟨.no,.store 1 (.t 34) (.t 32),none⟩]) (.skip))) (.seq (.dreg [⟨⟨.t 35,.mov (.p 0),none⟩,false,false,[]⟩,⟨⟨.t 36,.mov (.p 0),none⟩,false,false,[]⟩,⟨⟨.t 37,.nilCheck (.t 36),none⟩,false,false,[]⟩,
 ⟨⟨.t 38,.fieldAddr 3 (.t 37),none⟩,false,false,[]⟩,⟨⟨.t 39,.load1 (.t 38),none⟩,true,false,[]⟩,⟨⟨.t 40,.loadN 5 (.p 6),none⟩,false,false,[]⟩,⟨⟨.t 41,.lit [.int .i32 0,.int .i64 0,.int .i64 0,.bool false,.bool false] 1 [(0,5,.t 40)],none⟩,false,false,[4]⟩,
 ⟨⟨.t 42,.append 5 32 (.t 39) (.t 41),none⟩,false,false,[]⟩,⟨⟨.t 43,.nilCheck (.t 35),none⟩,false,false,[]⟩,⟨⟨.t 44,.fieldAddr 3 (.t 43),none⟩,false,false,[]⟩,⟨⟨.no,.store 1 (.t 44) (.t 42),none⟩,false,false,[]⟩]) (.dreg [⟨⟨.t 45,.mov (.p 0),none⟩,false,false,[]⟩,
 ⟨⟨.t 46,.mov (.p 0),none⟩,false,false,[]⟩,⟨⟨.t 47,.fieldAddr 2 (.p 6),none⟩,false,false,[]⟩,⟨⟨.t 48,.load1 (.t 47),none⟩,true,false,[]⟩,⟨⟨.t 49,.nilCheck (.t 45),none⟩,false,false,[]⟩,
 ⟨⟨.t 50,.fieldAddr 0 (.t 49),none⟩,false,false,[]⟩,⟨⟨.no,.store 1 (.t 50) (.c (.nils)),none⟩,false,false,[3]⟩,⟨⟨.t 51,.nilCheck (.t 46),none⟩,false,false,[]⟩,⟨⟨.t 52,.fieldAddr 1 (.t 51),none⟩,false,false,[]⟩,
 ⟨⟨.no,.store 1 (.t 52) (.t 48),none⟩,false,false,[]⟩])))
def cf_decode_Dec_tell : CFunc :=
{ nargs := 3,ps := [0,1,2,6,25],results := [],body := bd_decode_Dec_tell }
end Go.Ev
