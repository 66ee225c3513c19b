/- What the proof of the claim leans on, part 3 of 5: the value machine, the functions as it has them, their specifications. No condition. -/
import Derived.Test.YtoeblkipfdnnlaaGreatDoorC2
import Derived.Test.YtoeblkipfdnnlaaGreatDoorChecked
import Derived.KernelRfl
import Derived.WalkKit
set_option linter.all false
set_option linter.unnecessarySimpa false
set_option linter.unusedSimpArgs false
set_option linter.unusedVariables false
set_option linter.constructorNameAsVariable false
set_option maxHeartbeats 4000000
section
namespace Go.Proofs.YtoeblkipfdnnlaaGreatDoor
open Go Go.Sx
def ir156_0:IRC:=(.seq (.tidy [0] []) (.seq (.seq (.regq true [qM 42 0,qX 43 (.len true (.t 42)),qB 44 .gtr (.t 43) (qi 32),qM 45 44,qM 46 0 (qy 45),qC 47 184 [(.t 46)] (qy 45),qM 48 0 (qy 45),qX 49 (.slStr (.t 48) (some (qi 8)) none) (qy 45),qC 50 184 [(.t 49)] (qy 45),qB 51 .or (.t 47) (.t 50) (qy 45),qM 52 0 (qy 45),qX 53 (.slStr (.t 52) (some (qi 16)) none) (qy 45),qC 54 184 [(.t 53)] (qy 45),qM 55 0 (qy 45),qX 56 (.slStr (.t 55) (some (qi 24)) none) (qy 45),qC 57 184 [(.t 56)] (qy 45),qB 58 .or (.t 54) (.t 57) (qy 45),qB 59 .or (.t 51) (.t 58) (qy 45),qB 60 .and (.t 59) (qu 9259542123273814144) (qy 45),qB 61 .eql (.t 60) (qu 0) (qy 45),qA 62 45 61] [0,62]) (.seq (.cond (.t 62) .skip (.seq (qR [0]) (.exit 2))) (qR [0]))) (.block 3 (.region [qM 63 0,qX 64 (.slStr (.t 63) (some (qi 32)) none),qM 0 64] none [0]))))
def ir156_1:IRC:=(.seq (.tidy [0] []) (.seq (.seq (.region [qM 7 0,qX 8 (.len true (.t 7)),qB 9 .gtr (.t 8) (qi 0)] none [0,9]) (.seq (.cond (.t 9) .skip (.seq (qR []) (.exit 0))) (qR [0]))) (.block 1 (.seq (.region [qM 10 0,qX 11 (.idxStr (.t 10) (qi 0)),qM 3 11] none [0,3]) (.seq (.seq (.region [qM 12 3,qB 13 .lss (.t 12) (.c (.p (.s (.int .u8 128))))] none [0,3,13]) (.seq (.cond (.t 13) (.seq (.region [qM 14 0,qX 15 (.slStr (.t 14) (some (qi 1)) none),qM 0 15] none [0]) (.seq (.seq (.region [qM 16 0,qX 17 (.len true (.t 16)),qB 18 .gtr (.t 17) (qi 8),qM 19 18,qM 20 0 (qy 19),qC 21 184 [(.t 20)] (qy 19),qB 22 .and (.t 21) (qu 9259542123273814144) (qy 19),qB 23 .eql (.t 22) (qu 0) (qy 19),qA 24 19 23] none [0,24]) (.seq (.cond (.t 24) (.seq (.region [qM 25 0,qX 26 (.slStr (.t 25) (some (qi 8)) none),qM 0 26] none [0]) (.seq (.regq true [qM 27 0,qX 28 (.len true (.t 27)),qB 29 .gtr (.t 28) (qi 16),qM 30 29,qM 31 0 (qy 30),qC 32 184 [(.t 31)] (qy 30),qM 33 0 (qy 30),qX 34 (.slStr (.t 33) (some (qi 8)) none) (qy 30),qC 35 184 [(.t 34)] (qy 30),qB 36 .or (.t 32) (.t 35) (qy 30),qB 37 .and (.t 36) (qu 9259542123273814144) (qy 30),qB 38 .eql (.t 37) (qu 0) (qy 30),qA 39 30 38] [0,39]) (.seq (.cond (.t 39) (.seq (.region [qM 40 0,qX 41 (.slStr (.t 40) (some (qi 16)) none),qM 0 41] none [0]) (.block 2 (.loop ir156_0))) .skip) (qR [0])))) .skip) (qR [0]))) (.seq (qR [0]) (.exit 1)))) .skip) (qR [0,3]))) (.seq (.region [qM 65 3,qX 66 (.idxAArr 256 1 (.g 1) (.t 65)),qL 67 1 66,qM 4 67] none [0,4]) (.seq (.region [qM 68 4,qB 69 .and (.t 68) (.c (.p (.s (.int .u8 7)))),qX 70 (.cvt .i64 (.t 69)),qM 5 70] none [0,4,5]) (.seq (.seq (.region [qM 71 4,qB 72 .shr (.t 71) (qu 4),qX 73 (.idxAArr 16 2 (.g 2) (.t 72)),qT 74 2 73,qX 6 (.alloc false [(.s (.int .u8 0)),(.s (.int .u8 0))]),qS 2 6 74] none [0,5,6]) (.tidy [0,5] [6])) (.seq (.region [qM 75 5] none [0,6,75]) (.block 4 (.seq (.region [qB 77 .eql (.t 75) (qi 2),qM 76 77] none [0,6,75,76]) (.seq (.cond (.t 76) (.seq (.seq (.regq true [qM 78 0,qX 79 (.len true (.t 78)),qB 80 .lss (.t 79) (qi 2),qM 81 80,qM 82 0 (qn 81),qX 83 (.idxStr (.t 82) (qi 1)) (qn 81),qF 84 0 6 (qn 81),qL 85 1 84 (qn 81),qB 86 .lss (.t 83) (.t 85) (qn 81),qO 87 81 86,qM 88 87,qF 89 1 6 (qn 88),qL 90 1 89 (qn 88),qM 91 0 (qn 88),qX 92 (.idxStr (.t 91) (qi 1)) (qn 88),qB 93 .lss (.t 90) (.t 92) (qn 88),qO 94 88 93] [0,94]) (.seq (.cond (.t 94) (.seq (.region [qV 2 qf] none [2]) .ret) .skip) (qR [0]))) (.region [qM 95 0,qX 96 (.slStr (.t 95) (some (qi 2)) none),qM 0 96] none [0])) (.seq (.region [qB 98 .eql (.t 75) (qi 3),qM 97 98] none [0,6,75,97]) (.seq (.cond (.t 97) (.seq (.seq (.regq true [qM 99 0,qX 100 (.len true (.t 99)),qB 101 .lss (.t 100) (qi 3),qM 102 101,qM 103 0 (qn 102),qX 104 (.idxStr (.t 103) (qi 1)) (qn 102),qF 105 0 6 (qn 102),qL 106 1 105 (qn 102),qB 107 .lss (.t 104) (.t 106) (qn 102),qO 108 102 107,qM 109 108,qF 110 1 6 (qn 109),qL 111 1 110 (qn 109),qM 112 0 (qn 109),qX 113 (.idxStr (.t 112) (qi 1)) (qn 109),qB 114 .lss (.t 111) (.t 113) (qn 109),qO 115 109 114,qM 116 115,qM 117 0 (qn 116),qX 118 (.idxStr (.t 117) (qi 2)) (qn 116),qB 119 .lss (.t 118) (.c (.p (.s (.int .u8 128)))) (qn 116),qO 120 116 119,qM 121 120,qM 122 0 (qn 121),qX 123 (.idxStr (.t 122) (qi 2)) (qn 121),qB 124 .lss (.c (.p (.s (.int .u8 191)))) (.t 123) (qn 121),qO 125 121 124] [0,125]) (.seq (.cond (.t 125) (.seq (.region [qV 2 qf] none [2]) .ret) .skip) (qR [0]))) (.region [qM 126 0,qX 127 (.slStr (.t 126) (some (qi 3)) none),qM 0 127] none [0])) (.seq (.region [qB 129 .eql (.t 75) (qi 4),qM 128 129] none [0,6,128]) (.seq (.cond (.t 128) (.seq (.seq (.regq true [qM 130 0,qX 131 (.len true (.t 130)),qB 132 .lss (.t 131) (qi 4),qM 133 132,qM 134 0 (qn 133),qX 135 (.idxStr (.t 134) (qi 1)) (qn 133),qF 136 0 6 (qn 133),qL 137 1 136 (qn 133),qB 138 .lss (.t 135) (.t 137) (qn 133),qO 139 133 138,qM 140 139,qF 141 1 6 (qn 140),qL 142 1 141 (qn 140),qM 143 0 (qn 140),qX 144 (.idxStr (.t 143) (qi 1)) (qn 140),qB 145 .lss (.t 142) (.t 144) (qn 140),qO 146 140 145,qM 147 146,qM 148 0 (qn 147),qX 149 (.idxStr (.t 148) (qi 2)) (qn 147),qB 150 .lss (.t 149) (.c (.p (.s (.int .u8 128)))) (qn 147),qO 151 147 150,qM 152 151,qM 153 0 (qn 152),qX 154 (.idxStr (.t 153) (qi 2)) (qn 152),qB 155 .lss (.c (.p (.s (.int .u8 191)))) (.t 154) (qn 152),qO 156 152 155,qM 157 156,qM 158 0 (qn 157),qX 159 (.idxStr (.t 158) (qi 3)) (qn 157),qB 160 .lss (.t 159) (.c (.p (.s (.int .u8 128)))) (qn 157),qO 161 157 160,qM 162 161,qM 163 0 (qn 162),qX 164 (.idxStr (.t 163) (qi 3)) (qn 162),qB 165 .lss (.c (.p (.s (.int .u8 191)))) (.t 164) (qn 162),qO 166 162 165] [0,166]) (.seq (.cond (.t 166) (.seq (.region [qV 2 qf] none [2]) .ret) .skip) (qR [0]))) (.region [qM 167 0,qX 168 (.slStr (.t 167) (some (qi 4)) none),qM 0 168] none [0])) (.seq (.region [qV 2 qf] none [2]) .ret)) (qR [0])))) (qR [0])))) (qR [0])))))))))))))
def ir156:IRF:=⟨[0],(.seq (.region [qV 2 qf] none [0]) (.seq (.block 0 (.loop ir156_1)) (.seq (.region [qV 2 qt] none [2]) .ret))),[(2,none)],false⟩
def ir157:IRF:=⟨[0,1],(.seq (.region [qV 4 qf] none [0,1]) (.seq (.region [qM 5 0,qM 6 1,qC 7 185 [(.t 5),(.t 6)],qB 8 .geq (.t 7) (qi 0),qM 4 8] none [4]) .ret)),[(4,none)],false⟩
def ir158:IRF:=⟨[0],(.seq (.region [qV 2 qf] none [0]) (.seq (.region [qM 3 0,qC 4 159 [(.t 3)],qX 5 (.un .not (.t 4)),qM 2 5] none [2]) .ret)),[(2,none)],false⟩
def ir159:IRF:=⟨[0],(.seq (.region [qV 2 qf] none [0]) (.seq (.region [qM 3 0,qB 4 .geq (.t 3) (.c (.p (.s (.int .i32 32)))),qM 5 4,qM 6 0 (qy 5),qB 7 .neq (.t 6) (.c (.p (.s (.int .i32 127)))) (qy 5),qA 8 5 7,qM 2 8] none [2]) .ret)),[(2,none)],false⟩
def ir160:IRF:=⟨[0,1],(.seq (.region [qV 4 (.c (.p zE0))] none [0,1]) (.seq (.region [qM 5 0,qM 6 1,qC 7 186 [(.t 5),(.t 6)],qM 4 7] none [4]) .ret)),[(4,none)],false⟩
def ir164_0:IRC:=(.seq (.tidy [0,1,2,3,4,10,11] []) (.block 1 (.seq (.region [qM 21 2,qM 22 1,qB 23 .sub (.t 21) (.t 22),qM 12 23] none [0,1,2,3,4,10,11,12]) (.seq (.seq (.region [qM 24 12,qB 25 .leq (.t 24) (qi 12)] none [0,1,2,3,4,10,11,12,25]) (.cond (.t 25) (.seq (.region [qM 26 0,qM 27 1,qM 28 2,qM 29 4,qC 30 196 [(.t 26),(.t 27),(.t 28),(.t 29)]] none []) .ret) .skip)) (.seq (.seq (.region [qM 31 3,qB 32 .eql (.t 31) (qi 0)] none [0,1,2,3,4,10,11,12,32]) (.cond (.t 32) (.seq (.region [qM 33 0,qM 34 1,qM 35 2,qM 36 4,qC 37 197 [(.t 33),(.t 34),(.t 35),(.t 36)]] none []) .ret) .skip)) (.seq (.seq (.region [qM 38 10,qX 39 (.un .not (.t 38))] none [0,1,2,3,4,10,11,12,39]) (.cond (.t 39) (.seq (.region [qM 40 0,qM 41 1,qM 42 2,qM 43 4,qC 44 198 [(.t 40),(.t 41),(.t 42),(.t 43)]] none [0,1,2,3,4,10,11,12]) (.region [qM 45 3,qB 46 .sub (.t 45) (qi 1),qM 3 46] none [0,1,2,3,4,10,11,12])) .skip)) (.seq (.region [qM 48 0,qM 49 1,qM 50 2,qM 51 4,qC 52 199 [(.t 48),(.t 49),(.t 50),(.t 51)],qM 47 52,qE 53 47 0,qE 54 47 1,qM 13 53,qM 14 54] none [0,1,2,3,4,10,11,12,13,14]) (.seq (.seq (.region [qM 55 14,qB 56 .eql (.t 55) (qi 2)] none [0,1,2,3,4,10,11,12,13,14,56]) (.cond (.t 56) (.seq (.region [qM 57 0,qM 58 1,qM 59 2,qM 60 4,qC 61 200 [(.t 57),(.t 58),(.t 59),(.t 60)]] none [0,1,2,3,4,10,11,12,13]) (.seq (.region [qM 62 2,qB 63 .sub (.t 62) (qi 1),qM 64 13,qM 65 1,qB 66 .sub (.t 64) (.t 65),qB 67 .sub (.t 63) (.t 66),qM 13 67] none [0,1,2,3,4,10,11,12,13]) (.region [qV 14 (qi 1)] none [0,1,2,3,4,10,11,12,13,14]))) .skip)) (.seq (.seq (.region [qM 68 10,qM 69 68,qM 70 11 (qy 69),qA 71 69 70,qM 72 71,qM 73 14 (qy 72),qB 74 .eql (.t 73) (qi 1) (qy 72),qA 75 72 74] none [0,1,2,3,4,10,11,12,13,75]) (.cond (.t 75) (.seq (.region [qM 76 0,qM 77 1,qM 78 2,qM 79 4,qC 80 201 [(.t 76),(.t 77),(.t 78),(.t 79)]] none [0,1,2,3,4,10,11,12,13,80]) (.cond (.t 80) .ret .skip)) .skip)) (.seq (.seq (.region [qM 81 1,qB 82 .gtr (.t 81) (qi 0),qM 83 82,qM 84 4 (qy 83),qM 85 0 (qy 83),qM 86 1 (qy 83),qB 87 .sub (.t 86) (qi 1) (qy 83),qX 88 (.idxASl 3 (.t 85) (.t 87)) (qy 83),qT 89 3 88 (qy 83),qM 90 0 (qy 83),qM 91 13 (qy 83),qX 92 (.idxASl 3 (.t 90) (.t 91)) (qy 83),qT 93 3 92 (qy 83),qX 94 (.callv (.t 84) [(.t 89),(.t 93)]) (qy 83),qB 95 .lss (.t 94) (qi 0) (qy 83),qX 96 (.un .not (.t 95)) (qy 83),qA 97 83 96] (some [0,1,3,7,7,7,39,119,247,7,7,1543,3591,8191,16383,32767,65535]) [0,1,2,3,4,10,11,12,13,97]) (.cond (.t 97) (.seq (.region [qM 98 0,qM 99 1,qM 100 2,qM 101 13,qM 102 4,qC 103 202 [(.t 98),(.t 99),(.t 100),(.t 101),(.t 102)],qM 15 103] none [0,2,3,4,10,11,15]) (.seq (.region [qM 104 15,qM 1 104] none [0,1,2,3,4,10,11]) (.exit 1))) .skip)) (.seq (.region [qM 106 0,qM 107 1,qM 108 2,qM 109 13,qM 110 4,qC 111 203 [(.t 106),(.t 107),(.t 108),(.t 109),(.t 110)],qM 105 111,qE 112 105 0,qE 113 105 1,qM 16 112,qM 17 113] none [0,1,2,3,4,12,16,17]) (.seq (.region [qM 114 17,qM 11 114] none [0,1,2,3,4,11,12,16]) (.seq (.region [qM 115 16,qM 116 1,qB 117 .sub (.t 115) (.t 116),qM 118 2,qM 119 16,qB 120 .sub (.t 118) (.t 119),qM 18 117,qM 19 120] none [0,1,2,3,4,11,12,16,18,19]) (.seq (.region [qM 121 12,qB 122 .quo (.t 121) (qi 8),qM 20 122] none [0,1,2,3,4,11,16,18,19,20]) (.seq (.region [qM 123 18,qM 124 19,qB 125 .lss (.t 123) (.t 124)] none [0,1,2,3,4,11,16,18,19,20,125]) (.cond (.t 125) (.seq (.region [qM 126 18,qM 127 20,qB 128 .geq (.t 126) (.t 127),qM 10 128] none [0,1,2,3,4,10,11,16]) (.seq (.region [qM 129 0,qM 130 1,qM 131 16,qM 132 3,qM 133 4,qC 134 164 [(.t 129),(.t 130),(.t 131),(.t 132),(.t 133)]] none [0,2,3,4,10,11,16]) (.region [qM 135 16,qB 136 .add (.t 135) (qi 1),qM 1 136] none [0,1,2,3,4,10,11]))) (.seq (.region [qM 137 19,qM 138 20,qB 139 .geq (.t 137) (.t 138),qM 10 139] none [0,1,2,3,4,10,11,16]) (.seq (.region [qM 140 0,qM 141 16,qB 142 .add (.t 141) (qi 1),qM 143 2,qM 144 3,qM 145 4,qC 146 164 [(.t 140),(.t 142),(.t 143),(.t 144),(.t 145)]] none [0,1,3,4,10,11,16]) (.region [qM 147 16,qM 2 147] none [0,1,2,3,4,10,11])))))))))))))))))))
def ir164:IRF:=⟨[0,1,2,3,4],(.seq (.region [qV 10 qt] none [0,1,2,3,4,10]) (.seq (.region [qV 11 qt] none [0,1,2,3,4,10,11]) (.block 0 (.loop ir164_0)))),[],false⟩
def ir165:IRF:=⟨[0],(.seq (.region [qV 2 (qi 0)] none [0]) (.seq (.cond qf (.seq (.region [qM 3 0,qX 4 (.cvt .u32 (.t 3)),qC 5 204 [(.t 4)],qM 2 5] none [2]) .ret) .skip) (.seq (.region [qM 6 0,qC 7 205 [(.t 6)],qM 2 7] none [2]) .ret))),[(2,none)],false⟩
def ir169:IRF:=⟨[0,1],(.seq (.region [qV 4 (qu 0)] none [0,1]) (.seq (.seq (.region [qM 6 0,qC 7 173 [(.t 6)],qX 8 (.un .not (.t 7))] none [0,1,8]) (.seq (.cond (.t 8) (.seq (.region [qV 4 (qu 0)] none [4]) .ret) .skip) (qR [0,1]))) (.seq (.region [qM 9 0,qN 10 9,qF 11 0 10,qL 12 1 11,qM 13 1,qC 14 177 [(.t 12),(.t 13)],qM 5 14] none [0,5]) (.seq (.region [qM 15 0,qC 16 173 [(.t 15)]] none [5]) (.seq (.region [qM 17 5,qM 4 17] none [4]) .ret))))),[(4,none)],false⟩
def ir170:IRF:=⟨[0],(.seq (.region [qV 2 (qu 0)] none [0]) (.seq (.seq (.region [qM 4 0,qC 5 173 [(.t 4)],qX 6 (.un .not (.t 5))] none [0,6]) (.seq (.cond (.t 6) (.seq (.region [qV 2 (qu 0)] none [2]) .ret) .skip) (qR [0]))) (.seq (.region [qM 7 0,qN 8 7,qF 9 0 8,qL 10 1 9,qC 11 208 [(.t 10)],qM 3 11] none [0,3]) (.seq (.seq (.region [qM 12 0,qC 13 173 [(.t 12)],qM 14 13,qM 15 3 (qy 14),qB 16 .gtr (.t 15) (qu 1048576) (qy 14),qA 17 14 16] none [0,3,17]) (.seq (.cond (.t 17) (.region [qM 18 0,qC 19 171 [(.t 18),(qi 4)]] none [3]) .skip) (qR [3]))) (.seq (.region [qM 20 3,qM 2 20] none [2]) .ret))))),[(2,none)],false⟩
def ir171:IRF:=⟨[0,1],(.seq (.region [qM 4 0,qN 5 4,qF 6 1 5,qL 7 1 6,qB 8 .eql (.t 7) (qi 0)] none [0,1,8]) (.seq (.cond (.t 8) (.region [qM 9 0,qM 10 1,qN 11 9,qF 12 1 11,qS 1 12 10] none []) .skip) (qR []))),[],false⟩
def ir172:IRF:=⟨[0,1],(.seq (.region [qM 4 1,qX 5 (.un .not (.t 4))] none [0,5]) (.seq (.cond (.t 5) (.region [qM 6 0,qC 7 171 [(.t 6),(qi 6)]] none []) .skip) (qR []))),[],false⟩
def ir173:IRF:=⟨[0],(.seq (.region [qV 2 qf] none [0]) (.seq (.seq (.region [qM 3 0,qN 4 3,qF 5 0 4,qL 6 1 5,qC 7 175 [(.t 6)],qB 8 .neq (.t 7) (qi 0)] none [0,8]) (.seq (.cond (.t 8) (.region [qM 9 0,qC 10 171 [(.t 9),(qi 6)]] none [0]) .skip) (qR [0]))) (.seq (.region [qM 11 0,qN 12 11,qF 13 1 12,qL 14 1 13,qB 15 .eql (.t 14) (qi 0),qM 2 15] none [2]) .ret))),[(2,none)],false⟩
def ir174:IRF:=⟨[0,1,2,3],(.seq (.region [qX 6 (.box true (.t 2)),qX 7 (.box true (.t 3)),qX 8 (.alloc false [zu,zp])] none [0,1,6,7,8]) (.seq (.seq (.region [qM 12 1,qT 13 2 6,qT 14 2 7,qC 15 64 [(.t 12),(.t 13),(.t 14)],qM 11 15,qE 16 11 0,qE 17 11 1,qX 9 (.alloc false [zu,zp]),qS 2 9 16,qM 10 17] none [0,8,9,10]) (.tidy [0,8,10] [9])) (.seq (.seq (.region [qM 18 10,qB 19 .neq (.t 18) (qi 0)] none [0,8,9,10,19]) (.seq (.cond (.t 19) (.region [qM 20 0,qM 21 10,qC 22 171 [(.t 20),(.t 21)]] none [8,9]) .skip) (qR [8,9]))) (.seq (.region [qT 23 2 9,qS 2 8 23] none [8]) .ret)))),[(8,some (2,true))],false⟩
def ir175:IRF:=⟨[0],(.seq (.region [qV 2 (qi 0)] none [0]) (.seq (.seq (.region [qM 3 0,qX 4 (.eq false .ptr (.t 3) qp)] none [0,4]) (.seq (.cond (.t 4) (.seq (.region [qV 2 (qi 2)] none [2]) .ret) .skip) (qR [0]))) (.seq (.region [qM 5 0,qN 6 5,qF 7 2 6,qL 8 1 7,qM 2 8] none [2]) .ret))),[(2,none)],false⟩
def ir176:IRF:=⟨[0],(.seq (.region [qV 2 (qi 0)] none [0]) (.seq (.seq (.region [qM 3 0,qX 4 (.eq false .ptr (.t 3) qp)] none [0,4]) (.seq (.cond (.t 4) (.seq (.region [qV 2 (qi 0)] none [2]) .ret) .skip) (qR [0]))) (.seq (.regq true [qM 5 0,qN 6 5,qF 7 0 6,qL 8 1 7,qX 9 (.len false (.t 8)),qB 10 .mul (qi 8) (.t 9),qM 11 0,qN 12 11,qF 13 1 12,qL 14 1 13,qB 15 .sub (.t 10) (.t 14),qM 2 15] [2]) .ret))),[(2,none)],false⟩
def ir177_0:IRC:=(.seq (.tidy [0,5,20,21] []) (.seq (.region [qB 22 .lss (.t 21) (.t 20)] none [0,5,20,21,22]) (.seq (.seq (.cond (.t 22) .skip (.seq (qR [5]) (.exit 0))) (qR [0,5,20,21])) (.seq (.block 1 (.seq (.regq true [qM 23 0,qN 24 23,qF 25 0 24,qL 26 1 25,qM 27 0,qN 28 27,qF 29 1 28,qL 30 1 29,qB 31 .quo (.t 30) (qi 8),qX 32 (.idxASl 1 (.t 26) (.t 31)),qL 33 1 32,qM 34 0,qN 35 34,qF 36 1 35,qL 37 1 36,qB 38 .rem (.t 37) (qi 8),qB 39 .sub (qi 7) (.t 38),qB 40 .shr (.t 33) (.t 39),qB 41 .and (.t 40) (.c (.p (.s (.int .u8 1)))),qM 6 41] [0,5,6,20,21]) (.seq (.region [qM 42 5,qB 43 .shl (.t 42) (qu 1),qM 44 6,qX 45 (.cvt .u64 (.t 44)),qB 46 .or (.t 43) (.t 45),qM 5 46] none [0,5,20,21]) (.region [qM 47 0,qN 48 47,qF 49 1 48,qL 50 1 49,qB 51 .add (.t 50) (qi 1),qN 52 47,qF 53 1 52,qS 1 53 51] none [0,5,20,21])))) (.region [qB 54 .add (.t 21) (qi 1),qM 21 54] none [0,5,20,21])))))
def ir177:IRF:=⟨[0,1],(.seq (.region [qV 4 (qu 0)] none [0,1]) (.seq (.region [qM 7 1,qC 8 180 [(.t 7)],qM 1 8] none [0,1]) (.seq (.seq (.region [qM 9 0,qC 10 175 [(.t 9)],qB 11 .neq (.t 10) (qi 0),qM 12 11,qM 13 0 (qn 12),qC 14 176 [(.t 13)] (qn 12),qM 15 1 (qn 12),qB 16 .lss (.t 14) (.t 15) (qn 12),qO 17 12 16] none [0,1,17]) (.seq (.cond (.t 17) (.seq (.region [qM 18 0,qC 19 178 [(.t 18)],qM 4 19] none [4]) .ret) .skip) (qR [0,1]))) (.seq (.region [qV 5 (qu 0)] none [0,1,5]) (.seq (.seq (.region [qM 20 1,qV 21 (qi 0)] none [0,5,20,21]) (.block 0 (.loop ir177_0))) (.seq (.region [qM 55 5,qM 4 55] none [4]) .ret)))))),[(4,none)],false⟩
def ir178:IRF:=⟨[0],(.seq (.region [qV 2 (qu 0)] none [0]) (.seq (.seq (.region [qM 3 0,qX 4 (.eq true .ptr (.t 3) qp),qM 5 4,qM 6 0 (qy 5),qN 7 6 (qy 5),qF 8 2 7 (qy 5),qL 9 1 8 (qy 5),qB 10 .eql (.t 9) (qi 0) (qy 5),qA 11 5 10] none [0,11]) (.seq (.cond (.t 11) (.region [qM 12 0,qN 13 12,qF 14 2 13,⟨none,(.store 1 (.t 14) (qi 6)),none⟩] none []) .skip) (qR []))) (.seq (.region [qV 2 (qu 0)] none [2]) .ret))),[(2,none)],false⟩
def ir180:IRF:=⟨[0],(.seq (.region [qV 2 (qi 0)] none [0]) (.seq (.region [qM 3 0,qX 4 (.minmax true [(.t 3),(qi 0)]),qX 5 (.minmax false [(.t 4),(qi 64)]),qM 2 5] none [2]) .ret)),[(2,none)],false⟩
def ir181_0:IRC:=(.seq (.tidy [1,8,9,10,11,12,13,99,100,101] []) (.seq (.region [qB 102 .lss (.t 101) (.t 100)] none [1,8,9,10,11,12,13,99,100,101,102]) (.seq (.seq (.cond (.t 102) .skip (.seq (qR [9,12,13]) (.exit 3))) (qR [1,8,9,10,11,12,13,99,100,101])) (.seq (.block 4 (.seq (.region [qX 103 (.idxASl 1 (.t 99) (.t 101)),qL 104 1 103,qM 15 104] none [1,8,9,10,11,12,13,15,99,100,101]) (.seq (.region [qV 16 (.c (.p (.s (.int .u8 0))))] none [1,8,9,10,11,12,13,15,99,100,101]) (.seq (.block 5 (.seq (.region [qM 107 15,qB 108 .eql (.t 107) (.c (.p (.s (.int .u8 95)))),qM 109 108,qM 110 8 (qy 109),qA 111 109 110,qM 106 111] none [1,8,9,10,11,12,13,15,99,100,101,106]) (.seq (.cond (.t 106) (.seq (.region [qV 12 qt] none [1,8,9,10,11,12,13,99,100,101]) (.seq (qR [1,8,9,10,11,12,13,99,100,101]) (.exit 4))) (.seq (.region [qM 113 15,qB 114 .leq (.c (.p (.s (.int .u8 48)))) (.t 113),qM 115 114,qM 116 15 (qy 115),qB 117 .leq (.t 116) (.c (.p (.s (.int .u8 57)))) (qy 115),qA 118 115 117,qM 112 118] none [1,8,9,10,11,12,13,15,99,100,101,112]) (.seq (.cond (.t 112) (.region [qM 119 15,qB 120 .sub (.t 119) (.c (.p (.s (.int .u8 48)))),qM 16 120] none [1,8,9,10,11,12,13,16,99,100,101]) (.seq (.region [qM 122 15,qC 123 209 [(.t 122)],qB 124 .leq (.c (.p (.s (.int .u8 97)))) (.t 123),qM 125 124,qM 126 15 (qy 125),qC 127 209 [(.t 126)] (qy 125),qB 128 .leq (.t 127) (.c (.p (.s (.int .u8 122)))) (qy 125),qA 129 125 128,qM 121 129] none [1,8,9,10,11,12,13,15,99,100,101,121]) (.seq (.cond (.t 121) (.region [qM 130 15,qC 131 209 [(.t 130)],qB 132 .sub (.t 131) (.c (.p (.s (.int .u8 97)))),qB 133 .add (.t 132) (.c (.p (.s (.int .u8 10)))),qM 16 133] none [1,8,9,10,11,12,13,16,99,100,101]) (.seq (.region [⟨(some 105),.bad,none⟩,qV 6 (qu 0),qM 7 105] none [6,7]) .ret)) (qR [1,8,9,10,11,12,13,16,99,100,101])))) (qR [1,8,9,10,11,12,13,16,99,100,101])))) (qR [1,8,9,10,11,12,13,16,99,100,101])))) (.seq (.seq (.region [qM 134 16,qM 135 1,qX 136 (.cvt .u8 (.t 135)),qB 137 .geq (.t 134) (.t 136)] none [1,8,9,10,11,12,13,16,99,100,101,137]) (.seq (.cond (.t 137) (.seq (.region [⟨(some 138),.bad,none⟩,qV 6 (qu 0),qM 7 138] none [6,7]) .ret) .skip) (qR [1,8,9,10,11,12,13,16,99,100,101]))) (.seq (.seq (.region [qM 139 13,qM 140 10,qB 141 .geq (.t 139) (.t 140)] none [1,8,9,10,11,12,13,16,99,100,101,141]) (.seq (.cond (.t 141) (.seq (.region [qM 142 11,⟨(some 143),.bad,none⟩,qM 6 142,qM 7 143] none [6,7]) .ret) .skip) (qR [1,8,9,10,11,12,13,16,99,100,101]))) (.seq (.region [qM 144 13,qM 145 1,qX 146 (.cvt .u64 (.t 145)),qB 147 .mul (.t 144) (.t 146),qM 13 147] none [1,8,9,10,11,12,13,16,99,100,101]) (.seq (.region [qM 148 13,qM 149 16,qX 150 (.cvt .u64 (.t 149)),qB 151 .add (.t 148) (.t 150),qM 17 151] none [1,8,9,10,11,12,13,17,99,100,101]) (.seq (.seq (.region [qM 152 17,qM 153 13,qB 154 .lss (.t 152) (.t 153),qM 155 154,qM 156 17 (qn 155),qM 157 11 (qn 155),qB 158 .gtr (.t 156) (.t 157) (qn 155),qO 159 155 158] none [1,8,9,10,11,12,17,99,100,101,159]) (.seq (.cond (.t 159) (.seq (.region [qM 160 11,⟨(some 161),.bad,none⟩,qM 6 160,qM 7 161] none [6,7]) .ret) .skip) (qR [1,8,9,10,11,12,17,99,100,101]))) (.region [qM 162 17,qM 13 162] none [1,8,9,10,11,12,13,99,100,101])))))))))) (.region [qB 163 .add (.t 101) (qi 1),qM 101 163] none [1,8,9,10,11,12,13,99,100,101])))))
def ir181:IRF:=⟨[0,1,2],(.seq (.region [qV 6 (qu 0),qV 7 (.c (.p (.s .nilIface)))] none [0,1,2]) (.seq (.seq (.region [qM 18 0,qB 19 .eql (.t 18) (.c (.p zE0))] none [0,1,2,19]) (.seq (.cond (.t 19) (.seq (.region [⟨(some 20),.bad,none⟩,qV 6 (qu 0),qM 7 20] none [6,7]) .ret) .skip) (qR [0,1,2]))) (.seq (.region [qM 21 1,qB 22 .eql (.t 21) (qi 0),qM 8 22] none [0,1,2,8]) (.seq (.region [qM 23 0,qM 9 23] none [0,1,2,8,9]) (.seq (.block 0 (.seq (.region [qM 26 1,qB 27 .leq (qi 2) (.t 26),qM 28 27,qM 29 1 (qy 28),qB 30 .leq (.t 29) (qi 36) (qy 28),qA 31 28 30,qM 25 31] none [0,1,2,8,9,25]) (.seq (.cond (.t 25) .skip (.seq (.region [qM 33 1,qB 34 .eql (.t 33) (qi 0),qM 32 34] none [0,2,8,9,32]) (.seq (.cond (.t 32) (.seq (.region [qV 1 (qi 10)] none [0,1,2,8,9]) (.seq (.region [qM 35 0,qX 36 (.idxStr (.t 35) (qi 0)),qB 37 .eql (.t 36) (.c (.p (.s (.int .u8 48))))] none [0,1,2,8,9,37]) (.seq (.cond (.t 37) (.block 1 (.seq (.region [qM 41 0,qX 42 (.len true (.t 41)),qB 43 .geq (.t 42) (qi 3),qM 44 43,qM 45 0 (qy 44),qX 46 (.idxStr (.t 45) (qi 1)) (qy 44),qC 47 209 [(.t 46)] (qy 44),qB 48 .eql (.t 47) (.c (.p (.s (.int .u8 98)))) (qy 44),qA 49 44 48,qM 40 49] none [0,2,8,9,40]) (.seq (.cond (.t 40) (.seq (.region [qV 1 (qi 2)] none [0,1,2,8,9]) (.region [qM 50 0,qX 51 (.slStr (.t 50) (some (qi 2)) none),qM 0 51] none [0,1,2,8,9])) (.seq (.region [qM 53 0,qX 54 (.len true (.t 53)),qB 55 .geq (.t 54) (qi 3),qM 56 55,qM 57 0 (qy 56),qX 58 (.idxStr (.t 57) (qi 1)) (qy 56),qC 59 209 [(.t 58)] (qy 56),qB 60 .eql (.t 59) (.c (.p (.s (.int .u8 111)))) (qy 56),qA 61 56 60,qM 52 61] none [0,2,8,9,52]) (.seq (.cond (.t 52) (.seq (.region [qV 1 (qi 8)] none [0,1,2,8,9]) (.region [qM 62 0,qX 63 (.slStr (.t 62) (some (qi 2)) none),qM 0 63] none [0,1,2,8,9])) (.seq (.region [qM 65 0,qX 66 (.len true (.t 65)),qB 67 .geq (.t 66) (qi 3),qM 68 67,qM 69 0 (qy 68),qX 70 (.idxStr (.t 69) (qi 1)) (qy 68),qC 71 209 [(.t 70)] (qy 68),qB 72 .eql (.t 71) (.c (.p (.s (.int .u8 120)))) (qy 68),qA 73 68 72,qM 64 73] none [0,2,8,9,64]) (.seq (.cond (.t 64) (.seq (.region [qV 1 (qi 16)] none [0,1,2,8,9]) (.region [qM 74 0,qX 75 (.slStr (.t 74) (some (qi 2)) none),qM 0 75] none [0,1,2,8,9])) (.seq (.region [qV 1 (qi 8)] none [0,1,2,8,9]) (.region [qM 38 0,qX 39 (.slStr (.t 38) (some (qi 1)) none),qM 0 39] none [0,1,2,8,9]))) (qR [0,1,2,8,9])))) (qR [0,1,2,8,9])))) (qR [0,1,2,8,9])))) .skip) (qR [0,1,2,8,9])))) (.seq (.region [⟨(some 24),.bad,none⟩,qV 6 (qu 0),qM 7 24] none [6,7]) .ret)) (qR [0,1,2,8,9])))) (qR [0,1,2,8,9])))) (.seq (.seq (.region [qM 76 2,qB 77 .eql (.t 76) (qi 0)] none [0,1,2,8,9,77]) (.seq (.cond (.t 77) (.region [qV 2 (qi 64)] none [0,1,2,8,9]) (.seq (.region [qM 78 2,qB 79 .lss (.t 78) (qi 0),qM 80 79,qM 81 2 (qn 80),qB 82 .gtr (.t 81) (qi 64) (qn 80),qO 83 80 82] none [0,1,2,8,9,83]) (.seq (.cond (.t 83) (.seq (.region [⟨(some 84),.bad,none⟩,qV 6 (qu 0),qM 7 84] none [6,7]) .ret) .skip) (qR [0,1,2,8,9])))) (qR [0,1,2,8,9]))) (.seq (.region [qV 10 (qu 0)] none [0,1,2,8,9]) (.seq (.seq (.region [qM 85 1] none [0,1,2,8,9,85]) (.block 2 (.seq (.region [qB 91 .eql (.t 85) (qi 10),qM 90 91] none [0,1,2,8,9,85,90]) (.seq (.cond (.t 90) (.region [qV 10 (qu 1844674407370955162)] none [0,1,2,8,9,10]) (.seq (.region [qB 93 .eql (.t 85) (qi 16),qM 92 93] none [0,1,2,8,9,92]) (.seq (.cond (.t 92) (.region [qV 10 (qu 1152921504606846976)] none [0,1,2,8,9,10]) (.region [qM 86 1,qX 87 (.cvt .u64 (.t 86)),qB 88 .quo (qu 18446744073709551615) (.t 87),qB 89 .add (.t 88) (qu 1),qM 10 89] none [0,1,2,8,9,10])) (qR [0,1,2,8,9,10])))) (qR [0,1,2,8,9,10]))))) (.seq (.region [qM 94 2,qX 95 (.cvt .u64 (.t 94)),qB 96 .shl (qu 1) (.t 95),qB 97 .sub (.t 96) (qu 1),qM 11 97] none [0,1,8,9,10,11]) (.seq (.region [qV 12 qf] none [0,1,8,9,10,11,12]) (.seq (.region [qV 13 (qu 0)] none [0,1,8,9,10,11,12,13]) (.seq (.seq (.region [qM 98 0,qX 99 (.s2b true (.t 98)),qX 100 (.len false (.t 99)),qV 101 (qi 0)] none [1,8,9,10,11,12,13,99,100,101]) (.block 3 (.loop ir181_0))) (.seq (.seq (.region [qM 164 12,qM 165 164,qM 166 9 (qy 165),qC 167 210 [(.t 166)] (qy 165),qX 168 (.un .not (.t 167)) (qy 165),qA 169 165 168] none [13,169]) (.seq (.cond (.t 169) (.seq (.region [⟨(some 170),.bad,none⟩,qV 6 (qu 0),qM 7 170] none [6,7]) .ret) .skip) (qR [13]))) (.seq (.region [qM 171 13,qM 6 171,qV 7 (.c (.p (.s .nilIface)))] none [6,7]) .ret)))))))))))))),[(6,none),(7,none)],false⟩
def ir183:IRF:=⟨[0,1],(.seq (.region [qV 4 (.c (.p zE0))] none [0,1]) (.seq (.seq (.region [qM 9 1,qB 10 .eql (.t 9) (qi 10)] none [0,1,10]) (.seq (.cond (.t 10) (.seq (.seq (.region [qM 11 0,qB 12 .lss (.t 11) (qu 100)] none [0,12]) (.seq (.cond (.t 12) (.seq (.region [qM 13 0,qX 14 (.cvt .i64 (.t 13)),qC 15 215 [(.t 14)],qM 4 15] none [4]) .ret) .skip) (qR [0]))) (.seq (.region [qX 5 (.alloc false [(.s (.int .u8 0)),(.s (.int .u8 0)),(.s (.int .u8 0)),(.s (.int .u8 0)),(.s (.int .u8 0)),(.s (.int .u8 0)),(.s (.int .u8 0)),(.s (.int .u8 0)),(.s (.int .u8 0)),(.s (.int .u8 0)),(.s (.int .u8 0)),(.s (.int .u8 0)),(.s (.int .u8 0)),(.s (.int .u8 0)),(.s (.int .u8 0)),(.s (.int .u8 0)),(.s (.int .u8 0)),(.s (.int .u8 0)),(.s (.int .u8 0)),(.s (.int .u8 0)),(.s (.int .u8 0)),(.s (.int .u8 0)),(.s (.int .u8 0)),(.s (.int .u8 0))])] none [0,5]) (.seq (.region [qM 16 0,qC 17 216 [(.t 16)],qM 6 17] none [0,5,6]) (.seq (.region [qM 18 6,qX 19 (.slArr 24 1 (.t 5) none (some (.t 18)) none),qM 20 0,qC 21 217 [(.t 19),(.t 20)]] none [5,6]) (.seq (.region [qM 22 6,qX 23 (.slArr 24 1 (.t 5) none (some (.t 22)) none),qX 24 (.b2s (.t 23)),qM 4 24] none [4]) .ret))))) .skip) (qR [0,1]))) (.seq (.region [qM 26 0,qM 27 1,qC 28 218 [ql,(.t 26),(.t 27),qf,qf],qM 25 28,qE 29 25 0,qE 30 25 1,qM 7 29,qM 8 30] none [8]) (.seq (.region [qM 31 8,qM 4 31] none [4]) .ret)))),[(4,none)],false⟩
def ir184:IRF:=⟨[0],(.seq (.region [qV 2 (qu 0)] none [0]) (.seq (.seq (.cond qf (.seq (.regq true [qM 3 0,qX 4 (.idxStr (.t 3) (qi 0)),qX 5 (.cvt .u64 (.t 4)),qM 6 0,qX 7 (.idxStr (.t 6) (qi 1)),qX 8 (.cvt .u64 (.t 7)),qB 9 .shl (.t 8) (qu 8),qB 10 .or (.t 5) (.t 9),qM 11 0,qX 12 (.idxStr (.t 11) (qi 2)),qX 13 (.cvt .u64 (.t 12)),qB 14 .shl (.t 13) (qu 16),qB 15 .or (.t 10) (.t 14),qM 16 0,qX 17 (.idxStr (.t 16) (qi 3)),qX 18 (.cvt .u64 (.t 17)),qB 19 .shl (.t 18) (qu 24),qB 20 .or (.t 15) (.t 19),qM 2 20] [2]) .ret) .skip) (qR [0])) (.seq (.regq true [qM 21 0,qX 22 (.idxStr (.t 21) (qi 0)),qX 23 (.cvt .u64 (.t 22)),qM 24 0,qX 25 (.idxStr (.t 24) (qi 1)),qX 26 (.cvt .u64 (.t 25)),qB 27 .shl (.t 26) (qu 8),qB 28 .or (.t 23) (.t 27),qM 29 0,qX 30 (.idxStr (.t 29) (qi 2)),qX 31 (.cvt .u64 (.t 30)),qB 32 .shl (.t 31) (qu 16),qB 33 .or (.t 28) (.t 32),qM 34 0,qX 35 (.idxStr (.t 34) (qi 3)),qX 36 (.cvt .u64 (.t 35)),qB 37 .shl (.t 36) (qu 24),qB 38 .or (.t 33) (.t 37),qM 39 0,qX 40 (.idxStr (.t 39) (qi 4)),qX 41 (.cvt .u64 (.t 40)),qB 42 .shl (.t 41) (qu 32),qB 43 .or (.t 38) (.t 42),qM 44 0,qX 45 (.idxStr (.t 44) (qi 5)),qX 46 (.cvt .u64 (.t 45)),qB 47 .shl (.t 46) (qu 40),qB 48 .or (.t 43) (.t 47),qM 49 0,qX 50 (.idxStr (.t 49) (qi 6)),qX 51 (.cvt .u64 (.t 50)),qB 52 .shl (.t 51) (qu 48),qB 53 .or (.t 48) (.t 52),qM 54 0,qX 55 (.idxStr (.t 54) (qi 7)),qX 56 (.cvt .u64 (.t 55)),qB 57 .shl (.t 56) (qu 56),qB 58 .or (.t 53) (.t 57),qM 2 58] [2]) .ret))),[(2,none)],false⟩
def ir185:IRF:=⟨[0,1],(.seq (.region [qV 4 (qi 0)] none [0,1]) (.seq (.region [qM 5 0,qM 6 1,qC 7 219 [(.t 5),(.t 6),qt],qM 4 7] none [4]) .ret)),[(4,none)],false⟩
def ir186:IRF:=⟨[0,1],(.seq (.region [qV 4 (.c (.p zE0))] none [0,1]) (.seq (.seq (.region [qM 5 0,qM 6 1,qC 7 220 [(.t 5),(.t 6)]] none [0,1,7]) (.seq (.cond (.t 7) (.seq (.region [qM 8 0,qM 9 0,qX 10 (.len true (.t 9)),qM 11 1,qX 12 (.len true (.t 11)),qB 13 .sub (.t 10) (.t 12),qX 14 (.slStr (.t 8) none (some (.t 13))),qM 4 14] none [4]) .ret) .skip) (qR [0]))) (.seq (.region [qM 15 0,qM 4 15] none [4]) .ret))),[(4,none)],false⟩
def ir196_0:IRC:=(.seq (.tidy [0,1,2,3,8,9] []) (.seq (.seq (.region [qM 18 9,qM 19 1,qB 20 .gtr (.t 18) (.t 19),qM 21 20,qM 22 3 (qy 21),qM 23 0 (qy 21),qM 24 9 (qy 21),qX 25 (.idxASl 3 (.t 23) (.t 24)) (qy 21),qT 26 3 25 (qy 21),qM 27 0 (qy 21),qM 28 9 (qy 21),qB 29 .sub (.t 28) (qi 1) (qy 21),qX 30 (.idxASl 3 (.t 27) (.t 29)) (qy 21),qT 31 3 30 (qy 21),qX 32 (.callv (.t 22) [(.t 26),(.t 31)]) (qy 21),qB 33 .lss (.t 32) (qi 0) (qy 21),qA 34 21 33] (some [0,0,3,7,15,15,15,111,239,15,15,1039,3599,7695,16383,32767,65535]) [0,1,2,3,8,9,34]) (.cond (.t 34) .skip (.exit 2))) (.seq (.block 3 (.region [qM 37 0,qM 38 9,qM 39 0,qM 40 9,qB 41 .sub (.t 40) (qi 1),qM 42 0,qM 43 9,qB 44 .sub (.t 43) (qi 1),qX 45 (.idxASl 3 (.t 42) (.t 44)),qT 46 3 45,qM 47 0,qM 48 9,qX 49 (.idxASl 3 (.t 47) (.t 48)),qT 50 3 49,qX 51 (.idxASl 3 (.t 37) (.t 38)),qS 3 51 46,qX 52 (.idxASl 3 (.t 39) (.t 41)),qS 3 52 50] (some [0,0,0,0,8,0,0,64,224,480,0,0,3072,7168,16355,32739,65535,131071]) [0,1,2,3,8,9])) (.region [qM 35 9,qB 36 .sub (.t 35) (qi 1),qM 9 36] none [0,1,2,3,8,9]))))
def ir196_1:IRC:=(.seq (.tidy [0,1,2,3,8] []) (.seq (.seq (.region [qM 12 8,qM 13 2,qB 14 .lss (.t 12) (.t 13)] none [0,1,2,3,8,14]) (.cond (.t 14) .skip (.exit 0))) (.seq (.block 1 (.seq (.region [qM 17 8,qM 9 17] none [0,1,2,3,8,9]) (.block 2 (.loop ir196_0)))) (.region [qM 15 8,qB 16 .add (.t 15) (qi 1),qM 8 16] none [0,1,2,3,8]))))
def ir196:IRF:=⟨[0,1,2,3],(.seq (.region [qM 10 1,qB 11 .add (.t 10) (qi 1),qM 8 11] none [0,1,2,3,8]) (.block 0 (.loop ir196_1))),[],false⟩
def ir205:IRF:=⟨[0],(.seq (.region [qV 2 (qi 0)] none [0,2]) (.seq (.seq (.region [qM 3 0,qB 4 .geq (.t 3) (qu 4294967296)] none [0,2,4]) (.cond (.t 4) (.seq (.region [qM 5 0,qB 6 .shr (.t 5) (qu 32),qM 0 6] none [0]) (.region [qV 2 (qi 32)] none [0,2])) .skip)) (.seq (.seq (.region [qM 7 0,qB 8 .geq (.t 7) (qu 65536)] none [0,2,8]) (.cond (.t 8) (.seq (.region [qM 9 0,qB 10 .shr (.t 9) (qu 16),qM 0 10] none [0,2]) (.region [qM 11 2,qB 12 .add (.t 11) (qi 16),qM 2 12] none [0,2])) .skip)) (.seq (.seq (.region [qM 13 0,qB 14 .geq (.t 13) (qu 256)] none [0,2,14]) (.cond (.t 14) (.seq (.region [qM 15 0,qB 16 .shr (.t 15) (qu 8),qM 0 16] none [0,2]) (.region [qM 17 2,qB 18 .add (.t 17) (qi 8),qM 2 18] none [0,2])) .skip)) (.seq (.region [qM 19 2,qM 20 0,qX 21 (.cvt .u8 (.t 20)),qX 22 (.idxStr (.c (.p (.s (.string ⟨#[0,1,2,2,3,3,3,3,4,4,4,4,4,4,4,4,5,5,5,5,5,5,5,5,5,5,5,5,5,5,5,5,6,6,6,6,6,6,6,6,6,6,6,6,6,6,6,6,6,6,6,6,6,6,6,6,6,6,6,6,6,6,6,6,7,7,7,7,7,7,7,7,7,7,7,7,7,7,7,7,7,7,7,7,7,7,7,7,7,7,7,7,7,7,7,7,7,7,7,7,7,7,7,7,7,7,7,7,7,7,7,7,7,7,7,7,7,7,7,7,7,7,7,7,7,7,7,7,8,8,8,8,8,8,8,8,8,8,8,8,8,8,8,8,8,8,8,8,8,8,8,8,8,8,8,8,8,8,8,8,8,8,8,8,8,8,8,8,8,8,8,8,8,8,8,8,8,8,8,8,8,8,8,8,8,8,8,8,8,8,8,8,8,8,8,8,8,8,8,8,8,8,8,8,8,8,8,8,8,8,8,8,8,8,8,8,8,8,8,8,8,8,8,8,8,8,8,8,8,8,8,8,8,8,8,8,8,8,8,8,8,8,8,8,8,8,8,8,8,8,8,8,8,8,8,8]⟩)))) (.t 21)),qX 23 (.cvt .i64 (.t 22)),qB 24 .add (.t 19) (.t 23),qM 2 24] none [2]) .ret))))),[(2,none)],false⟩
def ir208:IRF:=⟨[0],(.seq (.region [qV 2 (qu 0)] none [0]) (.scope (.seq (.seq (.region [qM 7 0,qX 8 (.eq false .ptr (.t 7) qp)] none [0,8]) (.seq (.cond (.t 8) (.seq (.region [qV 2 (qu 0)] none [2]) .ret) .skip) (qR [0]))) (.seq (.region [qM 9 0,qN 10 9,qF 11 1 10,qL 12 1 11,qM 3 12] none [0,3]) (.seq (.region [qV 4 (qi 2),qV 5 (qu 0)] none [0,3,4,5]) .skip))) 0 (.seq .skip (.seq (.seq (.region [qM 13 0,qC 14 177 [(.t 13),(qi 1)],qB 15 .eql (.t 14) (qu 1)] none [0,3,4,5,15]) (.seq (.cond (.t 15) (.seq (.region [qM 16 5,qM 17 4,qB 18 .shl (qu 1) (.t 17),qB 19 .add (.t 16) (.t 18),qM 5 19] none [0,3,4,5]) (.seq (.region [qM 20 4,qB 21 .add (.t 20) (qi 1),qM 4 21] none [0,3,4,5]) (.seq (.seq (.region [qM 22 4,qB 23 .lss (.t 22) (qi 64)] none [0,3,4,5,23]) (.seq (.cond (.t 23) (.seq (qR [0,3,4,5]) (.goto 0)) .skip) (qR [0,3,4,5]))) (.seq (.region [qM 24 0,qC 25 177 [(.t 24),(qi 1)],qB 26 .eql (.t 25) (qu 1)] none [0,3,4,5,26]) (.seq (.cond (.t 26) (.region [qM 27 0,qC 28 178 [(.t 27)]] none [0,3,4,5]) .skip) (qR [0,3,4,5])))))) .skip) (qR [0,3,4,5]))) (.seq (.region [qM 29 0,qM 30 4,qC 31 177 [(.t 29),(.t 30)],qM 6 31] none [0,3,5,6]) (.seq (.seq (.region [qM 32 0,qN 33 32,qF 34 2 33,qL 35 1 34,qB 36 .neq (.t 35) (qi 0),qM 37 36,qM 38 6 (qn 37),qM 39 5 (qn 37),qB 40 .sub (qu 18446744073709551615) (.t 39) (qn 37),qB 41 .gtr (.t 38) (.t 40) (qn 37),qO 42 37 41] none [0,3,5,6,42]) (.seq (.cond (.t 42) (.seq (.region [qM 43 0,qM 44 3,qN 45 43,qF 46 1 45,qS 1 46 44] none [0]) (.seq (.region [qM 47 0,qC 48 178 [(.t 47)],qM 2 48] none [2]) .ret)) .skip) (qR [5,6]))) (.seq (.region [qM 49 5,qM 50 6,qB 51 .add (.t 49) (.t 50),qM 2 51] none [2]) .ret))))))),[(2,none)],false⟩
def ir215:IRF:=⟨[0],(.seq (.region [qV 2 (.c (.p zE0))] none [0]) (.seq (.seq (.region [qM 3 0,qB 4 .lss (.t 3) (qi 10)] none [0,4]) (.seq (.cond (.t 4) (.seq (.region [qM 5 0,qM 6 0,qB 7 .add (.t 6) (qi 1),qX 8 (.slStr (.c (.p (.s (.string ⟨#[48,49,50,51,52,53,54,55,56,57,97,98,99,100,101,102,103,104,105,106,107,108,109,110,111,112,113,114,115,116,117,118,119,120,121,122]⟩)))) (some (.t 5)) (some (.t 7))),qM 2 8] none [2]) .ret) .skip) (qR [0]))) (.seq (.region [qM 9 0,qB 10 .mul (.t 9) (qi 2),qM 11 0,qB 12 .mul (.t 11) (qi 2),qB 13 .add (.t 12) (qi 2),qX 14 (.slStr (.c (.p (.s (.string ⟨#[48,48,48,49,48,50,48,51,48,52,48,53,48,54,48,55,48,56,48,57,49,48,49,49,49,50,49,51,49,52,49,53,49,54,49,55,49,56,49,57,50,48,50,49,50,50,50,51,50,52,50,53,50,54,50,55,50,56,50,57,51,48,51,49,51,50,51,51,51,52,51,53,51,54,51,55,51,56,51,57,52,48,52,49,52,50,52,51,52,52,52,53,52,54,52,55,52,56,52,57,53,48,53,49,53,50,53,51,53,52,53,53,53,54,53,55,53,56,53,57,54,48,54,49,54,50,54,51,54,52,54,53,54,54,54,55,54,56,54,57,55,48,55,49,55,50,55,51,55,52,55,53,55,54,55,55,55,56,55,57,56,48,56,49,56,50,56,51,56,52,56,53,56,54,56,55,56,56,56,57,57,48,57,49,57,50,57,51,57,52,57,53,57,54,57,55,57,56,57,57]⟩)))) (some (.t 10)) (some (.t 13))),qM 2 14] none [2]) .ret))),[(2,none)],false⟩
def ir219_0:IRC:=(.seq (.tidy [1,2,10] []) (.seq (.region [qX 11 (.nxt (.t 10)),qE 12 11 0] none [1,2,10,11,12]) (.seq (.seq (.cond (.t 12) .skip (.seq (qR []) (.exit 0))) (qR [1,2,10,11])) (.block 1 (.seq (.region [qE 13 11 1,qE 14 11 2,qM 7 13,qM 8 14] none [1,2,7,8,10]) (.seq (.region [qM 15 1,qM 16 8,qX 17 (.callv (.t 15) [(.t 16)]),qM 18 2,qX 19 (.eq false .bool (.t 17) (.t 18))] none [1,2,7,10,19]) (.seq (.cond (.t 19) (.seq (.region [qM 20 7,qM 6 20] none [6]) .ret) .skip) (qR [1,2,10]))))))))
def ir219:IRF:=⟨[0,1,2],(.seq (.region [qV 6 (qi 0)] none [0,1,2]) (.seq (.seq (.region [qM 9 0,qX 10 (.rng (.t 9))] none [1,2,10]) (.block 0 (.loop ir219_0))) (.seq (.region [qV 6 (.c (.p (.s (.int .i64 (-1)))))] none [6]) .ret))),[(6,none)],false⟩
def ir220:IRF:=⟨[0,1],(.seq (.region [qV 4 qf] none [0,1]) (.seq (.region [qM 5 0,qX 6 (.len true (.t 5)),qM 7 1,qX 8 (.len true (.t 7)),qB 9 .geq (.t 6) (.t 8),qM 10 9,qM 11 0 (qy 10),qM 12 0 (qy 10),qX 13 (.len true (.t 12)) (qy 10),qM 14 1 (qy 10),qX 15 (.len true (.t 14)) (qy 10),qB 16 .sub (.t 13) (.t 15) (qy 10),qX 17 (.slStr (.t 11) (some (.t 16)) none) (qy 10),qM 18 1 (qy 10),qB 19 .eql (.t 17) (.t 18) (qy 10),qA 20 10 19,qM 4 20] none [4]) .ret)),[(4,none)],false⟩
end Go.Proofs.YtoeblkipfdnnlaaGreatDoor
end

section
namespace Go.Proofs.YtoeblkipfdnnlaaGreatDoor
open Go Go.Sx
def imT (t:TypeId):Bool:=[102,155].contains t
def anL:List (Nat × Bool × List Nat × Bool × List (Nat × List Nat) × List (Nat × List Nat) × List Nat × Bool):=[(7,false,[2,3],false,[],[(3,[5,6]),(4,[7,8]),(5,[9])],[],false),(8,false,[],false,[],[(1,[1]),(2,[3]),(3,[5]),(4,[7])],[],false),(11,false,[2,3],false,[],[],[],false),(13,true,[1],false,[],[],[],false),(14,false,[1],false,[],[],[],false),(17,false,[1,31],true,[(0,[32,5,29])],[(1,[4]),(5,[7]),(8,[8])],[],false),(21,false,[1,13,16],false,[],[],[],false),(23,false,[2,3],false,[],[],[],false),(27,false,[1],false,[],[],[],false),(30,false,[22],false,[],[(5,[6])],[],true),(32,false,[1,12,15],false,[],[],[],false),(33,false,[2,3],false,[],[],[],false),(34,false,[1],false,[],[],[],false),(35,false,[2,3],false,[],[],[],false),(36,false,[],true,[],[],[],false),(37,false,[2,3],false,[],[],[],false),(38,false,[2,3],false,[],[],[],false),(39,false,[],false,[],[(2,[5])],[],false),(42,false,[2],false,[],[],[],false),(43,true,[],true,[],[(7,[7])],[],false),(44,false,[2],false,[],[],[],false),(45,false,[4],true,[],[],[],false),(46,false,[2,3],false,[],[],[],false),(47,true,[],false,[],[],[],false),(48,true,[],false,[],[],[],false),(50,false,[34],false,[],[(5,[10])],[],false),(51,false,[],true,[],[(3,[5]),(8,[7])],[],true),(56,true,[],false,[],[],[],false),(60,false,[20],true,[],[(1,[3]),(4,[5]),(5,[3])],[],false),(70,true,[],false,[],[],[],true),(71,false,[],false,[],[],[],true),(72,false,[],false,[],[],[],true),(73,false,[],false,[],[(2,[5])],[],true),(74,false,[],false,[],[],[],true),(75,false,[],false,[],[],[],true),(76,false,[61],true,[(0,[62,4,59])],[(6,[5]),(16,[7])],[11],true),(77,false,[],false,[],[],[],true),(83,true,[],false,[],[],[],false),(85,false,[3],false,[],[],[],false),(86,false,[1],false,[],[],[],false),(87,false,[],false,[],[(8,[4]),(10,[5])],[],false),(89,false,[],true,[],[],[],false),(93,false,[1],false,[],[],[9],true),(94,false,[1],false,[],[],[10],true),(95,false,[],false,[],[],[],true),(98,true,[],false,[],[],[],false),(102,false,[],false,[],[],[],true),(103,false,[],true,[],[],[],true),(104,true,[],false,[],[],[],true),(105,false,[],false,[],[(2,[5])],[],true),(106,false,[4],false,[],[],[],true),(108,false,[],false,[],[],[],true),(116,true,[],false,[],[],[],false),(117,true,[],false,[],[],[],false),(120,false,[22],true,[(0,[29,0,18])],[(4,[6])],[],false),(121,false,[],true,[],[],[],false),(127,false,[],true,[],[],[],true),(128,false,[],true,[],[],[9],true),(131,false,[],false,[],[(1,[3])],[],true),(132,false,[],false,[],[],[],true),(133,false,[8,22],true,[(0,[23,3,20])],[],[],true),(138,false,[],true,[],[],[],false),(141,false,[],false,[],[(2,[5])],[20],true),(142,false,[],false,[],[],[3],true),(148,true,[],false,[],[],[],false),(149,true,[],false,[],[],[],false),(155,false,[],true,[],[],[],true),(156,false,[],true,[],[(13,[6])],[7,9,17,21,25],true),(157,false,[],false,[],[],[],true),(158,false,[],false,[],[],[],true),(159,false,[],false,[],[],[],true),(160,false,[],false,[],[],[],true),(164,false,[],true,[],[],[],false),(169,false,[],false,[],[],[],true),(170,false,[],false,[],[],[],true),(171,false,[],false,[],[],[],true),(172,false,[],false,[],[],[],true),(173,false,[],false,[],[],[],true),(174,false,[6,7],false,[],[(1,[9])],[],true),(175,false,[],false,[],[],[],true),(176,false,[],false,[],[],[3],true),(177,false,[],true,[],[],[7],true),(178,false,[],false,[],[],[],true),(181,false,[99],true,[],[],[],true),(183,false,[],false,[],[],[],true),(184,false,[],false,[],[],[1,2],true),(185,false,[],false,[],[],[],true),(186,false,[],false,[],[],[],true),(196,false,[],true,[],[],[],false),(208,false,[],false,[],[],[],true),(215,false,[],false,[],[],[],true),(219,false,[],true,[],[],[],true),(220,false,[],false,[],[],[],true)]
def cxT (f:FuncId):TypeId→Bool:=if [47].contains f then fun t=>t==999999 else imT
def an (f:FuncId):An:=match anL.lookup f with
 | some (o,i,l,b,r,q,k)=>⟨o,cxT f,i,l,b,r,q,k⟩
 | none=>⟨false,cxT f,[],false,[],[],[],false⟩
def cls (f:Nat):Nat:=if [70,71,74,75,76,77,103,104,105,106,141,142,169,170,171,172,173,174,177,178,208].contains f then 1 else if [30,51,72,73,93,94,95,102,108,127,128,131,132,133,155,156,157,158,159,160,175,176,181,183,184,185,186,215,219,220].contains f then 2 else 0
def irsX:List (FuncId × IRF):=[(47,ir47)]
theorem wH : ∀ p∈irsX,∃ fn,Tryz.prog.funcs[p.1]?=some fn∧cF Tryz.prog (an p.1) fn=some p.2∧fn.name ≠ "runtime.NumGoroutine":=by
 unfold irsX
 simp only [List.forall_mem_cons]
 refine ⟨⟨Tryz.f47,Tryz.func47,by kernel_rfl,by decide⟩,fun _ h=>by cases h⟩
def irs0_:List (FuncId × IRF):=[(7,ir7),(8,ir8),(11,ir11),(13,ir13),(14,ir14),(17,ir17),(18,ir18),(19,ir19),(20,ir20),(21,ir21),(23,ir23),(25,ir25),(27,ir27),(30,ir30),(32,ir32),(33,ir33),(34,ir34),(35,ir35),(36,ir36),(37,ir37),(38,ir38),(39,ir39),(41,ir41),(42,ir42),(43,ir43),(44,ir44),(45,ir45),(46,ir46),(48,ir48),(50,ir50),(51,ir51),(52,ir52),(53,ir53),(54,ir54),(55,ir55),(56,ir56),(57,ir57),(58,ir58),(59,ir59),(60,ir60)]
theorem wD : ∀ p∈irs0_,∃ fn,Tryz.prog.funcs[p.1]?=some fn∧cF Tryz.prog (an p.1) fn=some p.2∧fn.name ≠ "runtime.NumGoroutine":=by
 unfold irs0_
 simp only [List.forall_mem_cons]
 refine ⟨⟨Tryz.f7,Tryz.func7,by kernel_rfl,by decide⟩,⟨Tryz.f8,Tryz.func8,by kernel_rfl,by decide⟩,⟨Tryz.f11,Tryz.func11,by kernel_rfl,by decide⟩,⟨Tryz.f13,Tryz.func13,by kernel_rfl,by decide⟩,⟨Tryz.f14,Tryz.func14,by kernel_rfl,by decide⟩,⟨Tryz.f17,Tryz.func17,by kernel_rfl,by decide⟩,⟨Tryz.f18,Tryz.func18,by kernel_rfl,by decide⟩,⟨Tryz.f19,Tryz.func19,by kernel_rfl,by decide⟩,⟨Tryz.f20,Tryz.func20,by kernel_rfl,by decide⟩,⟨Tryz.f21,Tryz.func21,by kernel_rfl,by decide⟩,⟨Tryz.f23,Tryz.func23,by kernel_rfl,by decide⟩,⟨Tryz.f25,Tryz.func25,by kernel_rfl,by decide⟩,⟨Tryz.f27,Tryz.func27,by kernel_rfl,by decide⟩,⟨Tryz.f30,Tryz.func30,by kernel_rfl,by decide⟩,⟨Tryz.f32,Tryz.func32,by kernel_rfl,by decide⟩,⟨Tryz.f33,Tryz.func33,by kernel_rfl,by decide⟩,⟨Tryz.f34,Tryz.func34,by kernel_rfl,by decide⟩,⟨Tryz.f35,Tryz.func35,by kernel_rfl,by decide⟩,⟨Tryz.f36,Tryz.func36,by kernel_rfl,by decide⟩,⟨Tryz.f37,Tryz.func37,by kernel_rfl,by decide⟩,⟨Tryz.f38,Tryz.func38,by kernel_rfl,by decide⟩,⟨Tryz.f39,Tryz.func39,by kernel_rfl,by decide⟩,⟨Tryz.f41,Tryz.func41,by kernel_rfl,by decide⟩,⟨Tryz.f42,Tryz.func42,by kernel_rfl,by decide⟩,⟨Tryz.f43,Tryz.func43,by kernel_rfl,by decide⟩,⟨Tryz.f44,Tryz.func44,by kernel_rfl,by decide⟩,⟨Tryz.f45,Tryz.func45,by kernel_rfl,by decide⟩,⟨Tryz.f46,Tryz.func46,by kernel_rfl,by decide⟩,⟨Tryz.f48,Tryz.func48,by kernel_rfl,by decide⟩,⟨Tryz.f50,Tryz.func50,by kernel_rfl,by decide⟩,⟨Tryz.f51,Tryz.func51,by kernel_rfl,by decide⟩,⟨Tryz.f52,Tryz.func52,by kernel_rfl,by decide⟩,⟨Tryz.f53,Tryz.func53,by kernel_rfl,by decide⟩,⟨Tryz.f54,Tryz.func54,by kernel_rfl,by decide⟩,⟨Tryz.f55,Tryz.func55,by kernel_rfl,by decide⟩,⟨Tryz.f56,Tryz.func56,by kernel_rfl,by decide⟩,⟨Tryz.f57,Tryz.func57,by kernel_rfl,by decide⟩,⟨Tryz.f58,Tryz.func58,by kernel_rfl,by decide⟩,⟨Tryz.f59,Tryz.func59,by kernel_rfl,by decide⟩,⟨Tryz.f60,Tryz.func60,by kernel_rfl,by decide⟩,fun _ h=>by cases h⟩
def irs1_:List (FuncId × IRF):=[(62,ir62),(63,ir63),(64,ir64),(65,ir65),(66,ir66),(67,ir67),(68,ir68),(69,ir69),(70,ir70),(71,ir71),(72,ir72),(73,ir73),(74,ir74),(75,ir75),(76,ir76),(77,ir77),(83,ir83),(84,ir84),(85,ir85),(86,ir86),(87,ir87),(88,ir88),(89,ir89),(90,ir90),(93,ir93),(94,ir94),(95,ir95),(96,ir96),(97,ir97),(98,ir98),(99,ir99),(100,ir100),(101,ir101),(102,ir102),(103,ir103),(104,ir104),(105,ir105),(106,ir106),(108,ir108),(116,ir116)]
theorem wE : ∀ p∈irs1_,∃ fn,Tryz.prog.funcs[p.1]?=some fn∧cF Tryz.prog (an p.1) fn=some p.2∧fn.name ≠ "runtime.NumGoroutine":=by
 unfold irs1_
 simp only [List.forall_mem_cons]
 refine ⟨⟨Tryz.f62,Tryz.func62,by kernel_rfl,by decide⟩,⟨Tryz.f63,Tryz.func63,by kernel_rfl,by decide⟩,⟨Tryz.f64,Tryz.func64,by kernel_rfl,by decide⟩,⟨Tryz.f65,Tryz.func65,by kernel_rfl,by decide⟩,⟨Tryz.f66,Tryz.func66,by kernel_rfl,by decide⟩,⟨Tryz.f67,Tryz.func67,by kernel_rfl,by decide⟩,⟨Tryz.f68,Tryz.func68,by kernel_rfl,by decide⟩,⟨Tryz.f69,Tryz.func69,by kernel_rfl,by decide⟩,⟨Tryz.f70,Tryz.func70,by kernel_rfl,by decide⟩,⟨Tryz.f71,Tryz.func71,by kernel_rfl,by decide⟩,⟨Tryz.f72,Tryz.func72,by kernel_rfl,by decide⟩,⟨Tryz.f73,Tryz.func73,by kernel_rfl,by decide⟩,⟨Tryz.f74,Tryz.func74,by kernel_rfl,by decide⟩,⟨Tryz.f75,Tryz.func75,by kernel_rfl,by decide⟩,⟨Tryz.f76,Tryz.func76,by kernel_rfl,by decide⟩,⟨Tryz.f77,Tryz.func77,by kernel_rfl,by decide⟩,⟨Tryz.f83,Tryz.func83,by kernel_rfl,by decide⟩,⟨Tryz.f84,Tryz.func84,by kernel_rfl,by decide⟩,⟨Tryz.f85,Tryz.func85,by kernel_rfl,by decide⟩,⟨Tryz.f86,Tryz.func86,by kernel_rfl,by decide⟩,⟨Tryz.f87,Tryz.func87,by kernel_rfl,by decide⟩,⟨Tryz.f88,Tryz.func88,by kernel_rfl,by decide⟩,⟨Tryz.f89,Tryz.func89,by kernel_rfl,by decide⟩,⟨Tryz.f90,Tryz.func90,by kernel_rfl,by decide⟩,⟨Tryz.f93,Tryz.func93,by kernel_rfl,by decide⟩,⟨Tryz.f94,Tryz.func94,by kernel_rfl,by decide⟩,⟨Tryz.f95,Tryz.func95,by kernel_rfl,by decide⟩,⟨Tryz.f96,Tryz.func96,by kernel_rfl,by decide⟩,⟨Tryz.f97,Tryz.func97,by kernel_rfl,by decide⟩,⟨Tryz.f98,Tryz.func98,by kernel_rfl,by decide⟩,⟨Tryz.f99,Tryz.func99,by kernel_rfl,by decide⟩,⟨Tryz.f100,Tryz.func100,by kernel_rfl,by decide⟩,⟨Tryz.f101,Tryz.func101,by kernel_rfl,by decide⟩,⟨Tryz.f102,Tryz.func102,by kernel_rfl,by decide⟩,⟨Tryz.f103,Tryz.func103,by kernel_rfl,by decide⟩,⟨Tryz.f104,Tryz.func104,by kernel_rfl,by decide⟩,⟨Tryz.f105,Tryz.func105,by kernel_rfl,by decide⟩,⟨Tryz.f106,Tryz.func106,by kernel_rfl,by decide⟩,⟨Tryz.f108,Tryz.func108,by kernel_rfl,by decide⟩,⟨Tryz.f116,Tryz.func116,by kernel_rfl,by decide⟩,fun _ h=>by cases h⟩
def irs2_:List (FuncId × IRF):=[(117,ir117),(118,ir118),(119,ir119),(120,ir120),(121,ir121),(122,ir122),(123,ir123),(124,ir124),(127,ir127),(128,ir128),(131,ir131),(132,ir132),(133,ir133),(136,ir136),(138,ir138),(139,ir139),(140,ir140),(141,ir141),(142,ir142),(147,ir147),(148,ir148),(149,ir149),(150,ir150),(151,ir151),(152,ir152),(153,ir153),(155,ir155),(156,ir156),(157,ir157),(158,ir158),(159,ir159),(160,ir160),(164,ir164),(165,ir165),(169,ir169),(170,ir170),(171,ir171),(172,ir172),(173,ir173),(174,ir174)]
theorem wF : ∀ p∈irs2_,∃ fn,Tryz.prog.funcs[p.1]?=some fn∧cF Tryz.prog (an p.1) fn=some p.2∧fn.name ≠ "runtime.NumGoroutine":=by
 unfold irs2_
 simp only [List.forall_mem_cons]
 refine ⟨⟨Tryz.f117,Tryz.func117,by kernel_rfl,by decide⟩,⟨Tryz.f118,Tryz.func118,by kernel_rfl,by decide⟩,⟨Tryz.f119,Tryz.func119,by kernel_rfl,by decide⟩,⟨Tryz.f120,Tryz.func120,by kernel_rfl,by decide⟩,⟨Tryz.f121,Tryz.func121,by kernel_rfl,by decide⟩,⟨Tryz.f122,Tryz.func122,by kernel_rfl,by decide⟩,⟨Tryz.f123,Tryz.func123,by kernel_rfl,by decide⟩,⟨Tryz.f124,Tryz.func124,by kernel_rfl,by decide⟩,⟨Tryz.f127,Tryz.func127,by kernel_rfl,by decide⟩,⟨Tryz.f128,Tryz.func128,by kernel_rfl,by decide⟩,⟨Tryz.f131,Tryz.func131,by kernel_rfl,by decide⟩,⟨Tryz.f132,Tryz.func132,by kernel_rfl,by decide⟩,⟨Tryz.f133,Tryz.func133,by kernel_rfl,by decide⟩,⟨Tryz.f136,Tryz.func136,by kernel_rfl,by decide⟩,⟨Tryz.f138,Tryz.func138,by kernel_rfl,by decide⟩,⟨Tryz.f139,Tryz.func139,by kernel_rfl,by decide⟩,⟨Tryz.f140,Tryz.func140,by kernel_rfl,by decide⟩,⟨Tryz.f141,Tryz.func141,by kernel_rfl,by decide⟩,⟨Tryz.f142,Tryz.func142,by kernel_rfl,by decide⟩,⟨Tryz.f147,Tryz.func147,by kernel_rfl,by decide⟩,⟨Tryz.f148,Tryz.func148,by kernel_rfl,by decide⟩,⟨Tryz.f149,Tryz.func149,by kernel_rfl,by decide⟩,⟨Tryz.f150,Tryz.func150,by kernel_rfl,by decide⟩,⟨Tryz.f151,Tryz.func151,by kernel_rfl,by decide⟩,⟨Tryz.f152,Tryz.func152,by kernel_rfl,by decide⟩,⟨Tryz.f153,Tryz.func153,by kernel_rfl,by decide⟩,⟨Tryz.f155,Tryz.func155,by kernel_rfl,by decide⟩,⟨Tryz.f156,Tryz.func156,by kernel_rfl,by decide⟩,⟨Tryz.f157,Tryz.func157,by kernel_rfl,by decide⟩,⟨Tryz.f158,Tryz.func158,by kernel_rfl,by decide⟩,⟨Tryz.f159,Tryz.func159,by kernel_rfl,by decide⟩,⟨Tryz.f160,Tryz.func160,by kernel_rfl,by decide⟩,⟨Tryz.f164,Tryz.func164,by kernel_rfl,by decide⟩,⟨Tryz.f165,Tryz.func165,by kernel_rfl,by decide⟩,⟨Tryz.f169,Tryz.func169,by kernel_rfl,by decide⟩,⟨Tryz.f170,Tryz.func170,by kernel_rfl,by decide⟩,⟨Tryz.f171,Tryz.func171,by kernel_rfl,by decide⟩,⟨Tryz.f172,Tryz.func172,by kernel_rfl,by decide⟩,⟨Tryz.f173,Tryz.func173,by kernel_rfl,by decide⟩,⟨Tryz.f174,Tryz.func174,by kernel_rfl,by decide⟩,fun _ h=>by cases h⟩
def irs3_:List (FuncId × IRF):=[(175,ir175),(176,ir176),(177,ir177),(178,ir178),(180,ir180),(181,ir181),(183,ir183),(184,ir184),(185,ir185),(186,ir186),(196,ir196),(205,ir205),(208,ir208),(215,ir215),(219,ir219),(220,ir220)]
theorem wG : ∀ p∈irs3_,∃ fn,Tryz.prog.funcs[p.1]?=some fn∧cF Tryz.prog (an p.1) fn=some p.2∧fn.name ≠ "runtime.NumGoroutine":=by
 unfold irs3_
 simp only [List.forall_mem_cons]
 refine ⟨⟨Tryz.f175,Tryz.func175,by kernel_rfl,by decide⟩,⟨Tryz.f176,Tryz.func176,by kernel_rfl,by decide⟩,⟨Tryz.f177,Tryz.func177,by kernel_rfl,by decide⟩,⟨Tryz.f178,Tryz.func178,by kernel_rfl,by decide⟩,⟨Tryz.f180,Tryz.func180,by kernel_rfl,by decide⟩,⟨Tryz.f181,Tryz.func181,by kernel_rfl,by decide⟩,⟨Tryz.f183,Tryz.func183,by kernel_rfl,by decide⟩,⟨Tryz.f184,Tryz.func184,by kernel_rfl,by decide⟩,⟨Tryz.f185,Tryz.func185,by kernel_rfl,by decide⟩,⟨Tryz.f186,Tryz.func186,by kernel_rfl,by decide⟩,⟨Tryz.f196,Tryz.func196,by kernel_rfl,by decide⟩,⟨Tryz.f205,Tryz.func205,by kernel_rfl,by decide⟩,⟨Tryz.f208,Tryz.func208,by kernel_rfl,by decide⟩,⟨Tryz.f215,Tryz.func215,by kernel_rfl,by decide⟩,⟨Tryz.f219,Tryz.func219,by kernel_rfl,by decide⟩,⟨Tryz.f220,Tryz.func220,by kernel_rfl,by decide⟩,fun _ h=>by cases h⟩
def irs:List (FuncId × IRF):=irs0_++irs1_++irs2_++irs3_
theorem yS : ∀ p∈irs,∃ fn,Tryz.prog.funcs[p.1]?=some fn∧cF Tryz.prog (an p.1) fn=some p.2∧fn.name ≠ "runtime.NumGoroutine":=by
 intro p hp
 simp only [irs,List.mem_append] at hp
 rcases hp with (((h0|h1)|h2)|h3)
 ·exact wD p h0
 ·exact wE p h1
 ·exact wF p h2
 ·exact wG p h3
end Go.Proofs.YtoeblkipfdnnlaaGreatDoor
end

section
namespace Go.Sx
open Go
def normA (id nx:Nat):Option (LV × Upd × List (Option Obj))→Option (LV × Upd × List (Option Obj))
 | some (.arr j 0 L sz _ _,[],[some (.cells C)])=>if j=nx then some (.arr nx 0 L sz L false,[(id,none)],[some (.cells C)]) else none
 | some (.arr j 0 L sz _ _,[(k,none)],[some (.cells C)])=>if j=nx∧k=id then some (.arr nx 0 L sz L false,[(id,none)],[some (.cells C)]) else none
 | some (.arr j 0 L sz _ _,[(k,some (.cells C))],[])=>if j=id∧k=id then some (.arr nx 0 L sz L false,[(id,none)],[some (.cells C)]) else none
 | _=>none
open Classical in
noncomputable def capA (O:Oracle):Oracle:=fun f args H nx=>match args with
 | .arr id off len sz cp false::r=>
  if (H id).isSome=true∧∀ c,cp≤c→normA id nx (O f (.arr id off len sz c true::r) H nx)=normA id nx (O f (.arr id off len sz cp true::r) H nx) then
   normA id nx (O f (.arr id off len sz cp true::r) H nx) else none
 | _=>O f args H nx
theorem v7 {O:Oracle} {f:FuncId} {id off len sz cp:Nat} {r:List LV} {H:Heap} {nx:Nat} {x:LV × Upd × List (Option Obj)} (hs:(H id).isSome=true)
  (h : ∀ c,cp≤c→normA id nx (O f (.arr id off len sz c true::r) H nx)=some x):capA O f (.arr id off len sz cp false::r) H nx=some x:=by
 have h0:=h cp (Nat.le_refl _)
 unfold capA
 dsimp only
 rw [if_pos ⟨hs,fun c hc=>(h c hc).trans h0.symm⟩,h0]
theorem OR.as {I:Nat→Prop} {μ μ':Mu} {w:World} {id id':Nat} {o:Obj} (hm : ∀ j x,μ j=some x→μ' j=some x) (hi:μ' id'=μ id) (h:OR I μ w id o):OR I μ' w id' o:=by
 have hv : ∀ {l v},VR I μ w l v→VR I μ' w l v:=fun h=>h.mono (fun _ h=>h) hm fun _ _=>rfl
 cases o with
 | cells cs=>
  obtain ⟨b,o,s,e,h1,h2,h3,h4,h5⟩:=h
  exact ⟨b,o,s,e,hi.trans h1,h2,h3,h4,fun j l hj=>by obtain ⟨u,a1,a2,a3⟩:=h5 j l hj;exact ⟨u,a1,a2,hv a3⟩⟩
 | iter s q=>
  obtain ⟨b,h1,h2⟩:=h
  exact ⟨b,hi.trans h1,h2⟩
theorem ot {P:Program} {G:Nat→Option (List PV)} {O:Oracle} (hO:OSound P G O):OSound P G (capA O):=fun f args H nx r u n h=>by
 unfold capA at h
 split at h
 case h_2=>exact hO _ _ _ _ _ _ _ h
 rename_i id off len sz cp rest
 split at h
 case isFalse=>cases h
 rename_i hc
 obtain ⟨hid,hc⟩:=hc
 obtain ⟨o0,ho0⟩:=Option.isSome_iff_exists.1 hid
 have hall : ∀ c,cp≤c→normA id nx (O f (.arr id off len sz c true::rest) H nx)=some (r,u,n):=fun c hcc=>(hc c hcc).trans h
 have shape : ∀ c,cp≤c→∃ L s2 c2 e2 C,r = .arr nx 0 L s2 L false∧u=[(id,none)]∧n=[some (.cells C)] ∧
   (O f (.arr id off len sz c true::rest) H nx=some (.arr nx 0 L s2 c2 e2,[],[some (.cells C)])∨O f (.arr id off len sz c true::rest) H nx=some (.arr nx 0 L s2 c2 e2,[(id,none)],[some (.cells C)])∨O f (.arr id off len sz c true::rest) H nx=some (.arr id 0 L s2 c2 e2,[(id,some (.cells C))],[])):=by
  intro c hcc
  have:=hall c hcc
  cases ho:O f (.arr id off len sz c true::rest) H nx with
  | none=>rw [ho] at this;cases this
  | some x=>
   rw [ho] at this
   unfold normA at this
   split at this
   ·rename_i j L s2 c2 e2 C hx
    split at this
    case isFalse=>cases this
    rename_i hj
    subst hj
    simp only [Option.some.injEq,Prod.mk.injEq] at this hx
    obtain ⟨rfl,rfl,rfl⟩:=this
    exact ⟨L,s2,c2,e2,C,rfl,rfl,rfl,.inl (by rw [hx])⟩
   ·rename_i j L s2 c2 e2 k C hx
    split at this
    case isFalse=>cases this
    rename_i hj
    obtain ⟨rfl,rfl⟩:=hj
    simp only [Option.some.injEq,Prod.mk.injEq] at this hx
    obtain ⟨rfl,rfl,rfl⟩:=this
    exact ⟨L,s2,c2,e2,C,rfl,rfl,rfl,.inr (.inl (by rw [hx]))⟩
   ·rename_i j L s2 c2 e2 k C hx
    split at this
    case isFalse=>cases this
    rename_i hj
    obtain ⟨rfl,rfl⟩:=hj
    simp only [Option.some.injEq,Prod.mk.injEq] at this hx
    obtain ⟨rfl,rfl,rfl⟩:=this
    exact ⟨L,s2,c2,e2,C,rfl,rfl,rfl,.inr (.inr (by rw [hx]))⟩
   ·cases this
 obtain ⟨L,s2,_,_,C,rfl,rfl,rfl,hcp0⟩:=shape cp (Nat.le_refl _)
 have hbody : ∃ fn,P.funcs[f]?=some fn∧fn.body.isSome=true∧fn.name ≠ "runtime.NumGoroutine":=by
  rcases hcp0 with h1|h1|h1<;>exact (hO _ _ _ _ _ _ _ h1).body
 refine ⟨fun j o hj => ?_,hbody,fun I μ w vs hH hlt h0 hG hsz hv => ?_⟩
 ·simp only [findU] at hj
  split at hj
  ·rename_i e;subst e;exact hid
  ·cases hj
 have hidn:id<nx:=hlt id o0 ho0
 have hl0:look H nx ⟨[(id,none)],[some (.cells C)]⟩ nx=some (.cells C):=by simp [look]
 have hlid:look H nx ⟨[(id,none)],[some (.cells C)]⟩ id=none:=by simp [look,hidn,findU]
 cases vs0:vs[0]? with
 | none=>rw [List.length_cons] at hsz;rw [Array.getElem?_eq_none_iff] at vs0;omega
 | some v0=>
 have hv0:=hv 0 _ v0 rfl vs0
 cases hv0 with
 | arr _ _ _ _ _ _ b o s o' cap hm ho hlen hcp hf hs=>
 obtain ⟨L',s2',c2,e2,C',hr',hu',hn',hout⟩:=shape cap hcp
 simp only [LV.arr.injEq,List.cons.injEq,Option.some.injEq,Obj.cells.injEq,and_true,true_and] at hr' hn'
 obtain ⟨rfl,rfl,_⟩:=hr'
 subst hn'
 have hargs : ∀ (j:Nat) (l:LV) (v:Value),(LV.arr id off len sz cap true::rest)[j]?=some l→vs[j]?=some v→VR I μ w l v:=fun j l v hj hvj=>by
  cases j with
  | zero=>
   simp only [List.getElem?_cons_zero,Option.some.injEq] at hj
   subst hj
   obtain rfl:=Option.some.inj (vs0.symm.trans hvj)
   exact .arr id off len sz cap true b o s o' cap hm ho (Nat.le_trans hlen hcp) (Nat.le_refl _) (fun _=>rfl) hs
  | succ j=>exact hv (j+1) l v (by simpa using hj) hvj
 rcases hout with ho1|ho1|ho1
 ·
  refine ((hO _ _ _ _ _ _ _ ho1).call I μ w vs hH hlt h0 hG (by simpa using hsz) hargs).mono ?_
  rintro e w' ⟨v,I',μ',rfl,g,hvr⟩
  have hlk : ∀ j o,look H nx ⟨[(id,none)],[some (.cells C)]⟩ j=some o→look H nx ⟨[],[some (.cells C)]⟩ j=some o:=fun j o hj=>by
   by_cases e:j=id
   ·subst e;rw [hlid] at hj;cases hj
   ·simpa [look,findU,e] using hj
  have hlk0 : ∀ j,look H nx ⟨[],[some (.cells C)]⟩ j=none→look H nx ⟨[(id,none)],[some (.cells C)]⟩ j=none:=fun j hj=>by
   cases hq:look H nx ⟨[(id,none)],[some (.cells C)]⟩ j with
   | none=>rfl
   | some o=>rw [hlk j o hq] at hj;cases hj
  refine ⟨v,I',μ',rfl,⟨g.mu,g.fresh,g.up,g.back,g.stp,⟨fun j o hd hl=>g.hr.obj j o hd (hlk j o hl),fun j j' o o' hd hd' hl hl'=>g.hr.inj j j' o o' hd hd' (hlk _ _ hl) (hlk _ _ hl'),fun j o b hd hl=>g.hr.imm j o b hd (hlk _ _ hl),g.hr.lt⟩,
   fun j b hn ⟨o,ho⟩ hb=>g.new j b hn ⟨o,hlk _ _ ho⟩ hb,fun j ht=>absurd trivial ht,fun j hn hl=>hlk0 j (g.alive j hn hl)⟩,?_⟩
  cases hvr with
  | arr _ _ _ _ _ _ b o s o' cap hm ho hlen hcp hf hs=>exact .arr _ _ _ _ _ _ b o s o' cap hm ho (Nat.le_refl _) (Nat.le_trans hlen hcp) (fun h=>by cases h) hs
 ·
  refine ((hO _ _ _ _ _ _ _ ho1).call I μ w vs hH hlt h0 hG (by simpa using hsz) hargs).mono ?_
  rintro e w' ⟨v,I',μ',rfl,g,hvr⟩
  refine ⟨v,I',μ',rfl,g,?_⟩
  cases hvr with
  | arr _ _ _ _ _ _ b o s o' cap hm ho hlen hcp hf hs=>exact .arr _ _ _ _ _ _ b o s o' cap hm ho (Nat.le_refl _) (Nat.le_trans hlen hcp) (fun h=>by cases h) hs
 ·
  refine ((hO _ _ _ _ _ _ _ ho1).call I μ w vs hH hlt h0 hG (by simpa using hsz) hargs).mono ?_
  rintro e w' ⟨v,I',μ',rfl,g,hvr⟩
  have hN : ∀ j,¬(nx≤j∧j<nx+([]:List (Option Obj)).length):=fun j h=>by simp at h;omega
  have hμ' : ∀ j,μ' j=μ j:=fun j=>g.mu j (hN j)
  obtain ⟨μ2,hμ2⟩ : ∃ μ2:Mu,μ2=fun j=>if j=nx then μ' id else μ' j:=⟨_,rfl⟩
  have m1:μ2 nx=μ' id:=by rw [hμ2];simp
  have m2 : ∀ j,j≠nx→μ2 j=μ' j:=fun j hj=>by rw [hμ2];simp [hj]
  have mono : ∀ j x,μ' j=some x→μ2 j=some x:=fun j x hx=>by
   by_cases e:j=nx
   ·subst e;rw [hμ',h0 j (Nat.le_refl _)] at hx;cases hx
   ·rw [m2 j e];exact hx
  have hlkid:look H nx ⟨[(id,some (.cells C))],[]⟩ id=some (.cells C):=by simp [look,hidn,findU]
  have hlk : ∀ j o,j≠nx→look H nx ⟨[(id,none)],[some (.cells C)]⟩ j=some o→j≠id∧look H nx ⟨[(id,some (.cells C))],[]⟩ j=some o:=fun j o hj hl=>by
   have e:j≠id:=fun e=>by subst e;rw [hlid] at hl;cases hl
   refine ⟨e,?_⟩
   unfold look at hl ⊢
   by_cases hlt':j<nx
   ·simpa [hlt',findU,e] using hl
   ·rw [if_neg hlt'] at hl
    have:(1:Nat)≤j-nx:=by omega
    simp [List.getElem?_eq_none (show ([some (Obj.cells C)]:List (Option Obj)).length≤j-nx by simpa using this)] at hl
  have src : ∀ j o,look H nx ⟨[(id,none)],[some (.cells C)]⟩ j=some o→∃ k,look H nx ⟨[(id,some (.cells C))],[]⟩ k=some o∧μ2 j=μ' k∧(j=nx→k=id)∧(j≠nx→k=j∧j≠id):=fun j o hl=>by
   by_cases e:j=nx
   ·subst e
    rw [hl0] at hl
    exact ⟨id,by rw [hlkid];exact hl,m1,fun _=>rfl,fun h=>absurd rfl h⟩
   ·obtain ⟨h1,h2⟩:=hlk j o e hl
    exact ⟨j,h2,m2 j e,fun h=>absurd h e,fun _=>⟨rfl,h1⟩⟩
  refine ⟨v,I',μ2,rfl,⟨fun j hn => ?_,fun j hn=>h0 j hn.1,g.up,g.back,g.stp,⟨fun j o hd hl => ?_,fun j j' o o' hd hd' hl hl' hne => ?_,fun j o b hd hl hb => ?_,g.hr.lt⟩,fun j b hn he hb => ?_,fun j ht=>absurd trivial ht,fun j hn hl => ?_⟩,?_⟩
  ·have e:j≠nx:=fun e=>hn ⟨by omega,by simp;omega⟩
   rw [m2 j e,hμ']
  ·obtain ⟨k,h1,h2,_⟩:=src j o hl
   exact (g.hr.obj k o (.inl trivial) h1).as mono h2
  ·obtain ⟨k,h1,h2,h3,h4⟩:=src j o hl
   obtain ⟨k',h1',h2',h3',h4'⟩:=src j' o' hl'
   have hk:k≠k':=fun e=>by
    by_cases a:j=nx<;>by_cases a':j'=nx
    ·exact hne (a.trans a'.symm)
    ·have:=h4' a';rw [←e,h3 a] at this;exact this.2 this.1.symm
    ·have:=h4 a;rw [e,h3' a'] at this;exact this.2 this.1.symm
    ·exact hne ((h4 a).1.symm.trans (e.trans (h4' a').1))
   have:=g.hr.inj k k' o o' (.inl trivial) (.inl trivial) h1 h1' hk
   simpa only [blk,h2,h2'] using this
  ·obtain ⟨k,h1,h2,_⟩:=src j o hl
   have:=g.hr.imm k o b (.inl trivial) h1 hb
   simpa only [blk,h2] using this
  ·obtain rfl:j=nx:=by have:=hn.1;have:=hn.2;simp at this;omega
   refine .inr ⟨id,o0,trivial,ho0,?_⟩
   simpa only [blk,m1,hμ'] using hb
  ·have e:j≠nx:=fun e=>hn ⟨by omega,by simp;omega⟩
   cases hq:look H nx ⟨[(id,none)],[some (.cells C)]⟩ j with
   | none=>rfl
   | some o=>
    obtain ⟨h1,h2⟩:=hlk j o e hq
    have:=g.alive j (hN j) hl
    rw [h2] at this;cases this
  ·cases hvr with
   | arr _ _ _ _ _ _ b o s o' cap hm ho hlen hcp hf hs=>exact .arr _ _ _ _ _ _ b o s o' cap (m1.trans hm) ho (Nat.le_refl _) (Nat.le_trans hlen hcp) (fun h=>by cases h) hs
end Go.Sx
end

section
namespace Go.Proofs.YtoeblkipfdnnlaaGreatDoor
open Go Go.Sx
theorem wrap_i64 (x:Int) (h1 : -(2^63)≤x) (h2:x<2^63):IntKind.i64.wrap x=x:=by
 simp only [IntKind.wrap,IntKind.signed,IntKind.bits]
 simp
 omega
theorem ltF (n k:Nat):(n+k<n)↔False:=⟨fun h=>absurd h (Nat.not_lt.2 (Nat.le_add_right n k)),False.elim⟩
theorem ssP:(type_of% @Go.Sx.callO.eq_1)∧(type_of% @Go.Sx.splice.eq_1)∧(type_of% @Go.Sx.finish.eq_1)∧(type_of% @Go.Sx.look.eq_1)∧(type_of% @Go.Sx.push.eq_1)∧(type_of% @Go.Sx.setObj.eq_1)∧(type_of% @Go.Sx.setU.eq_1)∧(type_of% @Go.Sx.setU.eq_2)∧(type_of% @Go.Sx.setAll.eq_1)∧(type_of% @Go.Sx.setAll.eq_2)∧(type_of% @Go.Sx.leI_eq)∧(type_of% @ltF):=⟨@Go.Sx.callO.eq_1,@Go.Sx.splice.eq_1,@Go.Sx.finish.eq_1,@Go.Sx.look.eq_1,@Go.Sx.push.eq_1,@Go.Sx.setObj.eq_1,@Go.Sx.setU.eq_1,@Go.Sx.setU.eq_2,@Go.Sx.setAll.eq_1,@Go.Sx.setAll.eq_2,@Go.Sx.leI_eq,@ltF⟩
theorem ssR:(type_of% @Go.Sx.splice.eq_1)∧(type_of% @Go.Sx.push.eq_1)∧(type_of% @Go.Sx.setObj.eq_1)∧(type_of% @Go.Sx.setU.eq_1)∧(type_of% @Go.Sx.setU.eq_2)∧(type_of% @Go.Sx.setAll.eq_1)∧(type_of% @Go.Sx.setAll.eq_2)∧(type_of% @Go.Sx.leI_eq)∧(type_of% @ltF):=⟨@Go.Sx.splice.eq_1,@Go.Sx.push.eq_1,@Go.Sx.setObj.eq_1,@Go.Sx.setU.eq_1,@Go.Sx.setU.eq_2,@Go.Sx.setAll.eq_1,@Go.Sx.setAll.eq_2,@Go.Sx.leI_eq,@ltF⟩
theorem ssU:(type_of% @List.idxOf?_cons)∧(type_of% @Go.Sx.LV.undef.eq_1)∧(type_of% @Go.undef.eq_1):=⟨@List.idxOf?_cons,@Go.Sx.LV.undef.eq_1,@Go.undef.eq_1⟩
abbrev Ob:=Option Go.Sx.Obj
theorem du (k:IntKind) (x y:Int):binI .add k x y=some (.int k (k.wrap (x+y))):=rfl
theorem dD (k:IntKind) (x y:Int):binI .sub k x y=some (.int k (k.wrap (x-y))):=rfl
theorem dC (k:IntKind) (x y:Int):binI .mul k x y=some (.int k (k.wrap (x*y))):=rfl
theorem je (k:IntKind) (x y:Int):binI .eql k x y=some (.bool (x==y)):=rfl
theorem jf (k:IntKind) (x y:Int):binI .neq k x y=some (.bool (x != y)):=rfl
theorem dB (k:IntKind) (x y:Int):binI .lss k x y=some (.bool (!leI y x)):=rfl
theorem dA (k:IntKind) (x y:Int):binI .leq k x y=some (.bool (leI x y)):=rfl
theorem dz (k:IntKind) (x y:Int):binI .gtr k x y=some (.bool (!leI x y)):=rfl
theorem dw (k:IntKind) (x y:Int):binI .geq k x y=some (.bool (leI y x)):=rfl
theorem fx (b:Bool):unL .not (.p (.s (.bool b)))=some (.bool (!b)):=rfl
theorem fw (k:IntKind) (n:Int):unL .neg (.p (.s (.int k n)))=some (.int k (k.wrap (0-n))):=rfl
theorem ssB:((((((((type_of% @Go.Sx.runF_S)∧((type_of% @d7)∧(type_of% @ii)))∧((type_of% @fW)∧((type_of% @cz)∧(type_of% @fV))))∧(((type_of% @dh)∧((type_of% @cV)∧(type_of% @d5)))∧((type_of% @di)∧((type_of% @d6)∧(type_of% @dj)))))∧((((type_of% @d9)∧((type_of% @Go.Sx.tidyR.eq_1)∧(type_of% @fj)))∧((type_of% @cd)∧((type_of% @ea)∧(type_of% @bQ))))∧(((type_of% @dq)∧((type_of% @Go.Sx.wants.eq_1)∧(type_of% @Go.Sx.wants.eq_2)))∧(((type_of% @Go.Sx.evOp.eq_def)∧(type_of% @Go.Sx.opd.eq_1))∧((type_of% @Go.Sx.opd.eq_2)∧(type_of% @Go.Sx.opd.eq_3))))))∧(((((type_of% @Go.Sx.get.eq_1)∧((type_of% @Go.Sx.get.eq_2)∧(type_of% @Go.Sx.putD.eq_1)))∧((type_of% @Go.Sx.putD.eq_2)∧((type_of% @Go.Sx.keep.eq_1)∧(type_of% @Go.Sx.binL.eq_1))))∧(((type_of% @Go.Sx.binL.eq_2)∧((type_of% @Go.Sx.binL.eq_3)∧(type_of% @Go.Sx.isSh.eq_1)))∧((type_of% @Go.Sx.isSh.eq_2)∧((type_of% @Go.Sx.isSh.eq_3)∧(type_of% @du)))))∧((((type_of% @dD)∧((type_of% @dC)∧(type_of% @je)))∧((type_of% @jf)∧((type_of% @dB)∧(type_of% @dA))))∧(((type_of% @dz)∧((type_of% @dw)∧(type_of% @Go.Sx.eqL.eq_1)))∧(((type_of% @Go.Sx.eqL.eq_2)∧(type_of% @Go.Sx.eqL.eq_3))∧((type_of% @Go.Sx.eqL.eq_4)∧(type_of% @Go.Sx.eqL.eq_5)))))))∧((((((type_of% @Go.Sx.eqL.eq_6)∧((type_of% @Go.Sx.eqL.eq_7)∧(type_of% @Go.Sx.eqL.eq_8)))∧((type_of% @Go.Sx.eqL.eq_9)∧((type_of% @Go.Sx.eqL.eq_10)∧(type_of% @Go.Sx.eqL.eq_11))))∧(((type_of% @Go.Sx.eqL.eq_12)∧((type_of% @Go.Sx.eqL.eq_13)∧(type_of% @Go.Sx.eqL.eq_14)))∧((type_of% @Go.Sx.eqL.eq_15)∧((type_of% @fx)∧(type_of% @fw)))))∧((((type_of% @Go.Sx.resVs.eq_1)∧((type_of% @Go.Sx.resVs.eq_2)∧(type_of% @Go.Sx.resV.eq_1)))∧((type_of% @Go.Sx.resV.eq_2)∧((type_of% @Go.Sx.oneL.eq_1)∧(type_of% @Go.Sx.oneL.eq_2))))∧(((type_of% @Go.Sx.frz.eq_1)∧((type_of% @Go.Sx.frz.eq_2)∧(type_of% @Go.Sx.frz.go.eq_1)))∧(((type_of% @Go.Sx.frz.go.eq_2)∧(type_of% @Go.Sx.frzL.eq_1))∧((type_of% @Go.Sx.frzL.eq_2)∧(type_of% @Go.Sx.frzL.eq_3))))))∧(((((type_of% @Go.Sx.frzL.eq_4)∧((type_of% @Go.Sx.frzL.eq_5)∧(type_of% @Go.Sx.frzL.eq_6)))∧((type_of% @Go.Sx.frzL.go.eq_1)∧((type_of% @Go.Sx.frzL.go.eq_2)∧(type_of% @Go.Sx.ids.eq_1))))∧(((type_of% @Go.Sx.ids.eq_2)∧((type_of% @Go.Sx.ids.eq_3)∧(type_of% @Go.Sx.ids.eq_4)))∧(((type_of% @Go.Sx.ids.eq_5)∧(type_of% @Go.Sx.ids.eq_6))∧((type_of% @Go.Sx.ids.idsL.eq_1)∧(type_of% @Go.Sx.ids.idsL.eq_2)))))∧((((type_of% @Go.Sx.updIds.eq_1)∧((type_of% @Go.Sx.updIds.eq_2)∧(type_of% @Go.Sx.updIds.eq_3)))∧((type_of% @Go.Sx.reach.eq_1)∧((type_of% @Go.Sx.reach.eq_2)∧(type_of% @Go.Sx.reach.eq_3))))∧(((type_of% @Go.Sx.ren.eq_1)∧((type_of% @Go.Sx.ren.eq_2)∧(type_of% @Go.Sx.ren.eq_3)))∧(((type_of% @Go.Sx.ren.eq_4)∧(type_of% @Go.Sx.ren.eq_5))∧((type_of% @Go.Sx.ren.eq_6)∧(type_of% @Go.Sx.ren.eq_7))))))))∧(((((((type_of% @Go.Sx.ren.go.eq_1)∧((type_of% @Go.Sx.ren.go.eq_2)∧(type_of% @Go.Sx.renU.eq_1)))∧((type_of% @Go.Sx.renU.eq_2)∧((type_of% @Go.Sx.renN.eq_1)∧(type_of% @Go.Sx.renN.eq_2))))∧(((type_of% @Go.Sx.renO.eq_1)∧((type_of% @Go.Sx.renO.eq_2)∧(type_of% @Go.Sx.renO.eq_3)))∧((type_of% @Go.Sx.renId.eq_1)∧((type_of% @Go.Sx.fillP.eq_1)∧(type_of% @Go.Sx.fillP.eq_2)))))∧((((type_of% @Go.Sx.mkAgg.eq_1)∧((type_of% @Go.Sx.allP.eq_1)∧(type_of% @Go.Sx.allP.eq_2)))∧((type_of% @Go.Sx.allP.eq_3)∧((type_of% @Go.Sx.LV.cells.eq_1)∧(type_of% @Go.Sx.LV.cells.eq_2))))∧(((type_of% @Go.Sx.LV.cells.eq_3)∧((type_of% @Go.Sx.LV.cells.eq_4)∧(type_of% @Go.Sx.LV.cells.eq_5)))∧(((type_of% @Go.Sx.LV.cells.eq_6)∧(type_of% @Go.Sx.rd.eq_1))∧((type_of% @Go.Sx.findU.eq_1)∧(type_of% @Go.Sx.findU.eq_2))))))∧(((((type_of% @Go.Sx.slCells.eq_1)∧((type_of% @Go.Sx.slCells.eq_2)∧(type_of% @Go.Sx.slCells.eq_3)))∧((type_of% @Go.Sx.slCells.eq_4)∧((type_of% @Go.Sx.slCells.eq_5)∧(type_of% @Go.Sx.sliceO.eq_1))))∧(((type_of% @Go.Sx.sliceO.eq_2)∧((type_of% @Go.Sx.sliceO.eq_3)∧(type_of% @Go.Sx.sliceO.eq_4)))∧((type_of% @Go.Value.oneCell'.eq_1)∧((type_of% @Go.Value.oneCell'.eq_2)∧(type_of% @Go.Value.oneCell'.eq_3)))))∧((((type_of% @Go.Sx.mmL.eq_1)∧((type_of% @Go.Sx.mmL.eq_2)∧(type_of% @Go.Sx.mm2.eq_1)))∧((type_of% @Go.Sx.mm2.eq_2)∧((type_of% @Go.Sx.gslot.eq_1)∧(type_of% @Go.Sx.gslot.eq_2))))∧(((type_of% @Go.Sx.IROp.slots.eq_1)∧((type_of% @Go.Sx.IROp.slots.eq_2)∧(type_of% @Go.Sx.IROp.slots.eq_3)))∧(((type_of% @Go.Sx.IROp.slots.eq_4)∧(type_of% @Go.Sx.IROp.slots.eq_5))∧((type_of% @Go.Sx.IROp.slots.eq_6)∧(type_of% @Go.Sx.IROp.slots.eq_7)))))))∧((((((type_of% @Go.Sx.IROp.slots.eq_8)∧((type_of% @Go.Sx.IROp.slots.eq_9)∧(type_of% @Go.Sx.IROp.slots.eq_10)))∧((type_of% @Go.Sx.IROp.slots.eq_11)∧((type_of% @Go.Sx.IROp.slots.eq_12)∧(type_of% @Go.Sx.IROp.slots.eq_13))))∧(((type_of% @Go.Sx.IROp.slots.eq_14)∧((type_of% @Go.Sx.IROp.slots.eq_15)∧(type_of% @Go.Sx.IROp.slots.eq_16)))∧((type_of% @Go.Sx.IROp.slots.eq_17)∧((type_of% @Go.Sx.IROp.slots.eq_18)∧(type_of% @Go.Sx.IROp.slots.eq_19)))))∧((((type_of% @Go.Sx.IROp.slots.eq_20)∧((type_of% @Go.Sx.IROp.slots.eq_21)∧(type_of% @Go.Sx.IROp.slots.eq_22)))∧((type_of% @Go.Sx.IROp.slots.eq_23)∧((type_of% @Go.Sx.IROp.slots.eq_24)∧(type_of% @Go.Sx.IROp.slots.eq_25))))∧(((type_of% @Go.Sx.IROp.slots.eq_26)∧((type_of% @Go.Sx.IROp.slots.eq_27)∧(type_of% @Go.Sx.IROp.slots.eq_28)))∧(((type_of% @Go.Sx.IROp.slots.eq_29)∧(type_of% @Go.Sx.IROp.slots.eq_30))∧((type_of% @Go.Sx.IROp.slots.eq_31)∧(type_of% @Go.Sx.IROp.slots.eq_32))))))∧(((((type_of% @Go.Sx.IROp.slots.eq_33)∧((type_of% @Go.Sx.IROp.slots.eq_34)∧(type_of% @Go.Sx.IROp.slots.eq_35)))∧((type_of% @Go.Sx.IROp.slots.eq_36)∧((type_of% @Go.Sx.IROp.slots.eq_37)∧(type_of% @Go.Sx.IROp.slots.eq_38))))∧(((type_of% @Go.Sx.Opd.slots.eq_1)∧((type_of% @Go.Sx.Opd.slots.eq_2)∧(type_of% @Go.Sx.indepD.eq_1)))∧(((type_of% @Go.Sx.quickD.eq_1)∧(type_of% @Go.Sx.quickD.eq_2))∧((type_of% @Go.Sx.indepR.eq_1)∧(type_of% @Go.Sx.indepR.eq_2)))))∧((((type_of% @Go.Sx.indepR.eq_3)∧((type_of% @Go.Sx.pairsD.eq_1)∧(type_of% @Go.Sx.pairsD.eq_2)))∧((type_of% @Go.Sx.apartD.eq_1)∧((type_of% @Nat.testBit.eq_1)∧(type_of% @Go.Sx.Obj.ids.eq_1))))∧(((type_of% @Go.Sx.Obj.ids.eq_2)∧((type_of% @Go.Sx.natL.eq_1)∧(type_of% @Go.Sx.natL.eq_2)))∧(((type_of% @Go.Sx.optMap.eq_1)∧(type_of% @Go.Sx.optMap.eq_2))∧((type_of% @Go.undef.eq_1)∧(type_of% @ltF))))))))):=
 ⟨⟨⟨⟨⟨⟨⟨@Go.Sx.runF_S,⟨@d7,@ii⟩⟩,⟨@fW,⟨@cz,@fV⟩⟩⟩,⟨⟨@dh,⟨@cV,@d5⟩⟩,⟨@di,⟨@d6,@dj⟩⟩⟩⟩,⟨⟨⟨@d9,⟨@Go.Sx.tidyR.eq_1,@fj⟩⟩,⟨@cd,⟨@ea,@bQ⟩⟩⟩,⟨⟨@dq,⟨@Go.Sx.wants.eq_1,@Go.Sx.wants.eq_2⟩⟩,⟨⟨@Go.Sx.evOp.eq_def,@Go.Sx.opd.eq_1⟩,⟨@Go.Sx.opd.eq_2,@Go.Sx.opd.eq_3⟩⟩⟩⟩⟩,⟨⟨⟨⟨@Go.Sx.get.eq_1,⟨@Go.Sx.get.eq_2,@Go.Sx.putD.eq_1⟩⟩,⟨@Go.Sx.putD.eq_2,⟨@Go.Sx.keep.eq_1,@Go.Sx.binL.eq_1⟩⟩⟩,⟨⟨@Go.Sx.binL.eq_2,⟨@Go.Sx.binL.eq_3,@Go.Sx.isSh.eq_1⟩⟩,⟨@Go.Sx.isSh.eq_2,⟨@Go.Sx.isSh.eq_3,@du⟩⟩⟩⟩,⟨⟨⟨@dD,⟨@dC,@je⟩⟩,⟨@jf,⟨@dB,@dA⟩⟩⟩,⟨⟨@dz,⟨@dw,@Go.Sx.eqL.eq_1⟩⟩,⟨⟨@Go.Sx.eqL.eq_2,@Go.Sx.eqL.eq_3⟩,⟨@Go.Sx.eqL.eq_4,@Go.Sx.eqL.eq_5⟩⟩⟩⟩⟩⟩,⟨⟨⟨⟨⟨@Go.Sx.eqL.eq_6,⟨@Go.Sx.eqL.eq_7,@Go.Sx.eqL.eq_8⟩⟩,⟨@Go.Sx.eqL.eq_9,⟨@Go.Sx.eqL.eq_10,@Go.Sx.eqL.eq_11⟩⟩⟩,⟨⟨@Go.Sx.eqL.eq_12,⟨@Go.Sx.eqL.eq_13,@Go.Sx.eqL.eq_14⟩⟩,⟨@Go.Sx.eqL.eq_15,⟨@fx,@fw⟩⟩⟩⟩,⟨⟨⟨@Go.Sx.resVs.eq_1,⟨@Go.Sx.resVs.eq_2,@Go.Sx.resV.eq_1⟩⟩,⟨@Go.Sx.resV.eq_2,⟨@Go.Sx.oneL.eq_1,@Go.Sx.oneL.eq_2⟩⟩⟩,⟨⟨@Go.Sx.frz.eq_1,⟨@Go.Sx.frz.eq_2,@Go.Sx.frz.go.eq_1⟩⟩,⟨⟨@Go.Sx.frz.go.eq_2,@Go.Sx.frzL.eq_1⟩,⟨@Go.Sx.frzL.eq_2,@Go.Sx.frzL.eq_3⟩⟩⟩⟩⟩,⟨⟨⟨⟨@Go.Sx.frzL.eq_4,⟨@Go.Sx.frzL.eq_5,@Go.Sx.frzL.eq_6⟩⟩,⟨@Go.Sx.frzL.go.eq_1,⟨@Go.Sx.frzL.go.eq_2,@Go.Sx.ids.eq_1⟩⟩⟩,⟨⟨@Go.Sx.ids.eq_2,⟨@Go.Sx.ids.eq_3,@Go.Sx.ids.eq_4⟩⟩,⟨⟨@Go.Sx.ids.eq_5,@Go.Sx.ids.eq_6⟩,⟨@Go.Sx.ids.idsL.eq_1,@Go.Sx.ids.idsL.eq_2⟩⟩⟩⟩,⟨⟨⟨@Go.Sx.updIds.eq_1,⟨@Go.Sx.updIds.eq_2,@Go.Sx.updIds.eq_3⟩⟩,⟨@Go.Sx.reach.eq_1,⟨@Go.Sx.reach.eq_2,@Go.Sx.reach.eq_3⟩⟩⟩,⟨⟨@Go.Sx.ren.eq_1,⟨@Go.Sx.ren.eq_2,@Go.Sx.ren.eq_3⟩⟩,⟨⟨@Go.Sx.ren.eq_4,@Go.Sx.ren.eq_5⟩,⟨@Go.Sx.ren.eq_6,@Go.Sx.ren.eq_7⟩⟩⟩⟩⟩⟩⟩,⟨⟨⟨⟨⟨⟨@Go.Sx.ren.go.eq_1,⟨@Go.Sx.ren.go.eq_2,@Go.Sx.renU.eq_1⟩⟩,⟨@Go.Sx.renU.eq_2,⟨@Go.Sx.renN.eq_1,@Go.Sx.renN.eq_2⟩⟩⟩,⟨⟨@Go.Sx.renO.eq_1,⟨@Go.Sx.renO.eq_2,@Go.Sx.renO.eq_3⟩⟩,⟨@Go.Sx.renId.eq_1,⟨@Go.Sx.fillP.eq_1,@Go.Sx.fillP.eq_2⟩⟩⟩⟩,⟨⟨⟨@Go.Sx.mkAgg.eq_1,⟨@Go.Sx.allP.eq_1,@Go.Sx.allP.eq_2⟩⟩,⟨@Go.Sx.allP.eq_3,⟨@Go.Sx.LV.cells.eq_1,@Go.Sx.LV.cells.eq_2⟩⟩⟩,⟨⟨@Go.Sx.LV.cells.eq_3,⟨@Go.Sx.LV.cells.eq_4,@Go.Sx.LV.cells.eq_5⟩⟩,⟨⟨@Go.Sx.LV.cells.eq_6,@Go.Sx.rd.eq_1⟩,⟨@Go.Sx.findU.eq_1,@Go.Sx.findU.eq_2⟩⟩⟩⟩⟩,⟨⟨⟨⟨@Go.Sx.slCells.eq_1,⟨@Go.Sx.slCells.eq_2,@Go.Sx.slCells.eq_3⟩⟩,⟨@Go.Sx.slCells.eq_4,⟨@Go.Sx.slCells.eq_5,@Go.Sx.sliceO.eq_1⟩⟩⟩,⟨⟨@Go.Sx.sliceO.eq_2,⟨@Go.Sx.sliceO.eq_3,@Go.Sx.sliceO.eq_4⟩⟩,⟨@Go.Value.oneCell'.eq_1,⟨@Go.Value.oneCell'.eq_2,@Go.Value.oneCell'.eq_3⟩⟩⟩⟩,⟨⟨⟨@Go.Sx.mmL.eq_1,⟨@Go.Sx.mmL.eq_2,@Go.Sx.mm2.eq_1⟩⟩,⟨@Go.Sx.mm2.eq_2,⟨@Go.Sx.gslot.eq_1,@Go.Sx.gslot.eq_2⟩⟩⟩,⟨⟨@Go.Sx.IROp.slots.eq_1,⟨@Go.Sx.IROp.slots.eq_2,@Go.Sx.IROp.slots.eq_3⟩⟩,⟨⟨@Go.Sx.IROp.slots.eq_4,@Go.Sx.IROp.slots.eq_5⟩,⟨@Go.Sx.IROp.slots.eq_6,@Go.Sx.IROp.slots.eq_7⟩⟩⟩⟩⟩⟩,⟨⟨⟨⟨⟨@Go.Sx.IROp.slots.eq_8,⟨@Go.Sx.IROp.slots.eq_9,@Go.Sx.IROp.slots.eq_10⟩⟩,⟨@Go.Sx.IROp.slots.eq_11,⟨@Go.Sx.IROp.slots.eq_12,@Go.Sx.IROp.slots.eq_13⟩⟩⟩,⟨⟨@Go.Sx.IROp.slots.eq_14,⟨@Go.Sx.IROp.slots.eq_15,@Go.Sx.IROp.slots.eq_16⟩⟩,⟨@Go.Sx.IROp.slots.eq_17,⟨@Go.Sx.IROp.slots.eq_18,@Go.Sx.IROp.slots.eq_19⟩⟩⟩⟩,⟨⟨⟨@Go.Sx.IROp.slots.eq_20,⟨@Go.Sx.IROp.slots.eq_21,@Go.Sx.IROp.slots.eq_22⟩⟩,⟨@Go.Sx.IROp.slots.eq_23,⟨@Go.Sx.IROp.slots.eq_24,@Go.Sx.IROp.slots.eq_25⟩⟩⟩,⟨⟨@Go.Sx.IROp.slots.eq_26,⟨@Go.Sx.IROp.slots.eq_27,@Go.Sx.IROp.slots.eq_28⟩⟩,⟨⟨@Go.Sx.IROp.slots.eq_29,@Go.Sx.IROp.slots.eq_30⟩,⟨@Go.Sx.IROp.slots.eq_31,@Go.Sx.IROp.slots.eq_32⟩⟩⟩⟩⟩,⟨⟨⟨⟨@Go.Sx.IROp.slots.eq_33,⟨@Go.Sx.IROp.slots.eq_34,@Go.Sx.IROp.slots.eq_35⟩⟩,⟨@Go.Sx.IROp.slots.eq_36,⟨@Go.Sx.IROp.slots.eq_37,@Go.Sx.IROp.slots.eq_38⟩⟩⟩,⟨⟨@Go.Sx.Opd.slots.eq_1,⟨@Go.Sx.Opd.slots.eq_2,@Go.Sx.indepD.eq_1⟩⟩,⟨⟨@Go.Sx.quickD.eq_1,@Go.Sx.quickD.eq_2⟩,⟨@Go.Sx.indepR.eq_1,@Go.Sx.indepR.eq_2⟩⟩⟩⟩,⟨⟨⟨@Go.Sx.indepR.eq_3,⟨@Go.Sx.pairsD.eq_1,@Go.Sx.pairsD.eq_2⟩⟩,⟨@Go.Sx.apartD.eq_1,⟨@Nat.testBit.eq_1,@Go.Sx.Obj.ids.eq_1⟩⟩⟩,⟨⟨@Go.Sx.Obj.ids.eq_2,⟨@Go.Sx.natL.eq_1,@Go.Sx.natL.eq_2⟩⟩,⟨⟨@Go.Sx.optMap.eq_1,@Go.Sx.optMap.eq_2⟩,⟨@Go.undef.eq_1,@ltF⟩⟩⟩⟩⟩⟩⟩⟩
def firstN (a:Nat):Nat:=if a<128 then 240 else if a<194 then 241 else if a<224 then 2 else if a=224 then 19 else if a=237 then 35 else if a<240 then 3 else if a=240 then 52 else if a<244 then 4 else if a=244 then 68 else 241
def firstT:List PV:=(List.range 256).map fun a=>.s (.int .u8 (firstN a:Nat))
def accT:List PV:=([128,191,160,191,128,159,144,191,128,143,0,0,0,0,0,0,0,0,0,0,0,0,0,0,0,0,0,0,0,0,0,0]:List Nat).map fun a:Nat=>.s (.int .u8 (a:Int))
def gG (n:Nat):Option (List PV):=if n=1 then some firstT else if n=2 then some accT else none
noncomputable def xX:Oracle:=fun f args H nx=>if f=47 then capA (om cls (findF irsX) gG noX) f args H nx else none
noncomputable abbrev Ω:Oracle:=om cls (findF irs) gG xX
end Go.Proofs.YtoeblkipfdnnlaaGreatDoor
end

section
namespace Go.Proofs.YtoeblkipfdnnlaaGreatDoor
open Go Go.Sx
inductive Id where
 | zero|one
 | node (l r:Id)
 deriving DecidableEq
def Id.all:Id→Bool
 | .one=>true
 | _=>false
def Id.ptr:Id→PV
 | .node l r=>.imm [.s (.bool l.all),l.ptr,.s (.bool r.all),r.ptr] 0
 | _=>.s (.pointer none)
theorem Id.ptr_n (l r:Id):(Id.node l r).ptr = .imm [.s (.bool l.all),l.ptr,.s (.bool r.all),r.ptr] 0:=rfl
abbrev Id.pv (i:Id):PV:=.agg [.s (.bool i.all),i.ptr]
def Id.left:Id→Id
 | .node l _=>l
 | i=>i
def Id.right:Id→Id
 | .node _ r=>r
 | i=>i
def Id.depth:Id→Nat
 | .node l r=>1+max l.depth r.depth
 | _=>0
end Go.Proofs.YtoeblkipfdnnlaaGreatDoor
end

section
namespace Go.Proofs.YtoeblkipfdnnlaaGreatDoor
open Go Go.Sx
inductive Ev where
 | leaf (n:Nat)
 | node (n:Nat) (l r:Ev)
 deriving DecidableEq
def Ev.n:Ev→Nat
 | .leaf n=>n
 | .node n _ _=>n
theorem Ev.n_l (n:Nat):(Ev.leaf n).n=n:=rfl
theorem Ev.n_n (n:Nat) (l r:Ev):(Ev.node n l r).n=n:=rfl
def Ev.ptr:Ev→PV
 | .leaf _=>.s (.pointer none)
 | .node _ l r=>.imm [.s (.int .u64 l.n),l.ptr,.s (.int .u64 r.n),r.ptr] 0
theorem Ev.ptr_l (n:Nat):(Ev.leaf n).ptr = .s (.pointer none):=rfl
theorem Ev.ptr_n (n:Nat) (l r:Ev):(Ev.node n l r).ptr = .imm [.s (.int .u64 l.n),l.ptr,.s (.int .u64 r.n),r.ptr] 0:=rfl
abbrev Ev.pv (e:Ev):PV:=.agg [.s (.int .u64 e.n),e.ptr]
def Ev.isLeaf:Ev→Bool
 | .leaf _=>true
 | _=>false
def Ev.left:Ev→Ev
 | .leaf _=>.leaf 0
 | .node _ l _=>l
def Ev.right:Ev→Ev
 | .leaf _=>.leaf 0
 | .node _ _ r=>r
def Ev.up (e:Ev) (k:Nat):Ev:=match e with
 | .leaf n=>.leaf (n+k)
 | .node n l r=>.node (n+k) l r
theorem Ev.up_n (e:Ev) (k:Nat):(e.up k).n=e.n+k:=by cases e<;>rfl
theorem Ev.up_ptr (e:Ev) (k:Nat):(e.up k).ptr=e.ptr:=by cases e<;>rfl
def Ev.max:Ev→Nat
 | .leaf n=>n
 | .node n l r=>n+Max.max l.max r.max
def Ev.depth:Ev→Nat
 | .node _ l r=>1+Max.max l.depth r.depth
 | _=>0
theorem Ev.n_max (e:Ev):e.n≤e.max:=by cases e<;>simp [Ev.n,Ev.max]
theorem Ev.up_max (e:Ev) (k:Nat):(e.up k).max=e.max+k:=by cases e<;>simp [Ev.up,Ev.max]<;>omega
theorem Ev.up_depth (e:Ev) (k:Nat):(e.up k).depth=e.depth:=by cases e<;>rfl
theorem Ev.max_l (n:Nat) (l r:Ev):n+l.max≤(Ev.node n l r).max:=Nat.add_le_add_left (Nat.le_max_left _ _) n
theorem Ev.max_r (n:Nat) (l r:Ev):n+r.max≤(Ev.node n l r).max:=Nat.add_le_add_left (Nat.le_max_right _ _) n
theorem aQ (x:Int) (h0:0≤x) (h:x<2^64):IntKind.u64.wrap x=x:=by
 simp [IntKind.wrap,IntKind.signed,IntKind.bits]
 omega
theorem mK (n:Int) (H:Heap) (nx:Nat):Ω 67 [.p (.agg [.s (.int .u64 n),.s (.pointer none)])] H nx=some (.p (.agg [.s (.int .u64 0),.s (.pointer none)]),[],[]):=by
 refine av (ir:=ir67) (by kernel_rfl) 0 ?_
 simp [ir67,ssB,ssU,Go.Sx.LV.undef,Go.undef,ssP,appO]
theorem mL (n a b:Int) (p q:PV) (H:Heap) (nx:Nat):Ω 67 [.p (.agg [.s (.int .u64 n),.imm [.s (.int .u64 a),p,.s (.int .u64 b),q] 0])] H nx=some (.p (.agg [.s (.int .u64 a),p]),[],[]):=by
 refine av (ir:=ir67) (by kernel_rfl) 0 ?_
 simp [ir67,ssB,ssU,Go.Sx.LV.undef,Go.undef,ssP,appO]
theorem ki (n:Int) (H:Heap) (nx:Nat):Ω 69 [.p (.agg [.s (.int .u64 n),.s (.pointer none)])] H nx=some (.p (.agg [.s (.int .u64 0),.s (.pointer none)]),[],[]):=by
 refine av (ir:=ir69) (by kernel_rfl) 0 ?_
 simp [ir69,ssB,ssU,Go.Sx.LV.undef,Go.undef,ssP,appO]
theorem kj (n a b:Int) (p q:PV) (H:Heap) (nx:Nat):Ω 69 [.p (.agg [.s (.int .u64 n),.imm [.s (.int .u64 a),p,.s (.int .u64 b),q] 0])] H nx=some (.p (.agg [.s (.int .u64 b),q]),[],[]):=by
 refine av (ir:=ir69) (by kernel_rfl) 0 ?_
 simp [ir69,ssB,ssU,Go.Sx.LV.undef,Go.undef,ssP,appO]
theorem jp (n:Int) (H:Heap) (nx:Nat):Ω 147 [.p (.agg [.s (.int .u64 n),.s (.pointer none)])] H nx=some (.bool true,[],[]):=by
 refine av (ir:=ir147) (by kernel_rfl) 0 ?_
 simp [ir147,ssB,ssU,Go.Sx.LV.undef,Go.undef,ssP,appO]
theorem jq (n:Int) (cs:List PV) (H:Heap) (nx:Nat):Ω 147 [.p (.agg [.s (.int .u64 n),.imm cs 0])] H nx=some (.bool false,[],[]):=by
 refine av (ir:=ir147) (by kernel_rfl) 0 ?_
 simp [ir147,ssB,ssU,Go.Sx.LV.undef,Go.undef,ssP,appO]
theorem pD (n:Int) (p:PV) (H:Heap) (nx:Nat):Ω 150 [.p (.agg [.s (.int .u64 n),p])] H nx=some (.int .u64 n,[],[]):=by
 refine av (ir:=ir150) (by kernel_rfl) 0 ?_
 simp [ir150,ssB,ssU,Go.Sx.LV.undef,Go.undef,ssP,appO]
theorem mM (n k:Int) (p:PV) (h0:0≤n+k) (h:n+k<2^64) (H:Heap) (nx:Nat):Ω 68 [.p (.agg [.s (.int .u64 n),p]),.int .u64 k] H nx=some (.p (.agg [.s (.int .u64 (n+k)),p]),[],[]):=by
 refine av (ir:=ir68) (by kernel_rfl) 0 ?_
 have hw:=aQ (n+k) h0 h
 simp [ir68,hw,ssB,ssU,Go.Sx.LV.undef,Go.undef,ssP,appO]
def Ev.leq:Nat→Ev→Ev→Bool
 | 0,a,b=>decide (a.n≤b.n)
 | d+1,a,b=>match a with
  | .leaf n=>decide (n≤b.n)
  | .node n l r=>if b.n<n∧b.isLeaf then false else Ev.leq d (l.up n) (b.left.up b.n)&&Ev.leq d (r.up n) (b.right.up b.n)
theorem yD : ∀ (d:Nat) (a b:Ev),a.depth≤d→a.max<2^63→b.max<2^63→∀ (H:Heap) (nx:Nat),Ω 62 [.p a.pv,.p b.pv] H nx=some (.bool (Ev.leq d a b),[],[]):=by
 intro d
 have leafc : ∀ d (n:Nat) (b:Ev) (H:Heap) (nx:Nat),Ω 62 [.p (Ev.leaf n).pv,.p b.pv] H nx=some (.bool (Ev.leq d (.leaf n) b),[],[]):=by
  intro d n b H nx
  have e:Ev.leq d (.leaf n) b=decide (n≤b.n):=by cases d<;>rfl
  rw [e]
  refine av (ir:=ir62) (by kernel_rfl) 0 ?_
  simp [ir62,Ev.n_l,Ev.ptr_l,ssB,ssU,Go.Sx.LV.undef,Go.undef,ssP,appO]
  try exact decide_eq_decide.2 Iff.rfl
 induction d with
 | zero=>
  intro a b ha _ _ H nx
  cases a with
  | node n l r=>simp [Ev.depth] at ha
  | leaf n=>exact leafc 0 n b H nx
 | succ d ih=>
  intro a b ha hma hmb H nx
  cases a with
  | leaf n=>exact leafc (d+1) n b H nx
  | node n l r=>
   have m1:=Ev.max_l n l r
   have m2:=Ev.max_r n l r
   have n1:=l.n_max
   have n2:=r.n_max
   have hdl:l.depth≤d:=by simp only [Ev.depth] at ha;have:=Nat.le_max_left l.depth r.depth;omega
   have hdr:r.depth≤d:=by simp only [Ev.depth] at ha;have:=Nat.le_max_right l.depth r.depth;omega
   have u1:=mM l.n n l.ptr (by omega) (by omega)
   have u2:=mM r.n n r.ptr (by omega) (by omega)
   refine av (ir:=ir62) (by kernel_rfl) 0 ?_
   cases b with
   | leaf m=>
    have hm:m<2^63:=hmb
    have u3:=mM 0 m (.s (.pointer none)) (by omega) (by omega)
    by_cases h:n≤m
    ·have h' : ¬m<n:=by omega
     have e1:=ih (l.up n) ((Ev.leaf 0).up m) (by rw [Ev.up_depth];exact hdl) (by rw [Ev.up_max];omega) (by rw [Ev.up_max];simp [Ev.max];omega)
     have e2:=ih (r.up n) ((Ev.leaf 0).up m) (by rw [Ev.up_depth];exact hdr) (by rw [Ev.up_max];omega) (by rw [Ev.up_max];simp [Ev.max];omega)
     have hl:Ev.leq (d+1) (.node n l r) (.leaf m)=(Ev.leq d (l.up n) ((Ev.leaf 0).up m)&&Ev.leq d (r.up n) ((Ev.leaf 0).up m)):=by simp [Ev.leq,Ev.isLeaf,Ev.n_l,h',Ev.left,Ev.right]
     rw [hl]
     simp only [Ev.pv,Ev.up_n,Ev.up_ptr,Ev.n_l,Ev.ptr_l,Nat.zero_add,Int.natCast_add] at e1 e2
     simp only [Int.zero_add] at u3
     cases h2:Ev.leq d (l.up n) ((Ev.leaf 0).up m)<;>rw [h2] at e1 <;>
     simp [ir62,Ev.n_l,Ev.n_n,Ev.ptr_l,Ev.ptr_n,mK,ki,u1,u2,u3,e1,e2,h,h',ssB,ssU,Go.Sx.LV.undef,Go.undef,ssP,appO]
    ·have h':m<n:=by omega
     have hl:Ev.leq (d+1) (.node n l r) (.leaf m)=false:=by simp [Ev.leq,Ev.isLeaf,Ev.n_l,h']
     rw [hl]
     simp [ir62,Ev.n_l,Ev.n_n,Ev.ptr_l,Ev.ptr_n,h,h',ssB,ssU,Go.Sx.LV.undef,Go.undef,ssP,appO]
   | node m bl br=>
    have m3:=Ev.max_l m bl br
    have m4:=Ev.max_r m bl br
    have n3:=bl.n_max
    have n4:=br.n_max
    have u3:=mM bl.n m bl.ptr (by omega) (by omega)
    have u4:=mM br.n m br.ptr (by omega) (by omega)
    have e1:=ih (l.up n) (bl.up m) (by rw [Ev.up_depth];exact hdl) (by rw [Ev.up_max];omega) (by rw [Ev.up_max];omega)
    have e2:=ih (r.up n) (br.up m) (by rw [Ev.up_depth];exact hdr) (by rw [Ev.up_max];omega) (by rw [Ev.up_max];omega)
    have hl:Ev.leq (d+1) (.node n l r) (.node m bl br)=(Ev.leq d (l.up n) (bl.up m)&&Ev.leq d (r.up n) (br.up m)):=by simp [Ev.leq,Ev.isLeaf,Ev.left,Ev.right,Ev.n_n]
    rw [hl]
    simp only [Ev.pv,Ev.up_n,Ev.up_ptr,Int.natCast_add] at e1 e2
    cases h2:Ev.leq d (l.up n) (bl.up m)<;>rw [h2] at e1<;>by_cases h:n≤m <;>
    simp [ir62,Ev.n_n,Ev.ptr_n,mL,kj,u1,u2,u3,u4,e1,e2,h,ssB,ssU,Go.Sx.LV.undef,Go.undef,ssP,appO]
end Go.Proofs.YtoeblkipfdnnlaaGreatDoor
end

section
namespace Go.Proofs.YtoeblkipfdnnlaaGreatDoor
open Go Go.Sx
def Ev.leqb (a b:Ev):Bool:=Ev.leq a.depth a b
theorem tL (a b:Ev) (ha:a.max<2^63) (hb:b.max<2^63) (H:Heap) (nx:Nat):Ω 62 [.p a.pv,.p b.pv] H nx=some (.bool (Ev.leqb a b),[],[]):=yD a.depth a b (Nat.le_refl _) ha hb H nx
theorem tK (e:Ev):e.depth<2^62→∀ (H:Heap) (nx:Nat),Ω 123 [.p e.pv] H nx=some (.int .i64 e.depth,[],[]):=by
 induction e with
 | leaf n=>
  intro _ H nx
  refine av (ir:=ir123) (by kernel_rfl) 0 ?_
  simp [ir123,Ev.ptr_l,Ev.depth,ssB,ssU,Go.Sx.LV.undef,Go.undef,ssP,appO]
 | node n l r ihl ihr=>
  intro hd H nx
  simp only [Ev.depth] at hd
  have d1:l.depth≤Max.max l.depth r.depth:=Nat.le_max_left _ _
  have d2:r.depth≤Max.max l.depth r.depth:=Nat.le_max_right _ _
  have hl:=ihl (by omega)
  have hr:=ihr (by omega)
  refine av (ir:=ir123) (by kernel_rfl) 0 ?_
  have hw:IntKind.i64.wrap (1+(if (r.depth:Int)>l.depth then (r.depth:Int) else l.depth))=((1+Max.max l.depth r.depth:Nat):Int):=by
   rw [wrap_i64 _ (by split<;>omega) (by split<;>omega)]
   split<;>omega
  simp [ir123,Ev.ptr_n,hl,hr,ssB,ssU,Go.Sx.LV.undef,Go.undef,ssP,appO]
  simpa [Ev.depth] using hw
theorem yE (e:Ev):e.max<2^64→∀ (H:Heap) (nx:Nat),Ω 124 [.p e.pv] H nx=some (.int .u64 e.max,[],[]):=by
 induction e with
 | leaf n=>
  intro _ H nx
  refine av (ir:=ir124) (by kernel_rfl) 0 ?_
  simp [ir124,Ev.ptr_l,Ev.n_l,Ev.max,ssB,ssU,Go.Sx.LV.undef,Go.undef,ssP,appO]
 | node n l r ihl ihr=>
  intro hd H nx
  have d1:=Ev.max_l n l r
  have d2:=Ev.max_r n l r
  have hl:=ihl (by omega)
  have hr:=ihr (by omega)
  refine av (ir:=ir124) (by kernel_rfl) 0 ?_
  have hm:(Ev.node n l r).max=n+Max.max l.max r.max:=rfl
  have hw:IntKind.u64.wrap ((n:Int)+(if (r.max:Int)>l.max then (r.max:Int) else l.max))=(((Ev.node n l r).max:Nat):Int):=by
   rw [hm] at hd ⊢
   rw [aQ _ (by split<;>omega) (by split<;>omega)]
   split<;>omega
  simp [ir124,Ev.ptr_n,Ev.n_n,hl,hr,ssB,ssU,Go.Sx.LV.undef,Go.undef,ssP,appO]
  simpa using hw
def Ev.err (e:Ev):Nat:=if 16<e.depth then 3 else if 2^20<e.max then 4 else 0
theorem kh (e:Ev) (hd:e.depth<2^62) (hm:e.max<2^64) (H:Heap) (nx:Nat):Ω 88 [.p e.pv] H nx=some (.int .i64 e.err,[],[]):=by
 refine av (ir:=ir88) (by kernel_rfl) 0 ?_
 have h1:=tK e hd
 have h2:=yE e hm
 unfold Ev.err
 by_cases c1:16<e.depth
 ·have c1' : ¬(e.depth:Int)≤16:=by omega
  simp [ir88,h1,h2,c1,c1',ssB,ssU,Go.Sx.LV.undef,Go.undef,ssP,appO]
 ·have c1':(e.depth:Int)≤16:=by omega
  by_cases c2:2^20<e.max
  ·have c2' : ¬(e.max:Int)≤1048576:=by omega
   simp [ir88,h1,h2,c1,c1',c2,c2',ssB,ssU,Go.Sx.LV.undef,Go.undef,ssP,appO]
  ·have c2':(e.max:Int)≤1048576:=by omega
   simp [ir88,h1,h2,c1,c1',c2,c2',ssB,ssU,Go.Sx.LV.undef,Go.undef,ssP,appO]
def Ev.down (e:Ev) (k:Nat):Ev:=match e with
 | .leaf n=>.leaf (n-k)
 | .node n l r=>.node (n-k) l r
theorem Ev.down_n (e:Ev) (k:Nat):(e.down k).n=e.n-k:=by cases e<;>rfl
theorem Ev.down_ptr (e:Ev) (k:Nat):(e.down k).ptr=e.ptr:=by cases e<;>rfl
def Ev.mk (n:Nat) (l r:Ev):Ev:=if l.isLeaf=true∧r.isLeaf=true∧l.n=r.n then .leaf (n+l.n) else .node (n+Min.min l.n r.n) (l.down (Min.min l.n r.n)) (r.down (Min.min l.n r.n))
theorem sf (n a:Nat) (h1:n+a<2^64) (H:Heap) (nx:Nat):Ω 66 [.int .u64 n,.p (Ev.leaf a).pv,.p (Ev.leaf a).pv] H nx=some (.p (Ev.leaf (n+a)).pv,[],[]):=by
 refine av (ir:=ir66) (by kernel_rfl) 0 ?_
 have hw:IntKind.u64.wrap ((n:Int)+a)=(n:Int)+a:=aQ _ (by omega) (by omega)
 simp [ir66,Ev.n_l,Ev.ptr_l,ssB,ssU,Go.Sx.LV.undef,Go.undef,ssP,appO,hw]
theorem si (n:Nat) (l r:Ev) (hc : ¬(l.isLeaf=true∧r.isLeaf=true∧l.n=r.n)) (h1:n+l.n<2^64) (h2:r.n<2^64) (m:Nat) (hmm:Min.min l.n r.n=m) (H:Heap) (nx:Nat):Ω 66 [.int .u64 n,.p l.pv,.p r.pv] H nx=
  some (.p (.agg [.s (.int .u64 ((n+m:Nat):Int)),.imm [.s (.int .u64 ((l.n-m:Nat):Int)),l.ptr,.s (.int .u64 ((r.n-m:Nat):Int)),r.ptr] 0]),[],[]):=by
 refine av (ir:=ir66) (by kernel_rfl) 0 ?_
 have hw:IntKind.u64.wrap ((n:Int)+l.n)=(n:Int)+l.n:=aQ _ (by omega) (by omega)
 have hmin:(if (r.n:Int)<l.n then (r.n:Int) else l.n)=(m:Int):=by split<;>omega
 have hmin' : ∀ (i:Decidable (r.n<l.n)),@ite Int (r.n<l.n) i (r.n:Int) (l.n:Int)=(m:Int):=fun i=>by split<;>omega
 have hw1:IntKind.u64.wrap ((n:Int)+m)=(n:Int)+m:=aQ _ (by omega) (by omega)
 have hw2:IntKind.u64.wrap ((l.n:Int)-m)=((l.n-m:Nat):Int):=by rw [aQ _ (by omega) (by omega)];omega
 have hw3:IntKind.u64.wrap ((r.n:Int)-m)=((r.n-m:Nat):Int):=by rw [aQ _ (by omega) (by omega)];omega
 generalize l.n-m=lm at*
 generalize r.n-m=rm at*
 cases l with
 | leaf a=>
  cases r with
  | leaf b=>
   have hln : ¬a=b:=fun h=>hc ⟨rfl,rfl,h⟩
   have e2:((a:Int)==b)=false:=by simp;omega
   simp only [Ev.n_l] at hw hmin hmin' hw2 hw3
   simp [ir66,Ev.n_l,Ev.ptr_l,ssB,ssU,Go.Sx.LV.undef,Go.undef,ssP,appO,e2,hw,hmin',hw1,hw2,hw3]
  | node b b1 b2=>
   simp only [Ev.n_l,Ev.n_n] at hw hmin hmin' hw2 hw3
   simp [ir66,Ev.n_l,Ev.ptr_l,Ev.n_n,Ev.ptr_n,ssB,ssU,Go.Sx.LV.undef,Go.undef,ssP,appO,hw,hmin',hw1,hw2,hw3]
 | node a a1 a2=>
  simp only [Ev.n_n] at hw hmin hmin' hw2
  simp [ir66,Ev.n_n,Ev.ptr_n,ssB,ssU,Go.Sx.LV.undef,Go.undef,ssP,appO,hw,hmin',hw1,hw2,hw3]
theorem pM (n:Nat) (l r:Ev) (h1:n+l.n<2^64) (h2:r.n<2^64) (H:Heap) (nx:Nat):Ω 66 [.int .u64 n,.p l.pv,.p r.pv] H nx=some (.p (Ev.mk n l r).pv,[],[]):=by
 unfold Ev.mk
 by_cases hc:l.isLeaf=true∧r.isLeaf=true∧l.n=r.n
 ·rw [if_pos hc]
  cases l with
  | leaf a=>
   cases r with
   | leaf b=>
    obtain rfl:a=b:=hc.2.2
    exact sf n a h1 H nx
   | node b b1 b2=>cases hc.2.1
  | node a a1 a2=>cases hc.1
 ·rw [if_neg hc,si n l r hc h1 h2 _ rfl]
  simp only [Ev.pv,Ev.n_n,Ev.ptr_n,Ev.down_n,Ev.down_ptr]
theorem lu (n:Nat) (h:n≤2^20) (H:Heap) (nx:Nat):Ω 63 [.int .u64 n] H nx=some (.tuple [.p (Ev.leaf n).pv,.int .i64 0],[],[]):=by
 refine av (ir:=ir63) (by kernel_rfl) 0 ?_
 have h1:(n:Int)≤1048576:=by omega
 simp [ir63,Ev.n_l,Ev.ptr_l,ssB,ssU,Go.Sx.LV.undef,Go.undef,ssP,appO,h1]
theorem pE (n:Nat) (l r:Ev) (hn:n≤2^20) (h1:(Ev.mk n l r).err=0) (h2:l.n≤2^21) (h3:r.n≤2^21) (hd:(Ev.mk n l r).depth<2^62) (hm:(Ev.mk n l r).max<2^64) (H:Heap) (nx:Nat):
  Ω 64 [.int .u64 n,.p l.pv,.p r.pv] H nx=some (.tuple [.p (Ev.mk n l r).pv,.int .i64 0],[],[]):=by
 refine av (ir:=ir64) (by kernel_rfl) 0 ?_
 have hmin : ¬(2097152:Int)<n:=by omega
 have e1:=pM n l r (by omega) (by omega)
 have e2:=kh _ hd hm
 rw [h1] at e2
 generalize Ev.mk n l r=e at*
 simp [ir64,ssB,ssU,Go.Sx.LV.undef,Go.undef,ssP,appO,e1,e2,hmin]
end Go.Proofs.YtoeblkipfdnnlaaGreatDoor
end

section
namespace Go.Proofs.YtoeblkipfdnnlaaGreatDoor
open Go Go.Sx
theorem bg {f:St→Option (Ex × St)} {n:Nat} {st st':St} (h:f st=some (.normal,st')):iter f (n+1) st=iter f n st':=by simp only [iter,h]
theorem bc {f:St→Option (Ex × St)} {n:Nat} {st st':St} {e:Ex} (h:f st=some (e,st')) (he:e ≠ .normal):iter f (n+1) st=some (e,st'):=by
 simp only [iter,h]
 cases e<;>first|rfl|exact absurd rfl he
def byt (l:List UInt8):List LV:=l.map fun x=>.int .u8 x.toNat
def bytP (l:List UInt8):List PV:=l.map fun x=>.s (.int .u8 x.toNat)
theorem dR:byt []=[]:=rfl
theorem cj (x:UInt8) (l:List UInt8):byt (x::l) = .int .u8 x.toNat::byt l:=rfl
theorem bO (l m:List UInt8):byt (l++m)=byt l++byt m:=by simp [byt]
theorem ax (l:List UInt8):(byt l).length=l.length:=by simp [byt]
theorem aJ (l:List UInt8):(bytP l).map LV.p=byt l:=by simp [byt,bytP]
theorem ak (l:List UInt8):(bytP l).length=l.length:=by simp [bytP]
theorem aH (l:List UInt8):ids.idsL (byt l)=[]:=by
 induction l with
 | nil=>rfl
 | cons x l ih=>rw [cj,ids.idsL,ih];rfl
theorem aO (l m:List LV):ids.idsL (l++m)=ids.idsL l++ids.idsL m:=by
 induction l with
 | nil=>rfl
 | cons x l ih=>rw [List.cons_append,ids.idsL,ids.idsL,ih,List.append_assoc]
theorem aK (nx:Nat) (s:List Nat) (l:List UInt8):ren.go nx s (byt l)=some (byt l):=by
 induction l with
 | nil=>rfl
 | cons x l ih=>rw [cj,ren.go,ih];rfl
theorem aB (l:List UInt8):allP (byt l)=some (bytP l):=by
 induction l with
 | nil=>rfl
 | cons x l ih=>rw [cj,allP,ih];rfl
theorem aR (nx:Nat) (s:List Nat) (l:List UInt8) (m:List LV):ren.go nx s (byt l++m)=match ren.go nx s m with
  | some q=>some (byt l++q)
  | none=>none:=by
 induction l with
 | nil=>rw [dR,List.nil_append];cases ren.go nx s m<;>rfl
 | cons x l ih=>rw [cj,List.cons_append,ren.go,ih];cases ren.go nx s m<;>rfl
theorem aF (l:List UInt8) (m:List LV):allP (byt l++m)=match allP m with
  | some q=>some (bytP l++q)
  | none=>none:=by
 induction l with
 | nil=>rw [dR,List.nil_append];cases allP m<;>rfl
 | cons x l ih=>rw [cj,List.cons_append,allP,ih];cases allP m<;>rfl
theorem aD (l:List UInt8):List.take l.length (byt l)=byt l:=by
 rw [←ax,List.take_length]
def aft (nx:Nat) (h:Hp) (u:Upd) (n:List (Ob)):Hp := { setAll nx h u with new:=(setAll nx h u).new++n }
theorem ao (nx:Nat) (h:Hp) (u:Upd):aft nx h u []=setAll nx h u:=by simp [aft]
theorem ae (nx:Nat) (h:Hp):setAll nx h []=h:=rfl
theorem cL (nx:Nat) (h:Hp) (u:Upd) (o:Go.Sx.Obj):aft nx h u [some o]=push (setAll nx h u) o:=rfl
theorem aq (c:Ctx) (dr:Bool) (h:Hp) (f:FuncId) (args:List LV):callO c dr h f args=
 if dr then
  match reach (Go.Sx.look c.H c.nx h) 1000 (ids.idsL args) [] with
  | some S=>
   if (ids.idsL args++S.flatMap (fun id=>match Go.Sx.look c.H c.nx h id with
    | some o=>o.ids
    | none=>[])).all (fun id=>decide (id<c.nx+h.new.length)) then
   match c.O f args (fun id=>if S.contains id then Go.Sx.look c.H c.nx h id else none) (c.nx+h.new.length) with
   | some (r,u,n)=>some ⟨r,aft c.nx h u n,S,!u.isEmpty⟩
   | none=>none
   else none
  | none=>none
 else
  match c.O f args (Go.Sx.look c.H c.nx h) (c.nx+h.new.length) with
  | some (r,u,n)=>some ⟨r,aft c.nx h u n,[],!u.isEmpty⟩
  | none=>none:=rfl
theorem aG (x:Hp) (o:Go.Sx.Obj):(push x o).new.length=x.new.length+1:=by simp [push]
theorem nO (x:Hp) (o:Go.Sx.Obj):(push x o).upd=x.upd:=rfl
theorem cB (nx:Nat) (x:Hp) (id:Nat) (o:Ob) (h : ¬id<nx):(Go.Sx.setObj nx x id o).upd=x.upd:=by simp [Go.Sx.setObj,h]
theorem bm {H:Heap} {nx:Nat} {h:Hp} {id:Nat} {o:Ob} (hid:id<nx+h.new.length) (j:Nat):Go.Sx.look H nx (Go.Sx.setObj nx h id o) j=if j=id then o else Go.Sx.look H nx h j:=be (by omega) j
end Go.Proofs.YtoeblkipfdnnlaaGreatDoor
end

section
namespace Go.Proofs.YtoeblkipfdnnlaaGreatDoor
open Go Go.Sx
def addBit (p:List UInt8) (n:Nat) (b:Bool):List UInt8:=
 let q:=if n%8=0 then p++[0] else p
 if b then q.set (n/8) (q.getD (n/8) 0 ||| UInt8.ofNat (128 >>> (n%8))) else q
def addBits (p:List UInt8) (n:Nat):List Bool→List UInt8
 | []=>p
 | b::l=>addBits (addBit p n b) (n+1) l
theorem bZ (p:List UInt8) (n:Nat) (l m:List Bool):addBits p n (l++m)=addBits (addBits p n l) (n+l.length) m:=by
 induction l generalizing p n with
 | nil=>rfl
 | cons b l ih=>rw [List.cons_append,addBits,addBits,ih,List.length_cons,Nat.add_assoc,Nat.add_comm 1]
def bitsOf (x:Nat):Nat→List Bool
 | 0=>[]
 | k+1=>x.testBit k::bitsOf x k
theorem aj (x:Nat) : ∀ k,(bitsOf x k).length=k
 | 0=>rfl
 | k+1=>by rw [bitsOf,List.length_cons,aj x k]
theorem jb (p:List UInt8) (n:Nat) (b:Bool) (h:p.length=(n+7)/8):(addBit p n b).length=(n+1+7)/8:=by
 unfold addBit
 by_cases h8:n%8=0<;>cases b<;>simp [h8,h]<;>omega
structure Wr (H:Heap) (nx wid pid:Nat) (p:List UInt8) (n:Nat):Prop where
 lt:wid<nx
 len:p.length=(n+7)/8
 small:n<2^30
 at':(n=0∧H wid=some (.cells [.p (.s (.slice none 0 0)),.int .i64 0])) ∨
  (0<n∧pid<nx∧pid≠wid∧H wid=some (.cells [.arr pid 0 p.length 1 p.length false,.int .i64 n])∧H pid=some (.cells (byt p)))
theorem rG (k:Nat) (hk:k≤64) (H:Heap) (nx:Nat):Ω 180 [.int .i64 k] H nx=some (.int .i64 k,[],[]):=by
 refine av (ir:=ir180) (by kernel_rfl) 0 ?_
 have h1 : ¬(0:Int)>k:=by omega
 have h2 : ¬(64:Int)<k:=by omega
 have h3 : ¬64<k:=by omega
 simp [ir180,ssB,ssU,Go.Sx.LV.undef,Go.undef,ssP,appO,h1,h2,h3]
theorem eS (k:IntKind) (x y:Int) (hy:y≠0):binI .rem k x y=some (.int k (x.tmod y)):=by simp [binI,hy]
theorem rQ:binI .quo .i64 0 8=some (.int .i64 0):=rfl
section put
variable {H:Heap} {nx wid pid:Nat} {h:Hp} {p:List UInt8} {n:Nat}
theorem iV (x k:Nat) (hk:k≤64):shI .shr .u64 x k=some (.int .u64 (x >>> k:Nat)):=by
 have:shI .shr .u64 (x:Int) k=some (.int .u64 ((x:Int).fdiv (2^(min k 64)))):=by
  simp only [shI]
  rw [if_neg (by omega)]
  rfl
 rw [this,Nat.shiftRight_eq_div_pow,Int.fdiv_eq_ediv_of_nonneg _ (Int.le_of_lt (Int.pow_pos (by decide))),Nat.min_eq_left hk]
 norm_cast
theorem vB (x k:Nat) (hk:k≤64):shI .shl .u64 x k=some (.int .u64 (x*2^k%2^64:Nat)):=by
 have:shI .shl .u64 (x:Int) k=some (.int .u64 (IntKind.u64.wrap ((x:Int)*(2^(min k 64))))):=by
  simp only [shI]
  rw [if_neg (by omega)]
  rfl
 rw [this,Nat.min_eq_left hk]
 simp [IntKind.wrap,IntKind.signed,IntKind.bits]
theorem zT (y:Nat):binI .and .u64 y 1=some (.int .u64 (y%2:Nat)):=by
 have:binI .and .u64 (y:Int) 1=some (.int .u64 (IntKind.u64.wrap (BitVec.ofInt 64 (y:Int) &&& BitVec.ofInt 64 1).toNat)):=rfl
 rw [this,BitVec.ofInt_natCast,BitVec.toNat_and,BitVec.toNat_ofNat]
 have e:(BitVec.ofInt 64 1).toNat=1:=by decide
 rw [e,Nat.and_one_is_mod]
 have e2:y%2^64%2=y%2:=by omega
 rw [e2]
 simp [IntKind.wrap,IntKind.signed,IntKind.bits]
 omega
theorem xA (k:Nat) (hk:k<8):shI .shr .u8 128 k=some (.int .u8 ((UInt8.ofNat (128 >>> k)).toNat:Nat)):=by
 match k,hk with
 | 0,_|1,_|2,_|3,_|4,_|5,_|6,_|7,_=>rfl
theorem Ax (x y:UInt8):binI .or .u8 x.toNat y.toNat=some (.int .u8 (x ||| y).toNat):=by
 have:binI .or .u8 (x.toNat:Int) (y.toNat:Int)=some (.int .u8 (IntKind.u8.wrap (BitVec.ofInt 8 (x.toNat:Int) ||| BitVec.ofInt 8 (y.toNat:Int)).toNat)):=rfl
 have hx:=x.toNat_lt
 have hy:=y.toNat_lt
 rw [this,BitVec.ofInt_natCast,BitVec.ofInt_natCast,BitVec.toNat_or,BitVec.toNat_ofNat,BitVec.toNat_ofNat,Nat.mod_eq_of_lt hx,Nat.mod_eq_of_lt hy,UInt8.toNat_or]
 have:=Nat.or_lt_two_pow (n:=8) hx hy
 simp [IntKind.wrap,IntKind.signed,IntKind.bits]
 omega
inductive UF (wid pid0:Nat):Upd→Prop where
 | u0:UF wid pid0 []
 | u1 (X:Ob):UF wid pid0 [(wid,X)]
 | u2 (X Z:Ob):UF wid pid0 [(pid0,Z),(wid,X)]
 | u3 (X Z:Ob):UF wid pid0 [(wid,X),(pid0,Z)]
 | u4 (Z:Ob):UF wid pid0 [(pid0,Z)]
theorem UF.setW {wid pid0:Nat} (hne:pid0≠wid) {u:Upd} (h:UF wid pid0 u) (X:Ob):UF wid pid0 (setU u wid X):=by
 have h1 : ¬wid=pid0:=fun e=>hne e.symm
 cases h<;>simp [setU,h1]<;>constructor
theorem UF.setP {wid pid0:Nat} (hne:pid0≠wid) {u:Upd} (h:UF wid pid0 u) (Z:Ob):UF wid pid0 (setU u pid0 Z):=by
 cases h<;>simp [setU,hne]<;>constructor
theorem bN (nx:Nat) (x:Hp) (id:Nat) (o:Ob) (h:id<nx):(Go.Sx.setObj nx x id o).upd=setU x.upd id o:=by simp [Go.Sx.setObj,h]
theorem aZ (u:Upd) (id j:Nat) (o:Ob):findU (setU u id o) j=if j=id then some o else findU u j:=fK j
structure UZ (nx wid pid0:Nat) (h:Hp):Prop where
 uf:UF wid pid0 h.upd
 zz : ∀ o,findU h.upd pid0=some o→o=none∨∃ l,o=some (.cells (byt l))
 kk : ∀ id o,findU h.upd id=some o→id<nx
theorem UZ.push {nx wid pid0:Nat} {h:Hp} (g:UZ nx wid pid0 h) (o:Go.Sx.Obj):UZ nx wid pid0 (Go.Sx.push h o):=⟨g.uf,g.zz,g.kk⟩
theorem UZ.objW {nx wid pid0:Nat} {h:Hp} (hlt:wid<nx) (hne:pid0≠wid) (g:UZ nx wid pid0 h) (o:Ob):UZ nx wid pid0 (Go.Sx.setObj nx h wid o):=by
 refine ⟨?_,fun q hq => ?_,fun id q hq => ?_⟩
 ·rw [bN _ _ _ _ hlt];exact g.uf.setW hne o
 ·rw [bN _ _ _ _ hlt,aZ,if_neg hne] at hq;exact g.zz q hq
 ·rw [bN _ _ _ _ hlt,aZ] at hq
  split at hq
  ·rename_i e;rw [e];exact hlt
  ·exact g.kk id q hq
theorem UZ.objP {nx wid pid0 pid:Nat} {h:Hp} (hne:pid0≠wid) (hp:pid=pid0∨nx≤pid) (g:UZ nx wid pid0 h) (o:Ob) (ho:o=none∨∃ l,o=some (.cells (byt l))):UZ nx wid pid0 (Go.Sx.setObj nx h pid o):=by
 by_cases hlt:pid<nx
 ·obtain rfl:pid=pid0:=by
   rcases hp with h|h
   ·exact h
   ·omega
  refine ⟨?_,fun q hq => ?_,fun id q hq => ?_⟩
  ·rw [bN _ _ _ _ hlt];exact g.uf.setP hne o
  ·rw [bN _ _ _ _ hlt,aZ,if_pos rfl] at hq
   obtain rfl:=Option.some.inj hq
   exact ho
  ·rw [bN _ _ _ _ hlt,aZ] at hq
   split at hq
   ·rename_i e;rw [e];exact hlt
   ·exact g.kk id q hq
 ·exact ⟨by rw [cB _ _ _ _ hlt];exact g.uf,fun q hq=>g.zz q (by rwa [cB _ _ _ _ hlt] at hq),fun id q hq=>g.kk id q (by rwa [cB _ _ _ _ hlt] at hq)⟩
structure WrH (H:Heap) (nx:Nat) (h:Hp) (wid pid0 pid:Nat) (p:List UInt8) (n:Nat):Prop where
 lt:wid<nx
 ne0:pid0≠wid
 len:p.length=(n+7)/8
 small:n<2^30
 uz:UZ nx wid pid0 h
 at':(n=0∧Go.Sx.look H nx h wid=some (.cells [.p (.s (.slice none 0 0)),.int .i64 0])) ∨
  (0<n∧pid<nx+h.new.length∧pid≠wid∧(pid=pid0∨nx≤pid)∧Go.Sx.look H nx h wid=some (.cells [.arr pid 0 p.length 1 p.length false,.int .i64 n])∧Go.Sx.look H nx h pid=some (.cells (byt p)))
section bit
variable {H:Heap} {nx wid pid0 pid:Nat} {h:Hp} {p:List UInt8} {n:Nat}
theorem AJ (n:Nat):(n:Int).tmod 8=((n%8:Nat):Int):=by
 rw [Int.tmod_eq_emod_of_nonneg (by omega)];norm_cast
theorem AI (n:Nat):(n:Int).tdiv 8=((n/8:Nat):Int):=by
 rw [Int.tdiv_eq_ediv_of_nonneg (by omega)];norm_cast
theorem AO (N:Nat) (g:WrH H nx h wid pid0 pid p n) (hs:n+1<2^30) (x i:Nat) (hi:i<64) : ∃ h' pid',
  runCS ⟨Ω,gG,H,nx⟩ N ir148_0 ⟨[(0,.ref wid 0),(1,.int .u64 x),(6,.int .i64 i)],h⟩=some (.normal,⟨[(0,.ref wid 0),(1,.int .u64 x),(6,.int .i64 ((i:Int)-1))],h'⟩) ∧
  WrH H nx h' wid pid0 pid' (addBit p n (x.testBit i)) (n+1)∧(findU h'.upd wid).isSome=true:=by
 have hlt:=g.lt
 have hne:=g.ne0
 have hlen:=jb p n (x.testBit i) g.len
 have hi0:(0:Int)≤i:=by omega
 have hwi:IntKind.i64.wrap ((i:Int)-1)=(i:Int)-1:=wrap_i64 _ (by omega) (by omega)
 have hwn:IntKind.i64.wrap ((n:Int)+1)=(n:Int)+1:=wrap_i64 _ (by omega) (by omega)
 have hw1:IntKind.i64.wrap 1=1:=rfl
 have hsh:=iV x i (by omega)
 have han:=zT (x >>> i)
 have htb:x >>> i%2=(if x.testBit i then 1 else 0):=by
  rw [Nat.testBit_eq_decide_div_mod_eq,Nat.shiftRight_eq_div_pow]
  have:=Nat.mod_two_eq_zero_or_one (x/2^i)
  by_cases h:x/2^i%2=1<;>simp [h]
  omega
 have hr8:binI .rem .i64 n 8=some (.int .i64 (n%8:Nat)):=by rw [eS _ _ _ (by decide),AJ]
 have hq8:binI .quo .i64 n 8=some (.int .i64 (n/8:Nat)):=by
  have:binI .quo .i64 (n:Int) 8=some (.int .i64 (IntKind.i64.wrap ((n:Int).tdiv 8))):=by simp [binI]
  rw [this,AI,wrap_i64 _ (by omega) (by omega)]
 have htop:=xA (n%8) (Nat.mod_lt _ (by decide))
 have k1 : ∀ k,wid<nx+(h.new.length+k):=fun k=>by omega
 have k2 : ∀ k,¬wid=nx+(h.new.length+k):=fun k=>by omega
 have k3 : ¬wid=nx+h.new.length:=by omega
 have k4:wid<nx+h.new.length:=by omega
 have k5 : ∀ k,¬nx+(h.new.length+k)=wid:=fun k=>by omega
 have k6 : ¬nx+h.new.length=wid:=by omega
 rw [htb] at han
 generalize x >>> i=s at*
 rcases g.at' with ⟨rfl,l1⟩|⟨h0,p1,p2,p3,l1,l2⟩
 ·
  have hp:p=[]:=List.length_eq_zero_iff.1 (by rw [g.len])
  subst hp
  have b0:byt [0]=[.int .u8 0]:=rfl
  cases hb:x.testBit i
  ·have e:=Eq.refl (runCS ⟨Ω,gG,H,nx⟩ N ir148_0 ⟨[(0,.ref wid 0),(1,.int .u64 x),(6,.int .i64 i)],h⟩)
   rw [hb] at han hlen
   conv at e=>
    rhs
    simp [ir148_0,ssB,ssU,Go.Sx.LV.undef,Go.undef,aq,ao,cL,Go.Sx.splice,Go.Sx.finish,Go.Sx.setAll,appO,Go.Sx.leI_eq,ltF,am,aG,az,bm,Nat.add_assoc,hi0,hwi,hw1,hsh,han,k1,k2,k3,k4,k5,k6,l1,eS]
   rw [hb] at*
   refine ⟨_,nx+(h.new.length+1),e,⟨hlt,hne,hlen,hs,?_,.inr ⟨by omega,?_,?_,.inr ?_,?_,?_⟩⟩,by simp [bN _ _ _ _ hlt,aZ]⟩
   ·repeat (first|exact g.uz|apply UZ.push|refine UZ.objW hlt hne ?_ _|refine UZ.objP hne (.inr (by omega)) ?_ _ (.inr ⟨_,rfl⟩))
   all_goals simp [am,aG,az,bm,Nat.add_assoc,k1,k2,k3,k4,k5,k6,addBit,byt]
   all_goals try omega
  ·have htop0:shI .shr .u8 128 0=some (.int .u8 128):=rfl
   have hor0:binI .or .u8 0 128=some (.int .u8 128):=rfl
   have e:=Eq.refl (runCS ⟨Ω,gG,H,nx⟩ N ir148_0 ⟨[(0,.ref wid 0),(1,.int .u64 x),(6,.int .i64 i)],h⟩)
   rw [hb] at han hlen
   conv at e=>
    rhs
    simp [ir148_0,ssB,ssU,Go.Sx.LV.undef,Go.undef,aq,ao,cL,Go.Sx.splice,Go.Sx.finish,Go.Sx.setAll,appO,Go.Sx.leI_eq,ltF,am,aG,az,bm,Nat.add_assoc,hi0,hwi,hw1,hsh,han,k1,k2,k3,k4,k5,k6,l1,eS,rQ,htop0,hor0]
   refine ⟨_,nx+(h.new.length+1),e,⟨hlt,hne,hlen,hs,?_,.inr ⟨by omega,?_,?_,.inr ?_,?_,?_⟩⟩,by simp [bN _ _ _ _ hlt,aZ]⟩
   ·exact UZ.objW hlt hne (UZ.objP hne (.inr (by omega)) (UZ.objW hlt hne (UZ.push (UZ.push g.uz _) _) _) _ (.inr ⟨[128],rfl⟩)) _
   all_goals simp [am,aG,az,bm,Nat.add_assoc,k1,k2,k3,k4,k5,k6,addBit,byt]
   all_goals try omega
 ·have p2' : ¬pid=wid:=p2
  have p2'' : ¬wid=pid:=fun e=>p2 e.symm
  have q1 : ∀ k,pid<nx+(h.new.length+k):=fun k=>by omega
  have q2 : ∀ k,¬pid=nx+(h.new.length+k):=fun k=>by omega
  have q3 : ¬pid=nx+h.new.length:=by omega
  have q4:pid<nx+h.new.length:=by omega
  have q5 : ∀ k,¬nx+(h.new.length+k)=pid:=fun k=>by omega
  have q6 : ¬nx+h.new.length=pid:=by omega
  have hL:=g.len
  have hLb:=ax p
  by_cases h8:n%8=0
  ·have hL8:p.length=n/8:=by omega
   have r0:binI .rem .i64 n 8=some (.int .i64 0):=by rw [hr8,h8];rfl
   rw [h8] at htop
   have htop0:shI .shr .u8 128 0=some (.int .u8 128):=rfl
   have hor0:binI .or .u8 0 128=some (.int .u8 128):=rfl
   have hq8':binI .quo .i64 n 8=some (.int .i64 p.length):=by rw [hq8,hL8]
   have h41 : ¬1099511627776<p.length+1:=by omega
   have h42:p.length+1≤1099511627776:=by omega
   have htk:List.take p.length (byt p)=byt p:=aD p
   cases hb:x.testBit i
   ·have e:=Eq.refl (runCS ⟨Ω,gG,H,nx⟩ N ir148_0 ⟨[(0,.ref wid 0),(1,.int .u64 x),(6,.int .i64 i)],h⟩)
    rw [hb] at han hlen
    conv at e=>
     rhs
     simp [ir148_0,ssB,ssU,Go.Sx.LV.undef,Go.undef,aq,ao,cL,Go.Sx.splice,Go.Sx.finish,Go.Sx.setAll,appO,Go.Sx.leI_eq,ltF,am,aG,az,bm,Nat.add_assoc,hi0,hwi,hwn,hsh,han,k1,k2,k3,k4,k5,k6,q1,q2,q3,q4,q5,q6,p1,p2',p2'',l1,l2,hLb,r0,h41,h42,htk]
    have hadd:addBit p n false=p++[0]:=by simp [addBit,h8]
    rw [hadd] at hlen ⊢
    refine ⟨_,nx+(h.new.length+1),e,⟨hlt,hne,hlen,hs,?_,.inr ⟨by omega,?_,?_,.inr ?_,?_,?_⟩⟩,by simp [bN _ _ _ _ hlt,aZ]⟩
    ·exact UZ.objW hlt hne (UZ.objW hlt hne (UZ.push (UZ.objP hne p3 (UZ.push g.uz _) none (.inl rfl)) _) _) _
    all_goals simp [am,aG,az,bm,Nat.add_assoc,k1,k2,k3,k4,k5,k6,q1,q2,q3,q4,q5,q6,p1,p2',p2'',l1,l2,hLb,byt]
    all_goals try omega
   ·have hget:(byt p++[.int .u8 0])[p.length]?=some (.int .u8 0):=by rw [List.getElem?_append_right (by rw [ax];omega),ax,Nat.sub_self];rfl
    have hspl:List.take p.length (byt p++[.int .u8 0]) ++ .int .u8 128::List.drop (p.length+1) (byt p++[.int .u8 0])=byt (p++[128]):=by
     rw [List.take_left' (ax p),List.drop_of_length_le (by simp [ax]),bO];rfl
    have e:=Eq.refl (runCS ⟨Ω,gG,H,nx⟩ N ir148_0 ⟨[(0,.ref wid 0),(1,.int .u64 x),(6,.int .i64 i)],h⟩)
    rw [hb] at han hlen
    conv at e=>
     rhs
     simp [ir148_0,ssB,ssU,Go.Sx.LV.undef,Go.undef,aq,ao,cL,Go.Sx.splice,Go.Sx.finish,Go.Sx.setAll,appO,Go.Sx.leI_eq,ltF,am,aG,az,bm,Nat.add_assoc,hi0,hwi,hwn,hsh,han,k1,k2,k3,k4,k5,k6,q1,q2,q3,q4,q5,q6,p1,p2',p2'',l1,l2,hLb,r0,h41,h42,htk,hq8',htop0,hor0,hget,hspl]
    have hadd:addBit p n true=p++[128]:=by
     simp [addBit,h8,←hL8]
    rw [hadd] at hlen ⊢
    refine ⟨_,nx+(h.new.length+1),e,⟨hlt,hne,hlen,hs,?_,.inr ⟨by omega,?_,?_,.inr ?_,?_,?_⟩⟩,by simp [bN _ _ _ _ hlt,aZ]⟩
    ·exact UZ.objW hlt hne (UZ.objP hne (.inr (by omega)) (UZ.objW hlt hne (UZ.push (UZ.objP hne p3 (UZ.push g.uz _) none (.inl rfl)) _) _) _ (.inr ⟨p++[128],by rw [List.drop_of_length_le (by simp [ax]),bO];rfl⟩)) _
    all_goals simp [am,aG,az,bm,Nat.add_assoc,k1,k2,k3,k4,k5,k6,q1,q2,q3,q4,q5,q6,p1,p2',p2'',l1,l2,hLb,byt]
    all_goals try omega
  ·have hlt8:n/8<p.length:=by omega
   have hr0 : ¬n%8=0:=h8
   have hrem:(((n%8:Nat):Int)==0)=false:=by simp;omega
   obtain ⟨b,hbq⟩ : ∃ b,p[n/8]?=some b:=⟨p[n/8],List.getElem?_eq_getElem hlt8⟩
   have hbb:(byt p)[n/8]?=some (.int .u8 b.toNat):=by simp [byt,hbq]
   have hbb2 : ∀ h:n/8<(byt p).length,(byt p)[n/8] = .int .u8 b.toNat:=fun h=>(List.getElem?_eq_some_iff.1 hbb).2
   have hor:=Ax b (UInt8.ofNat (128 >>> (n%8)))
   have hset:List.take (n/8) (byt p) ++ .int .u8 (b ||| UInt8.ofNat (128 >>> (n%8))).toNat::List.drop (n/8+1) (byt p)=byt (p.set (n/8) (b ||| UInt8.ofNat (128 >>> (n%8)))):=by
    rw [List.set_eq_take_append_cons_drop,if_pos hlt8]
    simp [byt]
   have hsl:(p.set (n/8) (b ||| UInt8.ofNat (128 >>> (n%8)))).length=p.length:=by simp
   have hgd:p.getD (n/8) 0=b:=by rw [List.getD,hbq];rfl
   have hle1:n/8+1≤p.length:=by omega
   have haddt:addBit p n true=p.set (n/8) (b ||| UInt8.ofNat (128 >>> (n%8))):=by simp only [addBit,if_neg h8,hgd,if_true]
   have haddf:addBit p n false=p:=by simp [addBit,h8]
   generalize UInt8.ofNat (128 >>> (n%8))=tb at*
   generalize b ||| tb=z at*
   generalize n%8=r at*
   generalize n/8=q at*
   cases hb:x.testBit i
   ·have e:=Eq.refl (runCS ⟨Ω,gG,H,nx⟩ N ir148_0 ⟨[(0,.ref wid 0),(1,.int .u64 x),(6,.int .i64 i)],h⟩)
    rw [hb] at han hlen
    conv at e=>
     rhs
     simp [ir148_0,ssB,ssU,Go.Sx.LV.undef,Go.undef,aq,ao,cL,Go.Sx.splice,Go.Sx.finish,Go.Sx.setAll,appO,Go.Sx.leI_eq,ltF,am,aG,az,bm,Nat.add_assoc,hi0,hwi,hwn,hsh,han,k1,k2,k3,k4,k5,k6,q1,q2,q3,q4,q5,q6,p1,p2',p2'',l1,l2,hLb,hr8,hrem,hr0]
    rw [haddf] at hlen ⊢
    refine ⟨_,pid,e,⟨hlt,hne,hlen,hs,UZ.objW hlt hne g.uz _,.inr ⟨by omega,?_,p2,p3,?_,?_⟩⟩,by simp [bN _ _ _ _ hlt,aZ]⟩
    all_goals simp [am,aG,az,bm,Nat.add_assoc,k1,k2,k3,k4,k5,k6,q1,q2,q3,q4,q5,q6,p1,p2',p2'',l1,l2,hLb,ax]
    all_goals try omega
   ·have e:=Eq.refl (runCS ⟨Ω,gG,H,nx⟩ N ir148_0 ⟨[(0,.ref wid 0),(1,.int .u64 x),(6,.int .i64 i)],h⟩)
    rw [hb] at han hlen
    conv at e=>
     rhs
     simp [ir148_0,ssB,ssU,Go.Sx.LV.undef,Go.undef,aq,ao,cL,Go.Sx.splice,Go.Sx.finish,Go.Sx.setAll,appO,Go.Sx.leI_eq,ltF,am,aG,az,bm,Nat.add_assoc,hi0,hwi,hwn,hsh,han,k1,k2,k3,k4,k5,k6,q1,q2,q3,q4,q5,q6,p1,p2',p2'',l1,l2,hLb,hr8,hrem,hr0,hq8,htop,hor,hbb,hbb2,hset,hlt8,hle1]
    rw [haddt] at hlen ⊢
    rw [hsl] at hlen
    refine ⟨_,pid,e,⟨hlt,hne,by rw [hsl];exact hlen,hs,?_,.inr ⟨by omega,?_,p2,p3,?_,?_⟩⟩,by simp [bN _ _ _ _ hlt,aZ]⟩
    ·exact UZ.objW hlt hne (UZ.objP hne p3 g.uz _ (.inr ⟨_,rfl⟩)) _
    all_goals simp [am,aG,az,bm,Nat.add_assoc,k1,k2,k3,k4,k5,k6,q1,q2,q3,q4,q5,q6,p1,p2',p2'',l1,l2,hLb,ax,hsl]
    all_goals try omega
theorem xf (N:Nat) (x:LV) (wr:LV):runCS ⟨Ω,gG,H,nx⟩ N ir148_0 ⟨[(0,wr),(1,x),(6,.int .i64 (-1))],h⟩=some (.exit 0,⟨[(0,wr),(1,x),(6,.int .i64 (-1)),(13,.bool false)],h⟩):=by
 simp [ir148_0,ssB,ssU,Go.Sx.LV.undef,Go.undef,aq,ao,cL,Go.Sx.splice,Go.Sx.finish,Go.Sx.setAll,appO,Go.Sx.leI_eq,ltF]
end bit
theorem uV {H:Heap} {nx wid pid0:Nat} (N:Nat) (x:Nat) : ∀ (k q pid n:Nat) (h:Hp) (p:List UInt8),k≤64→k<q→n+k<2^30→WrH H nx h wid pid0 pid p n→∃ h' pid',
  iter (runCS ⟨Ω,gG,H,nx⟩ N ir148_0) q ⟨[(0,.ref wid 0),(1,.int .u64 x),(6,.int .i64 ((k:Int)-1))],h⟩=some (.exit 0,⟨[(0,.ref wid 0),(1,.int .u64 x),(6,.int .i64 (-1)),(13,.bool false)],h'⟩) ∧
  WrH H nx h' wid pid0 pid' (addBits p n (bitsOf x k)) (n+k)∧(0<k→(findU h'.upd wid).isSome=true)∧(k=0→h'=h):=by
 intro k
 induction k with
 | zero=>
  intro q pid n h p _ hq _ g
  obtain ⟨q,rfl⟩ : ∃ r,q=r+1:=⟨q-1,by omega⟩
  exact ⟨h,pid,bc (xf N _ _) (by simp),g,fun h=>absurd h (Nat.lt_irrefl 0),fun _=>rfl⟩
 | succ k ih=>
  intro q pid n h p hk hq hn g
  obtain ⟨q,rfl⟩ : ∃ r,q=r+1:=⟨q-1,by omega⟩
  obtain ⟨h1,pid1,e1,g1,f1⟩:=AO N g (by omega) x k (by omega)
  have e0:((k+1:Nat):Int)-1=k:=by omega
  rw [e0,bg e1]
  obtain ⟨h2,pid2,e2,g2,f2,f3⟩:=ih q pid1 (n+1) h1 _ (by omega) (by omega) (by omega) g1
  refine ⟨h2,pid2,e2,?_,fun _ => ?_,fun h=>by omega⟩
  ·rw [bitsOf,addBits,show n+(k+1)=n+1+k by omega]
   exact g2
  ·by_cases hk0:k=0
   ·rw [f3 hk0];exact f1
   ·exact f2 (by omega)
inductive UForm (wid pid nx:Nat):Upd→Prop where
 | f1 (X:Ob):UForm wid pid nx [(wid,X)]
 | f2 (X Z:Ob) (h:pid<nx) (hz:Z=none∨∃ l,Z=some (.cells (byt l))):UForm wid pid nx [(pid,Z),(wid,X)]
 | f3 (X Z:Ob) (h:pid<nx) (hz:Z=none∨∃ l,Z=some (.cells (byt l))):UForm wid pid nx [(wid,X),(pid,Z)]
structure Post (H:Heap) (nx wid pid n:Nat) (u:Upd) (m:List (Ob)) (pid':Nat) (p':List UInt8) (n':Nat):Prop where
 form:UForm wid (if n=0 then nx+wid+1 else pid) nx u
 keys : ∀ id o,findU u id=some o→id<nx
 wr:Wr (Go.Sx.look H nx ⟨u,m⟩) (nx+m.length) wid pid' p' n'
 pp:(0<n∧pid'=pid)∨nx≤pid'
 frame : ∀ id,id<nx→id≠wid→(n=0∨id≠pid)→Go.Sx.look H nx ⟨u,m⟩ id=H id
theorem Ak {nx a:Nat} {X:Ob} (h:a<nx) : ∀ id o,findU [(a,X)] id=some o→id<nx:=fun id o hf=>by
 simp only [findU] at hf
 split at hf
 ·rename_i e;rw [e];exact h
 ·cases hf
theorem xZ {nx a b:Nat} {X Y:Ob} (h:a<nx) (h':b<nx) : ∀ id o,findU [(a,X),(b,Y)] id=some o→id<nx:=fun id o hf=>by
 simp only [findU] at hf
 split at hf
 ·rename_i e;rw [e];exact h
 ·split at hf
  ·rename_i e;rw [e];exact h'
  ·cases hf
theorem yG {H:Heap} {nx wid pid0 pid:Nat} {h:Hp} {p:List UInt8} {n:Nat} (own:Bool) (g:WrH H nx h wid pid0 pid p n) (hn:0<n) (hw:(findU h.upd wid).isSome=true):
  ∃ u m pid',finish own H nx (.tuple []) h=some (.tuple [],u,m)∧UForm wid pid0 nx u∧(∀ id o,findU u id=some o→id<nx)∧Wr (Go.Sx.look H nx ⟨u,m⟩) (nx+m.length) wid pid' p n∧((pid<nx∧pid'=pid)∨(nx≤pid∧pid'=nx)) ∧
   (∀ id,id<nx→id≠wid→id≠pid0→Go.Sx.look H nx ⟨u,m⟩ id=H id):=by
 have hlt:=g.lt
 have hne:=g.ne0
 have hne' : ¬wid=pid0:=fun e=>hne e.symm
 obtain ⟨uf,zz,kk⟩:=g.uz
 rcases g.at' with ⟨h0,_⟩|⟨_,p1,p2,p3,l1,l2⟩
 ·omega
 have hup : ∀ X,findU h.upd wid=some X→X=some (.cells [.arr pid 0 p.length 1 p.length false,.int .i64 n]):=fun X hX=>by
  have:=l1
  simp only [Go.Sx.look,if_pos hlt,hX] at this
  exact this
 have hpw : ¬wid=pid:=fun e=>p2 e.symm
 obtain ⟨ud,nw⟩:=h
 simp only at uf zz kk hw hup
 by_cases hp:pid<nx
 ·have hp0:pid=pid0:=by
   rcases p3 with h|h
   ·exact h
   ·omega
  have l2':findU ud pid=some (some (.cells (byt p)))∨(findU ud pid=none∧H pid=some (.cells (byt p))):=by
   simp only [Go.Sx.look,if_pos hp] at l2
   cases hf:findU ud pid with
   | none=>rw [hf] at l2;exact .inr ⟨rfl,l2⟩
   | some o=>rw [hf] at l2;exact .inl (by rw [←l2])
  cases uf with
  | u0=>simp [findU] at hw
  | u4 Z=>simp [findU,hne'] at hw
  | u1 X=>
   obtain rfl:=hup X (by simp [findU])
   refine ⟨[(wid,some (.cells [.arr pid 0 p.length 1 p.length false,.int .i64 n]))],[],pid,by cases own<;>simp [ssB,ssU,Go.Sx.LV.undef,Go.undef,Go.Sx.callO,Go.Sx.splice,Go.Sx.finish,Go.Sx.push,Go.Sx.setObj,Go.Sx.setU,Go.Sx.setAll,appO,Go.Sx.leI_eq,ltF,hp],.f1 _,kk,⟨by simp;omega,g.len,g.small,.inr ⟨hn,by simp;exact hp,p2,by simp [Go.Sx.look,findU,hlt],?_⟩⟩,.inl ⟨hp,rfl⟩,fun id h1 h2 h3=>by simp [Go.Sx.look,findU,h1,h2]⟩
   simp only [findU,if_neg p2] at l2'
   have l3:H pid=some (.cells (byt p)):=by simpa using l2'
   simp [Go.Sx.look,findU,hp,p2,l3]
  | u2 X Z=>
   subst hp0
   obtain rfl:=hup X (by simp [findU,hne'])
   have hZ:Z=some (.cells (byt p)):=by simpa [findU] using l2'
   subst hZ
   refine ⟨[(pid,some (.cells (byt p))),(wid,some (.cells [.arr pid 0 p.length 1 p.length false,.int .i64 n]))],[],pid,by cases own<;>simp [ssB,ssU,Go.Sx.LV.undef,Go.undef,Go.Sx.callO,Go.Sx.splice,Go.Sx.finish,Go.Sx.push,Go.Sx.setObj,Go.Sx.setU,Go.Sx.setAll,appO,Go.Sx.leI_eq,ltF,hp,ax,ak,aD,aH,aK,aO,aR,aB,aF],.f2 _ _ hp (.inr ⟨_,rfl⟩),kk,⟨by simp;omega,g.len,g.small,.inr ⟨hn,by simp;exact hp,p2,by simp [Go.Sx.look,findU,hlt,hpw],by simp [Go.Sx.look,findU,hp]⟩⟩,.inl ⟨hp,rfl⟩,fun id h1 h2 h3=>by simp [Go.Sx.look,findU,h1,h2,h3]⟩
  | u3 X Z=>
   subst hp0
   obtain rfl:=hup X (by simp [findU])
   have hZ:Z=some (.cells (byt p)):=by simpa [findU,p2] using l2'
   subst hZ
   refine ⟨[(wid,some (.cells [.arr pid 0 p.length 1 p.length false,.int .i64 n])),(pid,some (.cells (byt p)))],[],pid,by cases own<;>simp [ssB,ssU,Go.Sx.LV.undef,Go.undef,Go.Sx.callO,Go.Sx.splice,Go.Sx.finish,Go.Sx.push,Go.Sx.setObj,Go.Sx.setU,Go.Sx.setAll,appO,Go.Sx.leI_eq,ltF,hp,ax,ak,aD,aH,aK,aO,aR,aB,aF],.f3 _ _ hp (.inr ⟨_,rfl⟩),kk,⟨by simp;omega,g.len,g.small,.inr ⟨hn,by simp;exact hp,p2,by simp [Go.Sx.look,findU,hlt,hpw],by simp [Go.Sx.look,findU,hp,p2]⟩⟩,.inl ⟨hp,rfl⟩,fun id h1 h2 h3=>by simp [Go.Sx.look,findU,h1,h2,h3]⟩
 ·have hge:nx≤pid:=by omega
  have hnn : ¬nx<nx:=by omega
  have hxw : ¬nx=wid:=by omega
  have hwx : ¬wid=nx:=by omega
  cases uf with
  | u0=>simp [findU] at hw
  | u4 Z=>simp [findU,hne'] at hw
  | u1 X=>
   obtain rfl:=hup X (by simp [findU])
   refine ⟨[(wid,some (.cells [.arr nx 0 p.length 1 p.length false,.int .i64 n]))],[some (.cells (byt p))],nx,by cases own<;>simp [ssB,ssU,Go.Sx.LV.undef,Go.undef,Go.Sx.callO,Go.Sx.splice,Go.Sx.finish,Go.Sx.push,Go.Sx.setObj,Go.Sx.setU,Go.Sx.setAll,appO,Go.Sx.leI_eq,ltF,hp,l2,hlt,ax,ak,aD,aH,aK,aO,aR,aB,aF],.f1 _,Ak hlt,⟨by simp;omega,g.len,g.small,.inr ⟨hn,by simp,hxw,by simp [Go.Sx.look,findU,hlt],by simp [Go.Sx.look]⟩⟩,.inr ⟨hge,rfl⟩,fun id h1 h2 h3=>by simp [Go.Sx.look,findU,h1,h2]⟩
  | u2 X Z=>
   obtain rfl:=hup X (by simp [findU,hne'])
   have h0:pid0<nx:=kk pid0 Z (by simp [findU])
   have h0x : ¬nx=pid0:=by omega
   refine ⟨[(pid0,Z),(wid,some (.cells [.arr nx 0 p.length 1 p.length false,.int .i64 n]))],[some (.cells (byt p))],nx,?_,.f2 _ _ h0 (zz Z (by simp [findU])),xZ h0 hlt,⟨by simp;omega,g.len,g.small,.inr ⟨hn,by simp,hxw,by simp [Go.Sx.look,findU,hlt,hne'],by simp [Go.Sx.look]⟩⟩,.inr ⟨hge,rfl⟩,fun id h1 h2 h3=>by simp [Go.Sx.look,findU,h1,h2,h3]⟩
   rcases zz Z (by simp [findU]) with rfl|⟨l,rfl⟩<;>cases own<;>simp [ssB,ssU,Go.Sx.LV.undef,Go.undef,Go.Sx.callO,Go.Sx.splice,Go.Sx.finish,Go.Sx.push,Go.Sx.setObj,Go.Sx.setU,Go.Sx.setAll,appO,Go.Sx.leI_eq,ltF,hp,l2,hlt,h0,ax,ak,aD,aH,aK,aO,aR,aB,aF]
  | u3 X Z=>
   obtain rfl:=hup X (by simp [findU])
   have h0:pid0<nx:=kk pid0 Z (by simp [findU,hne])
   have h0x : ¬nx=pid0:=by omega
   refine ⟨[(wid,some (.cells [.arr nx 0 p.length 1 p.length false,.int .i64 n])),(pid0,Z)],[some (.cells (byt p))],nx,?_,.f3 _ _ h0 (zz Z (by simp [findU,hne])),xZ hlt h0,⟨by simp;omega,g.len,g.small,.inr ⟨hn,by simp,hxw,by simp [Go.Sx.look,findU,hlt],by simp [Go.Sx.look]⟩⟩,.inr ⟨hge,rfl⟩,fun id h1 h2 h3=>by simp [Go.Sx.look,findU,h1,h2,h3]⟩
   rcases zz Z (by simp [findU,hne]) with rfl|⟨l,rfl⟩<;>cases own<;>simp [ssB,ssU,Go.Sx.LV.undef,Go.undef,Go.Sx.callO,Go.Sx.splice,Go.Sx.finish,Go.Sx.push,Go.Sx.setObj,Go.Sx.setU,Go.Sx.setAll,appO,Go.Sx.leI_eq,ltF,hp,l2,hlt,h0,ax,ak,aD,aH,aK,aO,aR,aB,aF]
end put
end Go.Proofs.YtoeblkipfdnnlaaGreatDoor
end

section
namespace Go.Proofs.YtoeblkipfdnnlaaGreatDoor
open Go Go.Sx
theorem uz0 (nx wid pid0:Nat):UZ nx wid pid0 ⟨[],[]⟩:=⟨.u0,fun o h=>by simp [findU] at h,fun id o h=>by simp [findU] at h⟩
theorem Wr.toH {H:Heap} {nx wid pid:Nat} {p:List UInt8} {n:Nat} (g:Wr H nx wid pid p n) : ∃ pid0,WrH H nx ⟨[],[]⟩ wid pid0 pid0 p n∧((0<n∧pid0=pid)∨(n=0∧pid0=nx+wid+1)):=by
 have hlt:=g.lt
 rcases g.at' with ⟨h0,h1⟩|⟨h0,h1,h2,h3,h4⟩
 ·refine ⟨nx+wid+1,⟨hlt,by omega,g.len,g.small,uz0 nx wid _,.inl ⟨h0,by simp [Go.Sx.look,findU,hlt,h1]⟩⟩,.inr ⟨h0,rfl⟩⟩
 ·exact ⟨pid,⟨hlt,h2,g.len,g.small,uz0 nx wid _,.inr ⟨h0,by simp;omega,h2,.inl rfl,by simp [Go.Sx.look,findU,hlt,h3],by simp [Go.Sx.look,findU,h1,h4]⟩⟩,.inl ⟨h0,rfl⟩⟩
theorem qK {H:Heap} {nx wid pid pid0 pid1:Nat} {h:Hp} {p':List UInt8} {n n':Nat} (own:Bool) (h0:(0<n∧pid0=pid)∨(n=0∧pid0=nx+wid+1)) (g:WrH H nx h wid pid0 pid1 p' n') (hn:0<n') (hw:(findU h.upd wid).isSome=true) (hp:pid1=pid0∨nx≤pid1):
  ∃ u m pid',finish own H nx (.tuple []) h=some (.tuple [],u,m)∧Post H nx wid pid n u m pid' p' n':=by
 obtain ⟨u,m,pid',e1,e0,e2,e3,e4,e5⟩:=yG own g hn hw
 have hp0:pid0=if n=0 then nx+wid+1 else pid:=by
  rcases h0 with ⟨c,d⟩|⟨c,d⟩
  ·rw [if_neg (by omega),d]
  ·rw [if_pos c,d]
 refine ⟨u,m,pid',e1,⟨hp0▸e0,e2,e3,?_,?_⟩⟩
 ·rcases e4 with ⟨a,b⟩|⟨a,b⟩
  ·rcases hp with rfl|hp
   ·rcases h0 with ⟨c,d⟩|⟨c,d⟩
    ·exact .inl ⟨c,by rw [b,d]⟩
    ·omega
   ·omega
  ·exact .inr (by omega)
 ·intro id h1 h2 h3
  refine e5 id h1 h2 ?_
  rcases h0 with ⟨c,d⟩|⟨c,d⟩
  ·rcases h3 with h3|h3
   ·omega
   ·rw [d];exact h3
  ·omega
theorem zk {H:Heap} {nx wid pid:Nat} {p:List UInt8} {n:Nat} (g:Wr H nx wid pid p n) (x k:Nat) (hk0:0<k) (hk:k≤64) (hn:n+k<2^30):
  ∃ u m pid',Ω 148 [.ref wid 0,.int .u64 x,.int .i64 k] H nx=some (.tuple [],u,m)∧Post H nx wid pid n u m pid' (addBits p n (bitsOf x k)) (n+k):=by
 obtain ⟨pid0,g0,h0⟩:=g.toH
 obtain ⟨h',pid1,e1,g1,f1,f2⟩:=uV (k+1) x k (k+1) pid0 n ⟨[],[]⟩ p hk (by omega) hn g0
 have hp1:pid1=pid0∨nx≤pid1:=by
  rcases g1.at' with ⟨a,_⟩|⟨_,_,_,a,_⟩
  ·omega
  ·exact a
 obtain ⟨u,m,pid',e2,e3⟩:=qK true h0 g1 (by omega) (f1 hk0) hp1
 refine ⟨u,m,pid',?_,e3⟩
 refine av (ir:=ir148) (by kernel_rfl) (k+1) ?_
 have hw:=rG k hk
 have hwi:IntKind.i64.wrap ((k:Int)-1)=(k:Int)-1:=wrap_i64 _ (by omega) (by omega)
 simp [ir148,ssB,ssU,Go.Sx.LV.undef,Go.undef,aq,ao,ae,Go.Sx.splice,appO,Go.Sx.leI_eq,ltF,hw,hwi,e1,e2]
structure At (H:Heap) (nx:Nat) (h:Hp) (wid P pid:Nat) (p:List UInt8) (n:Nat):Prop where
 wr:Wr (Go.Sx.look H nx h) (nx+h.new.length) wid pid p n
 lt:wid<nx
 ne:P≠wid
 pp:n=0∨pid=P∨nx≤pid
 uz:UZ nx wid P h
theorem UZ.all {nx wid P pid B:Nat} {h:Hp} {u:Upd} (hlt:wid<nx) (hne:P≠wid) (g:UZ nx wid P h) (hp:pid=P∨nx≤pid) (hu:UForm wid pid B u):UZ nx wid P (setAll nx h u)∧(findU (setAll nx h u).upd wid).isSome=true:=by
 cases hu with
 | f1 X=>exact ⟨g.objW hlt hne X,by simp [setAll,bN _ _ _ _ hlt,aZ]⟩
 | f2 X Z h1 hz=>
  refine ⟨UZ.objP hne hp (g.objW hlt hne X) Z hz,?_⟩
  simp only [setAll]
  by_cases hp2:pid<nx
  ·rw [bN _ _ _ _ hp2,aZ,bN _ _ _ _ hlt]
   split
   ·rfl
   ·simp [aZ]
  ·rw [cB _ _ _ _ hp2,bN _ _ _ _ hlt,aZ];simp
 | f3 X Z h1 hz=>
  refine ⟨UZ.objW hlt hne (UZ.objP hne hp g Z hz) X,?_⟩
  simp [setAll,bN _ _ _ _ hlt,aZ]
theorem At.put {H:Heap} {nx wid P pid n:Nat} {h:Hp} {p:List UInt8} (g:At H nx h wid P pid p n) (x k:Nat) (hk0:0<k) (hk:k≤64) (hn:n+k<2^30):
  ∃ u m pid',Ω 148 [.ref wid 0,.int .u64 x,.int .i64 k] (Go.Sx.look H nx h) (nx+h.new.length)=some (.tuple [],u,m)∧At H nx (aft nx h u m) wid P pid' (addBits p n (bitsOf x k)) (n+k) ∧
   (∀ id,id<nx+h.new.length→id≠wid→(n=0∨id≠pid)→Go.Sx.look H nx (aft nx h u m) id=Go.Sx.look H nx h id)∧h.new.length≤(aft nx h u m).new.length∧(findU (aft nx h u m).upd wid).isSome=true∧(pid'=pid∨nx+h.new.length≤pid'):=by
 obtain ⟨u,m,pid',e1,e2⟩:=zk g.wr x k hk0 hk hn
 have hlook : ∀ id,Go.Sx.look H nx (aft nx h u m) id=Go.Sx.look (Go.Sx.look H nx h) (nx+h.new.length) ⟨u,m⟩ id:=fun id=>dJ e2.keys id
 have hlen:(aft nx h u m).new.length=h.new.length+m.length:=by simp [aft,bj]
 have hfun:Go.Sx.look H nx (aft nx h u m)=Go.Sx.look (Go.Sx.look H nx h) (nx+h.new.length) ⟨u,m⟩:=funext hlook
 have hupd:(aft nx h u m).upd=(setAll nx h u).upd:=rfl
 have hal:=UZ.all g.lt g.ne g.uz (pid:=if n=0 then nx+h.new.length+wid+1 else pid) (by
  by_cases h0:n=0
  ·rw [if_pos h0];exact .inr (by omega)
  ·rw [if_neg h0];exact g.pp.resolve_left h0) e2.form
 have hpp:pid'=pid∨nx+h.new.length≤pid':=by
  rcases e2.pp with ⟨a,b⟩|b
  ·exact .inl b
  ·exact .inr b
 refine ⟨u,m,pid',e1,⟨?_,g.lt,g.ne,?_,⟨hal.1.uf,hal.1.zz,hal.1.kk⟩⟩,fun id h1 h2 h3=>by rw [hlook];exact e2.frame id h1 h2 h3,by omega,hal.2,hpp⟩
 ·rw [hfun,hlen,←Nat.add_assoc]
  exact e2.wr
 ·rcases e2.pp with ⟨a,b⟩|b
  ·rw [b]
   rcases g.pp with h|h
   ·omega
   ·exact .inr h
  ·exact .inr (.inr (by omega))
end Go.Proofs.YtoeblkipfdnnlaaGreatDoor
end

section
namespace Go.Proofs.YtoeblkipfdnnlaaGreatDoor
open Go Go.Sx
def numBits (v b:Nat):Nat→List Bool
 | 0=>false::bitsOf v b
 | f+1=>if 0<v >>> b then true::numBits (v-2^b) (b+1) f else false::bitsOf v b
theorem At.init {H:Heap} {nx wid pid:Nat} {p:List UInt8} {n:Nat} (g:Wr H nx wid pid p n):At H nx ⟨[],[]⟩ wid (if n=0 then nx+wid+1 else pid) pid p n:=by
 have hlt:=g.lt
 have hl : ∀ id,id<nx→Go.Sx.look H nx ⟨[],[]⟩ id=H id:=fun id h=>by simp [Go.Sx.look,findU,h]
 refine ⟨⟨by simp;omega,g.len,g.small,?_⟩,hlt,?_,?_,uz0 nx wid _⟩
 ·rcases g.at' with ⟨h0,h1⟩|⟨h0,h1,h2,h3,h4⟩
  ·exact .inl ⟨h0,by rw [hl _ hlt];exact h1⟩
  ·exact .inr ⟨h0,by simp;exact h1,h2,by rw [hl _ hlt];exact h3,by rw [hl _ h1];exact h4⟩
 ·split
  ·omega
  ·rcases g.at' with ⟨h0,h1⟩|⟨h0,h1,h2,h3,h4⟩
   ·omega
   ·exact h2
 ·by_cases h0:n=0
  ·exact .inl h0
  ·rw [if_neg h0];exact .inr (.inl rfl)
theorem At.post {H:Heap} {nx wid pid0 pid n0 n:Nat} {h:Hp} {p:List UInt8} (own:Bool) (g:At H nx h wid (if n0=0 then nx+wid+1 else pid0) pid p n) (hn:0<n) (hw:(findU h.upd wid).isSome=true):
  ∃ u m pid',finish own H nx (.tuple []) h=some (.tuple [],u,m)∧Post H nx wid pid0 n0 u m pid' p n:=by
 have hp:pid=(if n0=0 then nx+wid+1 else pid0)∨nx≤pid:=g.pp.resolve_left (by omega)
 have hW:WrH H nx h wid (if n0=0 then nx+wid+1 else pid0) pid p n:=by
  refine ⟨g.lt,g.ne,g.wr.len,g.wr.small,g.uz,?_⟩
  rcases g.wr.at' with ⟨h0,h1⟩|⟨h0,h1,h2,h3,h4⟩
  ·omega
  ·exact .inr ⟨h0,h1,h2,hp,h3,h4⟩
 refine qK own ?_ hW hn hw hp
 by_cases h0:n0=0
 ·exact .inr ⟨h0,by rw [if_pos h0]⟩
 ·exact .inl ⟨by omega,by rw [if_neg h0]⟩
section num
variable {H:Heap} {nx wid P pid n:Nat} {h:Hp} {p:List UInt8}
theorem sC (N:Nat) (g:At H nx h wid P pid p n) (v b:Nat) (hb:b<64) (hv:v<2^64) (hvb:0<v >>> b) (hn:n+1<2^30) : ∃ h' pid',
  runCS ⟨Ω,gG,H,nx⟩ N ir149_0 ⟨[(0,.ref wid 0),(1,.int .u64 v),(4,.int .i64 b)],h⟩=some (.normal,⟨[(0,.ref wid 0),(1,.int .u64 (v-2^b:Nat)),(4,.int .i64 (b+1:Nat))],h'⟩) ∧
  At H nx h' wid P pid' (addBits p n [true]) (n+1):=by
 obtain ⟨u,m,pid',e1,e2,_⟩:=g.put 1 1 (by decide) (by decide) hn
 have c1:((1:Nat):Int)=1:=rfl
 rw [c1] at e1
 refine ⟨_,pid',?_,e2⟩
 have hb64 : ¬(64:Int)≤b:=by omega
 have hsh:=iV v b (by omega)
 have hs0 : ¬((v >>> b:Nat):Int)≤0:=by omega
 have hshl:=vB 1 b (by omega)
 have h2b:(2:Nat)^b≤v:=by
  rw [Nat.shiftRight_eq_div_pow] at hvb
  have h2:0<(2:Nat)^b:=Nat.pow_pos (by decide)
  have:=(Nat.div_pos_iff).1 hvb
  omega
 have h2b64:(2:Nat)^b<2^64:=by omega
 have hpw:(1*2^b%2^64:Nat)=2^b:=by rw [Nat.one_mul,Nat.mod_eq_of_lt h2b64]
 rw [hpw,c1] at hshl
 have hw:IntKind.u64.wrap ((v:Int)-((2^b:Nat):Int))=((v-2^b:Nat):Int):=by rw [aQ _ (by omega) (by omega)];omega
 have hw2:IntKind.i64.wrap ((b:Int)+1)=(b:Int)+1:=wrap_i64 _ (by omega) (by omega)
 generalize v >>> b=s at*
 generalize v-2^b=w at*
 generalize 2^b=t at*
 have hs00 : ¬s=0:=by omega
 simp [ir149_0,ssB,ssU,Go.Sx.LV.undef,Go.undef,aq,ao,ae,Go.Sx.splice,appO,Go.Sx.leI_eq,ltF,hb64,hsh,hs0,hs00,e1,hshl,hw,hw2]
theorem nD (N:Nat) (v b:Nat) (hb:b≤64) (hvb:b=64∨v >>> b=0) (x:LV):
  ∃ c,runCS ⟨Ω,gG,H,nx⟩ N ir149_0 ⟨[(0,x),(1,.int .u64 v),(4,.int .i64 b)],h⟩=some (.exit 0,⟨[(0,x),(1,.int .u64 v),(4,.int .i64 b),(12,c)],h⟩):=by
 refine ⟨.bool false,?_⟩
 by_cases h64:b=64
 ·subst h64
  have c1:((64:Nat):Int)=64:=rfl
  simp [ir149_0,ssB,ssU,Go.Sx.LV.undef,Go.undef,aq,ao,ae,Go.Sx.splice,appO,Go.Sx.leI_eq,ltF,c1]
 ·have hb64 : ¬(64:Int)≤b:=by omega
  have hsh:=iV v b hb
  rw [hvb.resolve_left h64] at hsh
  have c0:((0:Nat):Int)=0:=rfl
  rw [c0] at hsh
  simp [ir149_0,ssB,ssU,Go.Sx.LV.undef,Go.undef,aq,ao,ae,Go.Sx.splice,appO,Go.Sx.leI_eq,ltF,hb64,hsh]
end num
theorem iG (f:Nat) : ∀ (v b:Nat),(numBits v b f).length≤1+b+f+f:=by
 induction f with
 | zero=>intro v b;simp [numBits,aj];omega
 | succ f ih=>
  intro v b
  rw [numBits]
  split
  ·have:=ih (v-2^b) (b+1);simp;omega
  ·simp [aj];omega
theorem sA {H:Heap} {nx wid P:Nat} (N:Nat) : ∀ (f q v b pid n:Nat) (h:Hp) (p:List UInt8),b+f=64→f<q→v<2^64→n+f<2^30→At H nx h wid P pid p n →
  ∃ h' pid' v' b' c k,iter (runCS ⟨Ω,gG,H,nx⟩ N ir149_0) q ⟨[(0,.ref wid 0),(1,.int .u64 v),(4,.int .i64 b)],h⟩=some (.exit 0,⟨[(0,.ref wid 0),(1,.int .u64 (v':Nat)),(4,.int .i64 (b':Nat)),(12,c)],h'⟩) ∧
   At H nx h' wid P pid' (addBits p n (List.replicate k true)) (n+k)∧numBits v b f=List.replicate k true++false::bitsOf v' b'∧b'≤64∧0<b'+(if b=0 then 1 else 0)∧v'<2^64∧k≤f:=by
 intro f
 induction f with
 | zero=>
  intro q v b pid n h p hb hq hv hn g
  obtain ⟨q,rfl⟩ : ∃ r,q=r+1:=⟨q-1,by omega⟩
  obtain ⟨c,hc⟩:=nD (H:=H) (nx:=nx) (h:=h) N v b (by omega) (.inl (by omega)) (.ref wid 0)
  exact ⟨h,pid,v,b,c,0,bc hc (by simp),g,rfl,by omega,by split<;>omega,hv,Nat.le_refl _⟩
 | succ f ih=>
  intro q v b pid n h p hb hq hv hn g
  obtain ⟨q,rfl⟩ : ∃ r,q=r+1:=⟨q-1,by omega⟩
  by_cases hs:0<v >>> b
  ·obtain ⟨h1,pid1,e1,g1⟩:=sC N g v b (by omega) hv hs (by omega)
   rw [bg e1]
   obtain ⟨h',pid',v',b',c,k,e2,g2,e3,e4,e5,e6,e7⟩:=ih q (v-2^b) (b+1) pid1 (n+1) h1 _ (by omega) (by omega) (Nat.lt_of_le_of_lt (Nat.sub_le _ _) hv) (by omega) g1
   refine ⟨h',pid',v',b',c,k+1,e2,?_,?_,e4,?_,e6,by omega⟩
   ·have:addBits p n (List.replicate (k+1) true)=addBits (addBits p n [true]) (n+1) (List.replicate k true):=rfl
    rw [this,show n+(k+1)=n+1+k by omega]
    exact g2
   ·rw [numBits,if_pos hs,e3];rfl
   ·rw [if_neg (by omega)] at e5;omega
  ·obtain ⟨c,hc⟩:=nD (H:=H) (nx:=nx) (h:=h) N v b (by omega) (.inr (Nat.eq_zero_of_not_pos hs)) (.ref wid 0)
   exact ⟨h,pid,v,b,c,0,bc hc (by simp),g,by rw [numBits,if_neg hs];rfl,by omega,by split<;>omega,hv,Nat.zero_le _⟩
theorem ye {H:Heap} {nx wid pid:Nat} {p:List UInt8} {n:Nat} (g:Wr H nx wid pid p n) (v:Nat) (hv:v<2^64) (hn:n+200<2^30):
  ∃ u m pid',Ω 149 [.ref wid 0,.int .u64 v] H nx=some (.tuple [],u,m)∧Post H nx wid pid n u m pid' (addBits p n (numBits v 2 62)) (n+(numBits v 2 62).length):=by
 obtain ⟨h1,pid1,v',b',c,k,e1,g1,e3,e4,e5,e6,e7⟩:=sA (N:=63) 62 63 v 2 pid n ⟨[],[]⟩ p rfl (by decide) hv (by omega) (At.init g)
 obtain ⟨u2,m2,pid2,f1,g2,_⟩:=g1.put 0 1 (by decide) (by decide) (by omega)
 have hb':0<b':=by simpa using e5
 obtain ⟨u3,m3,pid3,f2,g3,_,_,w3,_⟩:=g2.put v' b' hb' e4 (by omega)
 have hlist:numBits v 2 62=List.replicate k true++bitsOf 0 1++bitsOf v' b':=by rw [e3];simp [bitsOf]
 have hbits:addBits (addBits (addBits p n (List.replicate k true)) (n+k) (bitsOf 0 1)) (n+k+1) (bitsOf v' b')=addBits p n (numBits v 2 62):=by
  rw [hlist,bZ,bZ]
  simp [aj,Nat.add_assoc]
 have hlen:n+k+1+b'=n+(numBits v 2 62).length:=by rw [hlist];simp [aj];omega
 rw [hbits,hlen] at g3
 obtain ⟨u,m,pid',f3,f4⟩:=g3.post true (pid0:=pid) (n0:=n) (by omega) w3
 refine ⟨u,m,pid',?_,f4⟩
 have c0:((0:Nat):Int)=0:=rfl
 have c1:((1:Nat):Int)=1:=rfl
 have c2:((2:Nat):Int)=2:=rfl
 rw [c0,c1] at f1
 rw [c2] at e1
 refine av (ir:=ir149) (by kernel_rfl) 63 ?_
 simp [ir149,ssB,ssU,Go.Sx.LV.undef,Go.undef,aq,ao,ae,Go.Sx.splice,appO,Go.Sx.leI_eq,ltF,e1,f1,f2,f3]
end Go.Proofs.YtoeblkipfdnnlaaGreatDoor
end

section
namespace Go.Proofs.YtoeblkipfdnnlaaGreatDoor
open Go Go.Sx
theorem At.call {H:Heap} {nx wid P pid n:Nat} {h:Hp} {p:List UInt8} (g:At H nx h wid P pid p n) {u:Upd} {m:List (Ob)} {pid' n':Nat} {p':List UInt8} (e2:Post (Go.Sx.look H nx h) (nx+h.new.length) wid pid n u m pid' p' n'):
  At H nx (aft nx h u m) wid P pid' p' n'∧(∀ id,id<nx+h.new.length→id≠wid→(n=0∨id≠pid)→Go.Sx.look H nx (aft nx h u m) id=Go.Sx.look H nx h id)∧h.new.length≤(aft nx h u m).new.length∧(findU (aft nx h u m).upd wid).isSome=true∧(pid'=pid∨nx+h.new.length≤pid'):=by
 have hlook : ∀ id,Go.Sx.look H nx (aft nx h u m) id=Go.Sx.look (Go.Sx.look H nx h) (nx+h.new.length) ⟨u,m⟩ id:=fun id=>dJ e2.keys id
 have hlen:(aft nx h u m).new.length=h.new.length+m.length:=by simp [aft,bj]
 have hfun:Go.Sx.look H nx (aft nx h u m)=Go.Sx.look (Go.Sx.look H nx h) (nx+h.new.length) ⟨u,m⟩:=funext hlook
 have hal:=UZ.all g.lt g.ne g.uz (pid:=if n=0 then nx+h.new.length+wid+1 else pid) (by
  by_cases h0:n=0
  ·rw [if_pos h0];exact .inr (by omega)
  ·rw [if_neg h0];exact g.pp.resolve_left h0) e2.form
 have hpp:pid'=pid∨nx+h.new.length≤pid':=by
  rcases e2.pp with ⟨a,b⟩|b
  ·exact .inl b
  ·exact .inr b
 refine ⟨⟨?_,g.lt,g.ne,?_,⟨hal.1.uf,hal.1.zz,hal.1.kk⟩⟩,fun id h1 h2 h3=>by rw [hlook];exact e2.frame id h1 h2 h3,by omega,hal.2,hpp⟩
 ·rw [hfun,hlen,←Nat.add_assoc]
  exact e2.wr
 ·rcases e2.pp with ⟨a,b⟩|b
  ·rw [b]
   rcases g.pp with h|h
   ·omega
   ·exact .inr h
  ·exact .inr (.inr (by omega))
structure Wk (H:Heap) (nx:Nat) (h:Hp) (wid P pid:Nat) (p:List UInt8) (n:Nat) (L:List (Ob)):Prop where
 a:At H nx h wid P pid p n
 k : ∀ (j:Nat) o,L[j]?=some (some o)→Go.Sx.look H nx h (nx+j)=some o
 kl:L.length≤h.new.length
 kp:n=0∨pid<nx∨nx+L.length≤pid
theorem Wk.init {H:Heap} {nx wid pid:Nat} {p:List UInt8} {n:Nat} (g:Wr H nx wid pid p n) (L:List (Ob)):Wk H nx ⟨[],L⟩ wid (if n=0 then nx+wid+1 else pid) pid p n L:=by
 have hlt:=g.lt
 have hl : ∀ id,id<nx→Go.Sx.look H nx ⟨[],L⟩ id=H id:=fun id h=>by simp [Go.Sx.look,findU,h]
 refine ⟨⟨⟨by simp;omega,g.len,g.small,?_⟩,hlt,?_,?_,⟨.u0,fun o h=>by simp [findU] at h,fun id o h=>by simp [findU] at h⟩⟩,?_,Nat.le_refl _,?_⟩
 ·rcases g.at' with ⟨h0,h1⟩|⟨h0,h1,h2,h3,h4⟩
  ·exact .inl ⟨h0,by rw [hl _ hlt];exact h1⟩
  ·exact .inr ⟨h0,by simp;omega,h2,by rw [hl _ hlt];exact h3,by rw [hl _ h1];exact h4⟩
 ·split
  ·omega
  ·rcases g.at' with ⟨h0,h1⟩|⟨h0,h1,h2,h3,h4⟩
   ·omega
   ·exact h2
 ·by_cases h0:n=0
  ·exact .inl h0
  ·rw [if_neg h0];exact .inr (.inl rfl)
 ·intro j o hj
  simp [Go.Sx.look,ltF,hj]
 ·rcases g.at' with ⟨h0,h1⟩|⟨h0,h1,h2,h3,h4⟩
  ·exact .inl h0
  ·exact .inr (.inl h1)
theorem Wk.call {H:Heap} {nx wid P pid n:Nat} {h:Hp} {p:List UInt8} {L:List (Ob)} (w:Wk H nx h wid P pid p n L) {u:Upd} {m:List (Ob)} {pid' n':Nat} {p':List UInt8} (e2:Post (Go.Sx.look H nx h) (nx+h.new.length) wid pid n u m pid' p' n'):
  Wk H nx (aft nx h u m) wid P pid' p' n' L∧(findU (aft nx h u m).upd wid).isSome=true:=by
 obtain ⟨a',hf,hlen,hw,_⟩:=w.a.call e2
 have hlt:=w.a.lt
 have hkl:=w.kl
 refine ⟨⟨a',fun j o hj => ?_,Nat.le_trans w.kl hlen,?_⟩,hw⟩
 ·have hjl:=(List.getElem?_eq_some_iff.1 hj).1
  rw [hf (nx+j) (by omega) (by omega) (by rcases w.kp with h|h|h;exact .inl h;exact .inr (by omega);exact .inr (by omega))]
  exact w.k j o hj
 ·rcases e2.pp with ⟨h0,rfl⟩|h0
  ·exact .inr (w.kp.resolve_left (by omega))
  ·exact .inr (.inr (by omega))
theorem Wk.put {H:Heap} {nx wid P pid n:Nat} {h:Hp} {p:List UInt8} {L:List (Ob)} (w:Wk H nx h wid P pid p n L) (x k:Nat) (hk0:0<k) (hk:k≤64) (hn:n+k<2^30):
  ∃ u m pid',Ω 148 [.ref wid 0,.int .u64 x,.int .i64 k] (Go.Sx.look H nx h) (nx+h.new.length)=some (.tuple [],u,m)∧Wk H nx (aft nx h u m) wid P pid' (addBits p n (bitsOf x k)) (n+k) L∧(findU (aft nx h u m).upd wid).isSome=true:=by
 obtain ⟨u,m,pid',e1,e2⟩:=zk w.a.wr x k hk0 hk hn
 exact ⟨u,m,pid',e1,w.call e2⟩
theorem Wk.num {H:Heap} {nx wid P pid n:Nat} {h:Hp} {p:List UInt8} {L:List (Ob)} (w:Wk H nx h wid P pid p n L) (v:Nat) (hv:v<2^64) (hn:n+200<2^30):
  ∃ u m pid',Ω 149 [.ref wid 0,.int .u64 v] (Go.Sx.look H nx h) (nx+h.new.length)=some (.tuple [],u,m)∧Wk H nx (aft nx h u m) wid P pid' (addBits p n (numBits v 2 62)) (n+(numBits v 2 62).length) L∧(findU (aft nx h u m).upd wid).isSome=true:=by
 obtain ⟨u,m,pid',e1,e2⟩:=ye w.a.wr v hv hn
 exact ⟨u,m,pid',e1,w.call e2⟩
def seqL:IRC→IRC
 | .seq a _=>a
 | x=>x
def seqR:IRC→IRC
 | .seq _ b=>b
 | x=>x
def idBits:Id→List Bool
 | .zero=>bitsOf 0 2++bitsOf 0 1
 | .one=>bitsOf 0 2++bitsOf 1 1
 | .node l r=>if l = .zero then bitsOf 1 2++idBits r else if r = .zero then bitsOf 2 2++idBits l else bitsOf 3 2++idBits l++idBits r
section
variable {H:Heap} {nx wid pid n:Nat} {p:List UInt8}
end
end Go.Proofs.YtoeblkipfdnnlaaGreatDoor
end

section
namespace Go.Proofs.YtoeblkipfdnnlaaGreatDoor
open Go Go.Sx
structure Wq (H:Heap) (nx:Nat) (h:Hp) (wid P pid:Nat) (p:List UInt8) (n:Nat) (K:List (Nat × Go.Sx.Obj)):Prop where
 a:At H nx h wid P pid p n
 k : ∀ x∈K,Go.Sx.look H nx h x.1=some x.2∧nx≤x.1∧x.1<nx+h.new.length∧(n=0∨x.1≠pid)
section
variable {H:Heap} {nx:Nat} {h:Hp} {wid P pid:Nat} {p:List UInt8} {n:Nat} {K:List (Nat × Go.Sx.Obj)}
theorem Wk.toQ {L:List (Ob)} (w:Wk H nx h wid P pid p n L) (hK : ∀ x∈K,∃ j,x.1=nx+j∧L[j]?=some (some x.2)):Wq H nx h wid P pid p n K:=by
 refine ⟨w.a,fun x hx => ?_⟩
 obtain ⟨j,h1,h2⟩:=hK x hx
 have hj:=(List.getElem?_eq_some_iff.1 h2).1
 have hl:=w.kl
 rw [h1]
 refine ⟨w.k j _ h2,by omega,by omega,?_⟩
 rcases w.kp with h|h|h
 ·exact .inl h
 ·exact .inr (by omega)
 ·exact .inr (by omega)
theorem Wq.call (w:Wq H nx h wid P pid p n K) {u:Upd} {m:List (Ob)} {pid' n':Nat} {p':List UInt8} (e2:Post (Go.Sx.look H nx h) (nx+h.new.length) wid pid n u m pid' p' n'):
  Wq H nx (aft nx h u m) wid P pid' p' n' K∧(findU (aft nx h u m).upd wid).isSome=true:=by
 obtain ⟨a',hf,hlen,hw,_⟩:=w.a.call e2
 have hlt:=w.a.lt
 refine ⟨⟨a',fun x hx => ?_⟩,hw⟩
 obtain ⟨k1,k2,k3,k4⟩:=w.k x hx
 refine ⟨by rw [hf x.1 k3 (by omega) k4];exact k1,k2,by omega,?_⟩
 rcases e2.pp with ⟨h0,rfl⟩|h0
 ·exact .inr (k4.resolve_left (by omega))
 ·exact .inr (by omega)
theorem Wq.put (w:Wq H nx h wid P pid p n K) (x k:Nat) (hk0:0<k) (hk:k≤64) (hn:n+k<2^30):
  ∃ u m pid',Ω 148 [.ref wid 0,.int .u64 x,.int .i64 k] (Go.Sx.look H nx h) (nx+h.new.length)=some (.tuple [],u,m)∧Wq H nx (aft nx h u m) wid P pid' (addBits p n (bitsOf x k)) (n+k) K∧(findU (aft nx h u m).upd wid).isSome=true:=by
 obtain ⟨u,m,pid',e1,e2⟩:=zk w.a.wr x k hk0 hk hn
 exact ⟨u,m,pid',e1,w.call e2⟩
theorem Wq.num (w:Wq H nx h wid P pid p n K) (v:Nat) (hv:v<2^64) (hn:n+200<2^30):
  ∃ u m pid',Ω 149 [.ref wid 0,.int .u64 v] (Go.Sx.look H nx h) (nx+h.new.length)=some (.tuple [],u,m)∧Wq H nx (aft nx h u m) wid P pid' (addBits p n (numBits v 2 62)) (n+(numBits v 2 62).length) K∧(findU (aft nx h u m).upd wid).isSome=true:=by
 obtain ⟨u,m,pid',e1,e2⟩:=ye w.a.wr v hv hn
 exact ⟨u,m,pid',e1,w.call e2⟩
theorem Wq.push (w:Wq H nx h wid P pid p n K) (o:Go.Sx.Obj):Wq H nx (Go.Sx.push h o) wid P pid p n ((nx+h.new.length,o)::K):=by
 have hlt:=w.a.lt
 have lk : ∀ id,id<nx+h.new.length→Go.Sx.look H nx (Go.Sx.push h o) id=Go.Sx.look H nx h id:=fun id hi=>by rw [am];exact if_neg (by omega)
 have hpl:(Go.Sx.push h o).new.length=h.new.length+1:=aG _ _
 refine ⟨⟨⟨by rw [hpl];omega,w.a.wr.len,w.a.wr.small,?_⟩,w.a.lt,w.a.ne,w.a.pp,w.a.uz.push o⟩,fun x hx => ?_⟩
 ·rcases w.a.wr.at' with ⟨h0,h1⟩|⟨h0,h1,h2,h3,h4⟩
  ·exact .inl ⟨h0,by rw [lk _ (by omega)];exact h1⟩
  ·exact .inr ⟨h0,by rw [hpl];omega,h2,by rw [lk _ (by omega)];exact h3,by rw [lk _ (by omega)];exact h4⟩
 ·rcases List.mem_cons.1 hx with rfl|hx
  ·refine ⟨by rw [am,if_pos rfl],by omega,by rw [hpl];omega,?_⟩
   rcases w.a.wr.at' with ⟨h0,h1⟩|⟨h0,h1,h2,h3,h4⟩
   ·exact .inl h0
   ·exact .inr (Nat.ne_of_gt h1)
  ·obtain ⟨k1,k2,k3,k4⟩:=w.k x hx
   exact ⟨by rw [lk _ k3];exact k1,k2,by rw [hpl];omega,k4⟩
theorem Wq.sub {K':List (Nat × Go.Sx.Obj)} (w:Wq H nx h wid P pid p n K) (hs : ∀ x∈K',x∈K):Wq H nx h wid P pid p n K':=⟨w.a,fun x hx=>w.k x (hs x hx)⟩
theorem iM (nx:Nat) (h:Hp) (o:Go.Sx.Obj) (o':Ob):Go.Sx.setObj nx (Go.Sx.push h o) (nx+h.new.length) o'=⟨h.upd,h.new++[o']⟩:=by
 simp [Go.Sx.setObj,Go.Sx.push,ltF]
end
theorem bC (e:Ev) (H:Heap) (nx:Nat):Ω 151 [.p e.pv] H nx=some (.bool (decide (e = .leaf 0)),[],[]):=by
 refine av (ir:=ir151) (by kernel_rfl) 0 ?_
 cases e with
 | leaf n=>
  have h1:=jp n
  have h2:=pD n (.s (.pointer none))
  by_cases h0:n=0
  ·subst h0
   simp only [Int.natCast_zero,Int.ofNat_zero] at h1 h2
   simp [ir151,Ev.n_l,Ev.ptr_l,h1,h2,ssB,ssU,Go.Sx.LV.undef,Go.undef,ssP,appO]
  ·have:((n:Int)==0)=false:=by simp;omega
   simp [ir151,Ev.n_l,Ev.ptr_l,h1,h2,this,h0,ssB,ssU,Go.Sx.LV.undef,Go.undef,ssP,appO]
 | node n l r=>
  have h1:=fun cs=>jq n cs
  simp [ir151,Ev.n_n,Ev.ptr_n,h1,ssB,ssU,Go.Sx.LV.undef,Go.undef,ssP,appO]
theorem wo (e:Ev) (H:Heap) (nx:Nat):Ω 67 [.p e.pv] H nx=some (.p e.left.pv,[],[]):=by
 cases e
 ·exact mK _ H nx
 ·exact mL _ _ _ _ _ H nx
theorem tM (e:Ev) (H:Heap) (nx:Nat):Ω 69 [.p e.pv] H nx=some (.p e.right.pv,[],[]):=by
 cases e
 ·exact ki _ H nx
 ·exact kj _ _ _ _ _ H nx
theorem bf (e:Ev) (H:Heap) (nx:Nat):Ω 147 [.p e.pv] H nx=some (.bool e.isLeaf,[],[]):=by
 cases e
 ·exact jp _ H nx
 ·exact jq _ _ H nx
theorem bI (e:Ev) (H:Heap) (nx:Nat):Ω 150 [.p e.pv] H nx=some (.int .u64 e.n,[],[]):=pD _ _ H nx
def evKind (n:Nat) (zl zr:Bool):List Bool:=
 if n=0 then (if zl then bitsOf 0 2 else if zr then bitsOf 1 2 else bitsOf 2 2)
 else bitsOf 3 2++(if zl then bitsOf 0 2 else if zr then bitsOf 1 2 else bitsOf 1 1)
theorem oz (n:Nat) (zl zr:Bool):0<(evKind n zl zr).length∧(evKind n zl zr).length≤4:=by
 unfold evKind
 split<;>cases zl<;>cases zr<;>simp [aj]
def evBits:Ev→List Bool
 | .leaf n=>bitsOf 1 1++numBits n 2 62
 | .node n l r=>bitsOf 0 1++evKind n (decide (l = .leaf 0)) (decide (r = .leaf 0))++(if n=0 then [] else numBits n 2 62)++(if l = .leaf 0 then [] else evBits l)++(if r = .leaf 0 then [] else evBits r)
def pevA:IRC:=seqL ir118.body
def pevB:IRC:=seqL (seqR ir118.body)
def pevC:IRC:=seqL (seqR (seqR ir118.body))
def pevD:IRC:=seqL (seqR (seqR (seqR ir118.body)))
def pevE:IRC:=seqL (seqR (seqR (seqR (seqR ir118.body))))
def pevF:IRC:=seqL (seqR (seqR (seqR (seqR (seqR ir118.body)))))
def pevG:IRC:=seqL (seqR (seqR (seqR (seqR (seqR (seqR ir118.body))))))
theorem sF:ir118=⟨[0,1],.seq pevA (.seq pevB (.seq pevC (.seq pevD (.seq pevE (.seq pevF (.seq pevG (.block 1 (.loop ir118_0)))))))),[],false⟩:=rfl
abbrev evO (e:Ev):Go.Sx.Obj:=.cells [.int .u64 e.n,.p e.ptr]
abbrev evC (e:Ev):Ob:=some (evO e)
theorem Ay (e:Ev) (x:LV) (H:Heap) (nx n:Nat):runCS ⟨Ω,gG,H,nx⟩ n pevA ⟨[(0,x),(1,.p e.pv)],⟨[],[]⟩⟩=some (.normal,⟨[(0,x),(3,.ref nx 0)],⟨[],[evC e]⟩⟩):=by
 simp [pevA,seqL,ir118,ssB,ssU,Go.Sx.LV.undef,Go.undef,ssP,appO]
theorem Az (e:Ev) (x:LV) (H:Heap) (nx n:Nat):runCS ⟨Ω,gG,H,nx⟩ n pevB ⟨[(0,x),(3,.ref nx 0)],⟨[],[evC e]⟩⟩=some (.normal,⟨[(0,x),(3,.ref nx 0),(4,.ref (nx+1) 0),(5,.ref (nx+2) 0)],⟨[],[evC e,evC e.left,evC e.right]⟩⟩):=by
 have l1:=wo e
 have l2:=tM e
 generalize e.left=l at*
 generalize e.right=r at*
 simp [pevB,seqL,seqR,ir118,ssB,ssU,Go.Sx.LV.undef,Go.undef,ssP,appO,l1,l2]
abbrev pevEnv (wid nx:Nat):List (Nat × LV):=[(0,.ref wid 0),(3,.ref nx 0),(4,.ref (nx+1) 0),(5,.ref (nx+2) 0)]
abbrev pevK (nx:Nat) (e:Ev):List (Nat × Go.Sx.Obj):=[(nx,evO e),(nx+1,evO e.left),(nx+2,evO e.right)]
section
variable {H:Heap} {nx:Nat} {h:Hp} {wid P pid:Nat} {p:List UInt8} {n:Nat}
theorem zg (N:Nat) (e:Ev) (w:Wq H nx h wid P pid p n (pevK nx e)) (hl:e.isLeaf=false):runCS ⟨Ω,gG,H,nx⟩ N pevC ⟨pevEnv wid nx,h⟩=some (.normal,⟨(pevEnv wid nx)++[(13,.bool false)],h⟩):=by
 have k0:=(w.k _ (List.mem_cons_self)).1
 have z:=bf e
 rw [hl] at z
 simp [pevC,seqL,seqR,ir118,ssB,ssU,Go.Sx.LV.undef,Go.undef,aq,ao,ae,Go.Sx.splice,appO,Go.Sx.leI_eq,ltF,z,k0]
theorem zh (N:Nat) (e:Ev) (w:Wq H nx h wid P pid p n (pevK nx e)) (hl:e.isLeaf=true) (hv:e.n<2^64) (hn:n+201<2^30) : ∃ h' pid',runCS ⟨Ω,gG,H,nx⟩ N pevC ⟨pevEnv wid nx,h⟩=some (.ret,⟨[],h'⟩)∧Wq H nx h' wid P pid' (addBits p n (bitsOf 1 1++numBits e.n 2 62)) (n+(1+(numBits e.n 2 62).length)) (pevK nx e)∧(findU h'.upd wid).isSome=true:=by
 have k0:=(w.k _ (List.mem_cons_self)).1
 have z:=bf e
 rw [hl] at z
 have b:=bI e
 obtain ⟨u1,m1,q1,f1,a1,_⟩:=w.put 1 1 (by decide) (by decide) (by omega)
 obtain ⟨u2,m2,q2,f2,a2,w2⟩:=a1.num e.n hv (by omega)
 have k1:=(a1.k _ (List.mem_cons_self)).1
 have c1:((1:Nat):Int)=1:=rfl
 rw [c1] at f1
 refine ⟨_,q2,?_,by rw [bZ,aj,←Nat.add_assoc];exact a2,w2⟩
 simp [pevC,seqL,seqR,ir118,ssB,ssU,Go.Sx.LV.undef,Go.undef,aq,ao,ae,Go.Sx.splice,appO,Go.Sx.leI_eq,ltF,z,k0,k1,b,f1,f2]
theorem AA (N:Nat) (e:Ev) (x:LV) (w:Wq H nx h wid P pid p n (pevK nx e)) (hn:n+201<2^30) : ∃ h' pid',runCS ⟨Ω,gG,H,nx⟩ N pevD ⟨(pevEnv wid nx)++[(13,x)],h⟩=some (.normal,⟨pevEnv wid nx,h'⟩)∧Wq H nx h' wid P pid' (addBits p n (bitsOf 0 1)) (n+1) (pevK nx e)∧(findU h'.upd wid).isSome=true:=by
 obtain ⟨u1,m1,q1,f1,a1,w1⟩:=w.put 0 1 (by decide) (by decide) (by omega)
 have c0:((0:Nat):Int)=0:=rfl
 have c1:((1:Nat):Int)=1:=rfl
 rw [c0,c1] at f1
 refine ⟨_,q1,?_,a1,w1⟩
 simp [pevD,seqL,seqR,ir118,ssB,ssU,Go.Sx.LV.undef,Go.undef,aq,ao,ae,Go.Sx.splice,appO,Go.Sx.leI_eq,ltF,f1]
theorem AB (N:Nat) (e:Ev) (w:Wq H nx h wid P pid p n (pevK nx e)) (hn:n+201<2^30) : ∃ h' pid',runCS ⟨Ω,gG,H,nx⟩ N pevE ⟨pevEnv wid nx,h⟩=some (.normal,⟨pevEnv wid nx,h'⟩) ∧
  Wq H nx h' wid P pid' (addBits p n (evKind e.n (decide (e.left = .leaf 0)) (decide (e.right = .leaf 0)))) (n+(evKind e.n (decide (e.left = .leaf 0)) (decide (e.right = .leaf 0))).length) (pevK nx e)∧(findU h'.upd wid).isSome=true:=by
 have k0:=(w.k _ (List.mem_cons_self)).1
 have k1:=(w.k (nx+1,evO e.left) (by simp)).1
 have k2:=(w.k (nx+2,evO e.right) (by simp)).1
 have z1:=bC e.left
 have z2:=bC e.right
 have b:=bI e
 have c0:((0:Nat):Int)=0:=rfl
 have c1:((1:Nat):Int)=1:=rfl
 have c2:((2:Nat):Int)=2:=rfl
 have c3:((3:Nat):Int)=3:=rfl
 generalize decide (e.left = .leaf 0)=zl at*
 generalize decide (e.right = .leaf 0)=zr at*
 have one : ∀ (v k:Nat),0<k→k≤64→n+k<2^30→evKind e.n zl zr=bitsOf v k→(∀ (u:Upd) (m:List (Ob)),Ω 148 [.ref wid 0,.int .u64 v,.int .i64 k] (Go.Sx.look H nx h) (nx+h.new.length)=some (.tuple [],u,m) →
   runCS ⟨Ω,gG,H,nx⟩ N pevE ⟨pevEnv wid nx,h⟩=some (.normal,⟨pevEnv wid nx,aft nx h u m⟩))→∃ h' pid',runCS ⟨Ω,gG,H,nx⟩ N pevE ⟨pevEnv wid nx,h⟩=some (.normal,⟨pevEnv wid nx,h'⟩) ∧
    Wq H nx h' wid P pid' (addBits p n (evKind e.n zl zr)) (n+(evKind e.n zl zr).length) (pevK nx e)∧(findU h'.upd wid).isSome=true:=by
  intro v k hk0 hk hnk hB hr
  obtain ⟨u1,m1,q1,f1,a1,w1⟩:=w.put v k hk0 hk hnk
  exact ⟨_,q1,hr u1 m1 f1,by rw [hB,aj];exact a1,w1⟩
 have two : ∀ (v k:Nat),0<k→k≤64→n+2+k<2^30→evKind e.n zl zr=bitsOf 3 2++bitsOf v k→(∀ (u:Upd) (m:List (Ob)) (u2:Upd) (m2:List (Ob)),Ω 148 [.ref wid 0,.int .u64 3,.int .i64 2] (Go.Sx.look H nx h) (nx+h.new.length)=some (.tuple [],u,m) →
   Ω 148 [.ref wid 0,.int .u64 v,.int .i64 k] (Go.Sx.look H nx (aft nx h u m)) (nx+(aft nx h u m).new.length)=some (.tuple [],u2,m2) →
   runCS ⟨Ω,gG,H,nx⟩ N pevE ⟨pevEnv wid nx,h⟩=some (.normal,⟨pevEnv wid nx,aft nx (aft nx h u m) u2 m2⟩))→∃ h' pid',runCS ⟨Ω,gG,H,nx⟩ N pevE ⟨pevEnv wid nx,h⟩=some (.normal,⟨pevEnv wid nx,h'⟩) ∧
    Wq H nx h' wid P pid' (addBits p n (evKind e.n zl zr)) (n+(evKind e.n zl zr).length) (pevK nx e)∧(findU h'.upd wid).isSome=true:=by
  intro v k hk0 hk hnk hB hr
  obtain ⟨u1,m1,q1,f1,a1,w1⟩:=w.put 3 2 (by decide) (by decide) (by omega)
  obtain ⟨u2,m2,q2,f2,a2,w2⟩:=a1.put v k hk0 hk hnk
  exact ⟨_,q2,hr u1 m1 u2 m2 f1 f2,by rw [hB,bZ,List.length_append,aj,aj,←Nat.add_assoc];exact a2,w2⟩
 by_cases h0:e.n=0
 ·have hb:((e.n:Int)==0)=true:=by simp [h0]
  cases zl with
  | true=>
   refine one 0 2 (by decide) (by decide) (by omega) (by simp [evKind,h0]) fun u m f1 => ?_
   rw [c0,c2] at f1
   simp [pevE,seqL,seqR,ir118,ssB,ssU,Go.Sx.LV.undef,Go.undef,aq,ao,ae,Go.Sx.splice,appO,Go.Sx.leI_eq,ltF,k0,k1,k2,z1,z2,b,hb,f1]
  | false=>
   cases zr with
   | true=>
    refine one 1 2 (by decide) (by decide) (by omega) (by simp [evKind,h0]) fun u m f1 => ?_
    rw [c1,c2] at f1
    simp [pevE,seqL,seqR,ir118,ssB,ssU,Go.Sx.LV.undef,Go.undef,aq,ao,ae,Go.Sx.splice,appO,Go.Sx.leI_eq,ltF,k0,k1,k2,z1,z2,b,hb,f1]
   | false=>
    refine one 2 2 (by decide) (by decide) (by omega) (by simp [evKind,h0]) fun u m f1 => ?_
    rw [c2] at f1
    simp [pevE,seqL,seqR,ir118,ssB,ssU,Go.Sx.LV.undef,Go.undef,aq,ao,ae,Go.Sx.splice,appO,Go.Sx.leI_eq,ltF,k0,k1,k2,z1,z2,b,hb,f1]
 ·have hb:((e.n:Int)==0)=false:=by simp;omega
  cases zl with
  | true=>
   refine two 0 2 (by decide) (by decide) (by omega) (by simp [evKind,h0]) fun u m u2 m2 f1 f2 => ?_
   rw [c0,c2] at f2
   simp [pevE,seqL,seqR,ir118,ssB,ssU,Go.Sx.LV.undef,Go.undef,aq,ao,ae,Go.Sx.splice,appO,Go.Sx.leI_eq,ltF,k0,k1,k2,z1,z2,b,hb,f1,f2]
  | false=>
   cases zr with
   | true=>
    refine two 1 2 (by decide) (by decide) (by omega) (by simp [evKind,h0]) fun u m u2 m2 f1 f2 => ?_
    rw [c1,c2] at f2
    simp [pevE,seqL,seqR,ir118,ssB,ssU,Go.Sx.LV.undef,Go.undef,aq,ao,ae,Go.Sx.splice,appO,Go.Sx.leI_eq,ltF,k0,k1,k2,z1,z2,b,hb,f1,f2]
   | false=>
    refine two 1 1 (by decide) (by decide) (by omega) (by simp [evKind,h0]) fun u m u2 m2 f1 f2 => ?_
    rw [c1] at f2
    simp [pevE,seqL,seqR,ir118,ssB,ssU,Go.Sx.LV.undef,Go.undef,aq,ao,ae,Go.Sx.splice,appO,Go.Sx.leI_eq,ltF,k0,k1,k2,z1,z2,b,hb,f1,f2]
end
end Go.Proofs.YtoeblkipfdnnlaaGreatDoor
end

section
namespace Go.Proofs.YtoeblkipfdnnlaaGreatDoor
open Go Go.Sx
section
variable {H:Heap} {nx:Nat} {h:Hp} {wid P pid:Nat} {p:List UInt8} {n:Nat}
theorem AD (N:Nat) (e:Ev) (w:Wq H nx h wid P pid p n (pevK nx e)) (hs:(findU h.upd wid).isSome=true) (hv:e.n<2^64) (hn:n+200<2^30) : ∃ E h' pid',runCS ⟨Ω,gG,H,nx⟩ N pevF ⟨pevEnv wid nx,h⟩=some (.normal,⟨E,h'⟩) ∧
  (Go.Sx.get E 0 = .ref wid 0∧Go.Sx.get E 4 = .ref (nx+1) 0∧Go.Sx.get E 5 = .ref (nx+2) 0) ∧
  Wq H nx h' wid P pid' (addBits p n (if e.n=0 then [] else numBits e.n 2 62)) (n+(if e.n=0 then [] else numBits e.n 2 62).length) (pevK nx e)∧(findU h'.upd wid).isSome=true:=by
 have k0:=(w.k _ (List.mem_cons_self)).1
 have b:=bI e
 by_cases h0:e.n=0
 ·rw [if_pos h0]
  have hb : ¬(0:Int)<e.n:=by omega
  have hb2:((e.n:Int)≤0):=by omega
  refine ⟨pevEnv wid nx++[(68,.bool false)],h,pid,?_,by simp [Go.Sx.get],by simpa [addBits] using w,hs⟩
  have hq:(e.n=0)=True:=by simp [h0]
  simp [pevF,seqL,seqR,ir118,ssB,ssU,Go.Sx.LV.undef,Go.undef,aq,ao,ae,Go.Sx.splice,appO,Go.Sx.leI_eq,ltF,k0,b,hq]
 ·rw [if_neg h0]
  have hb:(0:Int)<e.n:=by omega
  have hb2 : ¬((e.n:Int)≤0):=by omega
  obtain ⟨u2,m2,q2,f2,a2,w2⟩:=w.num e.n hv hn
  refine ⟨[(0,.ref wid 0),(4,.ref (nx+1) 0),(5,.ref (nx+2) 0)],_,q2,?_,by simp [Go.Sx.get],a2,w2⟩
  simp [pevF,seqL,seqR,ir118,ssB,ssU,Go.Sx.LV.undef,Go.undef,aq,ao,ae,Go.Sx.splice,appO,Go.Sx.leI_eq,ltF,k0,b,hb2,h0,f2]
abbrev halO (l r:Ev):Go.Sx.Obj:=.cells [.int .u64 l.n,.p l.ptr,.int .u64 r.n,.p r.ptr]
theorem AE (N:Nat) (e:Ev) (E:List (Nat × LV)) (hE:Go.Sx.get E 0 = .ref wid 0∧Go.Sx.get E 4 = .ref (nx+1) 0∧Go.Sx.get E 5 = .ref (nx+2) 0) (w:Wq H nx h wid P pid p n (pevK nx e)):
  runCS ⟨Ω,gG,H,nx⟩ N pevG ⟨E,h⟩=some (.normal,⟨[(0,.ref wid 0),(75,.arr (nx+h.new.length) 0 2 2 2 true),(76,.int .i64 2),(77,.int .i64 0)],push h (halO e.left e.right)⟩):=by
 have k1:=(w.k (nx+1,evO e.left) (by simp)).1
 have k2:=(w.k (nx+2,evO e.right) (by simp)).1
 obtain ⟨g0,g4,g5⟩:=hE
 simp [pevG,seqL,seqR,ir118,ssB,ssU,Go.Sx.LV.undef,Go.undef,aq,ao,ae,Go.Sx.splice,appO,Go.Sx.leI_eq,ltF,k1,k2,g0,g4,g5]
theorem Ae (N:Nat) (l r e:Ev) (hid:Nat) (j:Nat) (hj:(j=0∧e=l)∨(j=1∧e=r)) (hl:Go.Sx.look H nx h hid=some (halO l r)) (hlt:hid<nx+h.new.length) (hz:e = .leaf 0):
  runCS ⟨Ω,gG,H,nx⟩ N ir118_0 ⟨[(0,.ref wid 0),(75,.arr hid 0 2 2 2 true),(76,.int .i64 2),(77,.int .i64 j)],h⟩=
   some (.normal,⟨[(0,.ref wid 0),(75,.arr hid 0 2 2 2 true),(76,.int .i64 2),(77,.int .i64 (j+1:Nat))],push h (evO e)⟩):=by
 have z:=bC e
 rw [show (decide (e=Ev.leaf 0))=true by simp [hz]] at z
 have ne : ¬hid=nx+h.new.length:=by omega
 have sp:=fun o o'=>iM nx h o o'
 have hq : ∀ o:Go.Sx.Obj,(⟨h.upd,h.new++[some o]⟩:Hp)=push h o:=fun o=>rfl
 have lk : ∀ o:Go.Sx.Obj,Go.Sx.look H nx (push h o) (nx+h.new.length)=some o:=fun o=>by rw [am,if_pos rfl]
 have lk2 : ∀ o:Go.Sx.Obj,Go.Sx.look H nx (push h o) hid=some (halO l r):=fun o=>by rw [am,if_neg ne];exact hl
 have w1:IntKind.i64.wrap 1=1:=by decide
 have w2:IntKind.i64.wrap 2=2:=by decide
 rcases hj with ⟨rfl,he⟩|⟨rfl,he⟩<;>subst he<;>clear hz
 ·simp [ir118_0,ssB,ssU,Go.Sx.LV.undef,Go.undef,aq,ao,ae,Go.Sx.splice,appO,Go.Sx.leI_eq,ltF,z,hl,sp,hq,lk,lk2,w1]
 ·simp [ir118_0,ssB,ssU,Go.Sx.LV.undef,Go.undef,aq,ao,ae,Go.Sx.splice,appO,Go.Sx.leI_eq,ltF,z,hl,sp,hq,lk,lk2,w2]
theorem Af (N:Nat) (l r e:Ev) (hid:Nat) (j:Nat) (hj:(j=0∧e=l)∨(j=1∧e=r)) (hl:Go.Sx.look H nx h hid=some (halO l r)) (hlt:hid<nx+h.new.length) (hz:e ≠ .leaf 0) {u:Upd} {m:List (Ob)}
  (f:Ω 118 [.ref wid 0,.p e.pv] (Go.Sx.look H nx (push h (evO e))) (nx+(push h (evO e)).new.length)=some (.tuple [],u,m)):
  runCS ⟨Ω,gG,H,nx⟩ N ir118_0 ⟨[(0,.ref wid 0),(75,.arr hid 0 2 2 2 true),(76,.int .i64 2),(77,.int .i64 j)],h⟩=
   some (.normal,⟨[(0,.ref wid 0),(75,.arr hid 0 2 2 2 true),(76,.int .i64 2),(77,.int .i64 (j+1:Nat))],aft nx (push h (evO e)) u m⟩):=by
 have z:=bC e
 rw [show (decide (e=Ev.leaf 0))=false by simp [hz]] at z
 have ne : ¬hid=nx+h.new.length:=by omega
 have sp:=fun o o'=>iM nx h o o'
 have hq : ∀ o:Go.Sx.Obj,(⟨h.upd,h.new++[some o]⟩:Hp)=push h o:=fun o=>rfl
 have lk : ∀ o:Go.Sx.Obj,Go.Sx.look H nx (push h o) (nx+h.new.length)=some o:=fun o=>by rw [am,if_pos rfl]
 have lk2 : ∀ o:Go.Sx.Obj,Go.Sx.look H nx (push h o) hid=some (halO l r):=fun o=>by rw [am,if_neg ne];exact hl
 have w1:IntKind.i64.wrap 1=1:=by decide
 have w2:IntKind.i64.wrap 2=2:=by decide
 rcases hj with ⟨rfl,he⟩|⟨rfl,he⟩<;>subst he<;>clear hz
 ·simp [ir118_0,ssB,ssU,Go.Sx.LV.undef,Go.undef,aq,ao,ae,Go.Sx.splice,appO,Go.Sx.leI_eq,ltF,z,hl,sp,hq,lk,lk2,w1,f]
 ·simp [ir118_0,ssB,ssU,Go.Sx.LV.undef,Go.undef,aq,ao,ae,Go.Sx.splice,appO,Go.Sx.leI_eq,ltF,z,hl,sp,hq,lk,lk2,w2,f]
theorem Ag (N:Nat) (hid:Nat) (x:LV):runCS ⟨Ω,gG,H,nx⟩ N ir118_0 ⟨[(0,x),(75,.arr hid 0 2 2 2 true),(76,.int .i64 2),(77,.int .i64 2)],h⟩=
   some (.exit 1,⟨[(0,x),(75,.arr hid 0 2 2 2 true),(76,.int .i64 2),(77,.int .i64 2),(78,.bool false)],h⟩):=by
 simp [ir118_0,ssB,ssU,Go.Sx.LV.undef,Go.undef,aq,ao,ae,Go.Sx.splice,appO,Go.Sx.leI_eq,ltF]
theorem nh (N:Nat) (l r e:Ev) (hid:Nat) (j:Nat) (hj:(j=0∧e=l)∨(j=1∧e=r)) (w:Wq H nx h wid P pid p n [(hid,halO l r)]) (hs:(findU h.upd wid).isSome=true)
  (ih:e ≠ .leaf 0→∀ (H:Heap) (nx wid pid n:Nat) (p:List UInt8),Wr H nx wid pid p n→n+(evBits e).length+201<2^30 →
   ∃ u m pid',Ω 118 [.ref wid 0,.p e.pv] H nx=some (.tuple [],u,m)∧Post H nx wid pid n u m pid' (addBits p n (evBits e)) (n+(evBits e).length))
  (hn:n+(if e = .leaf 0 then [] else evBits e).length+201<2^30):
  ∃ h' pid',runCS ⟨Ω,gG,H,nx⟩ N ir118_0 ⟨[(0,.ref wid 0),(75,.arr hid 0 2 2 2 true),(76,.int .i64 2),(77,.int .i64 j)],h⟩=
   some (.normal,⟨[(0,.ref wid 0),(75,.arr hid 0 2 2 2 true),(76,.int .i64 2),(77,.int .i64 (j+1:Nat))],h'⟩) ∧
   Wq H nx h' wid P pid' (addBits p n (if e = .leaf 0 then [] else evBits e)) (n+(if e = .leaf 0 then [] else evBits e).length) [(hid,halO l r)]∧(findU h'.upd wid).isSome=true:=by
 obtain ⟨k1,k2,k3,k4⟩:=w.k (hid,halO l r) (by simp)
 have wp:=(w.push (evO e)).sub (K':=[(hid,halO l r)]) (by simp)
 by_cases hz:e = .leaf 0
 ·rw [if_pos hz]
  exact ⟨_,pid,Ae N l r e hid j hj k1 k3 hz,by simpa [addBits] using wp,hs⟩
 ·rw [if_neg hz] at hn ⊢
  obtain ⟨u,m,q,f,po⟩:=ih hz _ _ wid pid n p wp.a.wr hn
  obtain ⟨w2,s2⟩:=wp.call po
  exact ⟨_,q,Af N l r e hid j hj k1 k3 hz f,w2,s2⟩
end
theorem qJ {e:Ev} {wid:Nat} {h:Hp} {u:Upd} {m:List (Ob)} (N:Nat) (H:Heap) (nx:Nat)
  (h3 : ∃ ex E,(ex = .normal∨ex = .ret)∧runCS ⟨Ω,gG,H,nx⟩ N (.seq pevC (.seq pevD (.seq pevE (.seq pevF (.seq pevG (.block 1 (.loop ir118_0))))))) ⟨pevEnv wid nx,⟨[],[evC e,evC e.left,evC e.right]⟩⟩=some (ex,⟨E,h⟩)) (hf:finish false H nx (.tuple []) h=some (.tuple [],u,m)):
  Ω 118 [.ref wid 0,.p e.pv] H nx=some (.tuple [],u,m):=by
 refine av (ir:=ir118) (by kernel_rfl) N ?_
 rw [sF]
 have a:=Ay e (.ref wid 0) H nx N
 have b:=Az e (.ref wid 0) H nx N
 obtain ⟨ex,E,hex,h3⟩:=h3
 generalize pevA=A at*
 generalize pevB=B at*
 generalize IRC.seq pevC (.seq pevD (.seq pevE (.seq pevF (.seq pevG (.block 1 (.loop ir118_0))))))=C at*
 rcases hex with rfl|rfl<;>simp [ssB,ssU,Go.Sx.LV.undef,Go.undef,aq,ao,ae,Go.Sx.splice,appO,Go.Sx.leI_eq,ltF,a,b,h3,hf]
theorem ic : ∀ (e:Ev),e.max<2^64→∀ (H:Heap) (nx wid pid n:Nat) (p:List UInt8),Wr H nx wid pid p n→n+(evBits e).length+201<2^30 →
  ∃ u m pid',Ω 118 [.ref wid 0,.p e.pv] H nx=some (.tuple [],u,m)∧Post H nx wid pid n u m pid' (addBits p n (evBits e)) (n+(evBits e).length)
 | .leaf v,hm,H,nx,wid,pid,n,p,g,hn=>by
  have a0:Wq H nx _ wid _ pid p n (pevK nx (.leaf v)):=(Wk.init g [evC (.leaf v),evC (Ev.leaf v).left,evC (Ev.leaf v).right]).toQ (by
   intro x hx
   simp only [pevK,List.mem_cons,List.not_mem_nil,or_false] at hx
   rcases hx with rfl|rfl|rfl
   ·exact ⟨0,rfl,rfl⟩
   ·exact ⟨1,rfl,rfl⟩
   ·exact ⟨2,rfl,rfl⟩)
  have hv:v<2^64:=hm
  obtain ⟨h',q',f1,w1,s1⟩:=zh 63 (.leaf v) a0 rfl hv (by omega)
  have hB:evBits (.leaf v)=bitsOf 1 1++numBits v 2 62:=rfl
  rw [hB,List.length_append,aj]
  obtain ⟨u,m,q,f3,f4⟩:=w1.a.post false (pid0:=pid) (n0:=n) (by omega) s1
  refine ⟨u,m,q,qJ 63 H nx ⟨.ret,[],.inr rfl,?_⟩ f3,f4⟩
  simp only [cz,f1]
 | .node v l r,hm,H,nx,wid,pid,n,p,g,hn=>by
  have d1:=Ev.max_l v l r
  have d2:=Ev.max_r v l r
  have hB:evBits (.node v l r)=bitsOf 0 1++evKind v (decide (l = .leaf 0)) (decide (r = .leaf 0))++(if v=0 then [] else numBits v 2 62)++(if l = .leaf 0 then [] else evBits l)++(if r = .leaf 0 then [] else evBits r):=by
   rw [evBits]
  have a0:Wq H nx _ wid _ pid p n (pevK nx (.node v l r)):=(Wk.init g [evC (.node v l r),evC (Ev.node v l r).left,evC (Ev.node v l r).right]).toQ (by
   intro x hx
   simp only [pevK,List.mem_cons,List.not_mem_nil,or_false] at hx
   rcases hx with rfl|rfl|rfl
   ·exact ⟨0,rfl,rfl⟩
   ·exact ⟨1,rfl,rfl⟩
   ·exact ⟨2,rfl,rfl⟩)
  rw [hB] at hn ⊢
  simp only [List.length_append,aj] at hn
  have c:=zg 64 (.node v l r) a0 rfl
  obtain ⟨h1,q1,f1,w1,s1⟩:=AA 64 (.node v l r) (.bool false) a0 (by omega)
  obtain ⟨h2,q2,f2,w2,s2⟩:=AB 64 (.node v l r) w1 (by omega)
  have he1:(Ev.node v l r).left=l:=rfl
  have he2:(Ev.node v l r).right=r:=rfl
  have he3:(Ev.node v l r).n=v:=rfl
  rw [he1,he2,he3] at w2
  obtain ⟨E,h3,q3,f3,hE,w3,s3⟩:=AD 64 (.node v l r) w2 s2 (by rw [he3];omega) (by omega)
  rw [he3] at w3
  have f4:=AE 64 (.node v l r) E hE w3
  have w4:=(w3.push (halO l r)).sub (K':=[(nx+h3.new.length,halO l r)]) (by simp)
  obtain ⟨h5,q5,f5,w5,s5⟩:=nh 64 l r l (nx+h3.new.length) 0 (.inl ⟨rfl,rfl⟩) w4 s3 (fun _=>ic l (by omega)) (by omega)
  obtain ⟨h6,q6,f6,w6,s6⟩:=nh 64 l r r (nx+h3.new.length) 1 (.inr ⟨rfl,rfl⟩) w5 s5 (fun _=>ic r (by omega)) (by omega)
  have f7:=Ag (H:=H) (nx:=nx) (h:=h6) 64 (nx+h3.new.length) (.ref wid 0)
  obtain ⟨u,m,q,f8,f9⟩:=w6.a.post false (pid0:=pid) (n0:=n) (by omega) s6
  refine ⟨u,m,q,qJ 64 H nx ⟨.normal,[(0,.ref wid 0),(75,.arr (nx+h3.new.length) 0 2 2 2 true),(76,.int .i64 2),(77,.int .i64 2),(78,.bool false)],.inl rfl,?_⟩ f8,?_⟩
  ·have lp:iter (runCS ⟨Ω,gG,H,nx⟩ 64 ir118_0) 64 ⟨[(0,.ref wid 0),(75,.arr (nx+h3.new.length) 0 2 2 2 true),(76,.int .i64 2),(77,.int .i64 0)],push h3 (halO l r)⟩=some (.exit 1,⟨[(0,.ref wid 0),(75,.arr (nx+h3.new.length) 0 2 2 2 true),(76,.int .i64 2),(77,.int .i64 2),(78,.bool false)],h6⟩):=by
    exact (bg f5).trans ((bg f6).trans (bc f7 (by simp)))
   simp only [he1,he2] at c f1 f4
   simp only [cz,c,f1,f2,f3,f4,dh,cV,he1,he2,lp,if_pos]
  ·simp only [bZ,List.length_append,aj]
   simp only [←Nat.add_assoc]
   exact f9
end Go.Proofs.YtoeblkipfdnnlaaGreatDoor
end

section
namespace Go.Proofs.YtoeblkipfdnnlaaGreatDoor
open Go
def stp (r:BitVec 32):BitVec 32:=if r &&& 1#32=1#32 then (r >>> 1) ^^^ 3988292384#32 else r >>> 1
def wide (b:UInt8):BitVec 32:=BitVec.ofNat 32 b.toNat
def crcB (r:BitVec 32) (b:UInt8):BitVec 32:=Nat.repeat stp 8 (r ^^^ wide b)
def crcL (r:BitVec 32) (l:List UInt8):BitVec 32:=l.foldl crcB r
def crc (l:List UInt8):BitVec 32 := ~~~ (crcL 4294967295#32 l)
def low (x:BitVec 32):UInt8:=UInt8.ofNat x.toNat
def le4 (x:BitVec 32):List UInt8:=[low x,low (x >>> 8),low (x >>> 16),low (x >>> 24)]
def vnum (n:Nat):List UInt8:=if n<128 then [UInt8.ofNat n] else UInt8.ofNat (n%128+128)::vnum (n/128)
 termination_by n
 decreasing_by omega
theorem bV {n:Nat} (h:n<128):vnum n=[UInt8.ofNat n]:=by rw [vnum,if_pos h]
theorem fy {n:Nat} (h : ¬n<128):vnum n=UInt8.ofNat (n%128+128)::vnum (n/128):=by rw [vnum,if_neg h]
theorem iP : ∀ (k n:Nat),n<128^k→0<k→(vnum n).length≤k
 | 0,n,_,h0=>absurd h0 (Nat.lt_irrefl 0)
 | 1,n,h,_=>by rw [bV (by simpa using h)];simp
 | k+2,n,h,_=>by
  by_cases hn:n<128
  ·rw [bV hn];simp
  ·rw [fy hn,List.length_cons]
   have:=iP (k+1) (n/128) (by rw [Nat.pow_succ] at h;exact Nat.div_lt_of_lt_mul (by rw [Nat.mul_comm];exact h)) (by omega)
   omega
theorem gO (n:Nat):0<(vnum n).length:=by
 by_cases hn:n<128
 ·rw [bV hn];simp
 ·rw [fy hn];simp
theorem cK (n:Nat) (h:n<2^64):(vnum n).length≤10:=iP 10 n (Nat.lt_of_lt_of_le h (by decide)) (by decide)
def rnum (i n:Nat):List UInt8→Option (Nat × List UInt8)
 | []=>none
 | b::l=>
  if (i=9∧1<b.toNat)∨(b=0∧0<i) then none
  else if b.toNat<128 then some (n ||| (b.toNat%128*2^(7*i))%2^64,l)
  else rnum (i+1) (n ||| (b.toNat%128*2^(7*i))%2^64) l
theorem sM : ∀ (k m i n:Nat) (l:List UInt8),k=(vnum m).length→n<2^(7*i)→m*2^(7*i)<2^64→(0<i→0<m)→rnum i n (vnum m++l)=some (n+m*2^(7*i),l):=by
 have oL : ∀ (i n b:Nat),n<2^(7*i)→n ||| b*2^(7*i)=n+b*2^(7*i):=fun i n b h=>by
  have:=Nat.shiftLeft_add_eq_or_of_lt h b
  rw [Nat.shiftLeft_eq] at this
  rw [Nat.or_comm,←this,Nat.add_comm]
 intro k
 induction k with
 | zero=>intro m i n l hk;have:=gO m;omega
 | succ k ih=>
  intro m i n l hk hn hm h0
  have hi:m≠0→i≤9:=fun hm0=>by
   rcases Nat.lt_or_ge i 10 with h|h
   ·omega
   ·have h1:(2:Nat)^70≤2^(7*i):=Nat.pow_le_pow_right (by omega) (by omega)
    have h2:2^(7*i)≤m*2^(7*i):=Nat.le_mul_of_pos_left _ (by omega)
    omega
  have h9:i=9→m<2:=fun h=>by subst h;omega
  by_cases h:m<128
  ·rw [bV h,List.singleton_append,rnum]
   have hb:(UInt8.ofNat m).toNat=m:=by simp [UInt8.toNat_ofNat'];omega
   rw [if_neg,hb,if_pos h,Nat.mod_eq_of_lt h,Nat.mod_eq_of_lt hm,oL i n m hn]
   rw [hb]
   rintro (⟨h1,h2⟩|⟨h1,h2⟩)
   ·have:=h9 h1;omega
   ·have:=h0 h2
    have h3:=congrArg UInt8.toNat h1
    rw [hb] at h3
    simp at h3
    omega
  ·rw [fy h,List.cons_append,rnum]
   have hb:(UInt8.ofNat (m%128+128)).toNat=m%128+128:=by simp [UInt8.toNat_ofNat'];omega
   have e:(m%128+128)%128=m%128:=by omega
   have hlt:m%128*2^(7*i)<2^64:=Nat.lt_of_le_of_lt (Nat.mul_le_mul_right _ (Nat.mod_le m 128)) hm
   rw [if_neg,hb,if_neg (by omega),e,Nat.mod_eq_of_lt hlt,oL i n _ hn]
   ·have hd:m=m%128+128*(m/128):=by omega
    have e2:(2:Nat)^(7*(i+1))=128*2^(7*i):=by rw [Nat.mul_add,Nat.pow_add,Nat.mul_comm]
    have e3:m/128*2^(7*(i+1))=128*(m/128)*2^(7*i):=by rw [e2];simp only [Nat.mul_assoc,Nat.mul_comm,Nat.mul_left_comm]
    have e4:m*2^(7*i)=m%128*2^(7*i)+128*(m/128)*2^(7*i):=by rw [←Nat.add_mul,←hd]
    rw [ih (m/128) (i+1) _ l (by rw [fy h] at hk;simpa using hk)]
    ·rw [e3,e4,Nat.add_assoc]
    ·rw [e2]
     have:m%128*2^(7*i)≤127*2^(7*i):=Nat.mul_le_mul_right _ (by omega)
     omega
    ·rw [e3];omega
    ·intro _;omega
   ·rw [hb]
    rintro (⟨h1,h2⟩|⟨h1,h2⟩)
    ·have:=h9 h1;omega
    ·have h3:=congrArg UInt8.toNat h1
     rw [hb] at h3
     simp at h3
theorem xq (m:Nat) (h:m<2^64) (l:List UInt8):rnum 0 0 (vnum m++l)=some (m,l):=by
 rw [sM _ m 0 0 l rfl (by decide) (by simpa using h) (by omega)]
 simp
end Go.Proofs.YtoeblkipfdnnlaaGreatDoor
end

section
namespace Go.Proofs.YtoeblkipfdnnlaaGreatDoor
open Go Go.Sx
section sum
variable (c:Ctx) (h:Hp)
end sum
section sum
variable {c:Ctx}
end sum
def frame (l:List UInt8):List UInt8:=le4 (BitVec.ofNat 32 l.length)++le4 (crc (le4 (BitVec.ofNat 32 l.length)++l))++l
theorem sv (H:Heap) (nx:Nat) (h:Hp) (o:Go.Sx.Obj):Go.Sx.look H nx (push h o) (nx+h.new.length)=some o:=by
 simp [Go.Sx.look,push,ltF]
theorem nz (H:Heap) (nx:Nat) (h:Hp) (o:Go.Sx.Obj) (i:Nat) (hi:i<nx+h.new.length):Go.Sx.look H nx (push h o) i=Go.Sx.look H nx h i:=by
 rw [am,if_neg (by omega)]
theorem AN {c:Ctx} {h:Hp} {q:List UInt8} {i j:Nat} {ex:Bool} {b:UInt8} (hi:Go.Sx.look c.H c.nx h i=some (.cells (byt q))) (hj:Go.Sx.look c.H c.nx h j=some (.cells [.int .u8 b.toNat])) (h30:q.length<2^31):
  appO c h 1 1 (.arr i 0 q.length 1 q.length ex) (.arr j 0 1 1 1 true)=some ⟨.arr (c.nx+h.new.length) 0 (q.length+1) 1 (q.length+1) false,
   push (if ex then h else Go.Sx.setObj c.nx h i none) (.cells (byt (q++[b]))),[i,j],!ex⟩:=by
 have h41 : ¬2^40<(q.length+1)*1:=by omega
 cases ex<;>simp [appO,slCells,hi,hj,ax,h41,aD,bO,cj,dR,ids]<;>omega
theorem Aw : ∀ x:Fin 256,(BitVec.ofInt 8 (x.val:Int) ||| BitVec.ofInt 8 128).toNat=x.val%128+128:=by decide +kernel
theorem v6 (n:Nat):binI .or .u8 (IntKind.u8.wrap (n:Int)) 128=some (.int .u8 ((UInt8.ofNat (n%128+128)).toNat:Nat)):=by
 have h1:binI .or .u8 (IntKind.u8.wrap (n:Int)) 128=some (.int .u8 (IntKind.u8.wrap (BitVec.ofInt 8 (IntKind.u8.wrap (n:Int)) ||| BitVec.ofInt 8 128).toNat)):=rfl
 have h2:IntKind.u8.wrap (n:Int)=((n%256:Nat):Int):=by simp [IntKind.wrap,IntKind.signed,IntKind.bits]
 have h3:=Aw ⟨n%256,Nat.mod_lt _ (by decide)⟩
 simp only at h3
 rw [h1,h2,h3]
 have h4:IntKind.u8.wrap ((n%256%128+128:Nat):Int)=((n%256%128+128:Nat):Int):=by
  simp [IntKind.wrap,IntKind.signed,IntKind.bits]
  omega
 rw [h4]
 simp
 omega
theorem iZ (n:Nat):IntKind.u8.wrap (n:Int)=((UInt8.ofNat n).toNat:Nat):=by
 simp [IntKind.wrap,IntKind.signed,IntKind.bits]
theorem AX (n:Nat):shI .shr .u64 n 7=some (.int .u64 (n/128:Nat)):=by
 have:shI .shr .u64 (n:Int) 7=some (.int .u64 ((n:Int).fdiv (2^7))):=rfl
 rw [this,Int.fdiv_eq_ediv_of_nonneg _ (by decide)]
 norm_cast
section num
variable {c:Ctx}
theorem wU {N:Nat} {h:Hp} {x:LV} {n:Nat} (hn:n<128):
  runCS c N ir116_0 ⟨[(0,x),(1,.int .u64 n)],h⟩=some (.exit 0,⟨[(0,x),(1,.int .u64 n),(12,.bool false)],h⟩):=by
 have hn' : ¬(128:Int)≤n:=by omega
 simp [ir116_0,ssB,ssU,Go.Sx.LV.undef,Go.undef,Go.Sx.callO,Go.Sx.splice,Go.Sx.finish,Go.Sx.setAll,Go.Sx.leI_eq,ltF,hn']
theorem su {h:Hp} {i:Nat} {o p:Go.Sx.Obj} {ex:Bool} (hex:ex=true∨c.nx≤i) (hu:h.upd=[]):
  Go.Sx.look c.H c.nx (push (if ex then push h o else Go.Sx.setObj c.nx (push h o) i none) p) (c.nx+(h.new.length+1))=some p ∧
  (push (if ex then push h o else Go.Sx.setObj c.nx (push h o) i none) p).upd=[] ∧
  (push (if ex then push h o else Go.Sx.setObj c.nx (push h o) i none) p).new.length=h.new.length+2:=by
 cases ex with
 | true=>exact ⟨by simp [Go.Sx.look,push,ltF],by simp [push,hu],by simp [push]⟩
 | false=>
  have hge : ¬i<c.nx:=by
   rcases hex with h|h
   ·cases h
   ·omega
  refine ⟨?_,?_,?_⟩
  ·simp [Go.Sx.look,push,ltF,Go.Sx.setObj,hge]
  ·simp [push,Go.Sx.setObj,hge,hu]
  ·simp [push,Go.Sx.setObj,hge]
end num
theorem fL {H:Heap} {nx i L:Nat} {h:Hp} {q:List UInt8} {ex:Bool} (hu:h.upd=[]) (hi:nx≤i) (hl:Go.Sx.look H nx h i=some (.cells (byt q))):
  finish true H nx (.arr i 0 L 1 L ex) h=some (.arr nx 0 L 1 L ex,[],[some (.cells (byt q))]):=by
 have h1 : ¬i<nx:=by omega
 simp [finish,ssB,ssU,Go.Sx.LV.undef,Go.undef,Go.Sx.callO,Go.Sx.splice,Go.Sx.finish,Go.Sx.push,Go.Sx.setObj,Go.Sx.setU,Go.Sx.setAll,appO,Go.Sx.leI_eq,ltF,hu,h1,hl,ax,ak,aD,aH,aK,aO,aR,aB,aF]
end Go.Proofs.YtoeblkipfdnnlaaGreatDoor
end

section
namespace Go.Proofs.YtoeblkipfdnnlaaGreatDoor
open Go Go.Sx
theorem yW : ∀ x:Fin 256,(BitVec.ofInt 8 (x.val:Int) &&& ~~~ BitVec.ofInt 8 128).toNat=x.val%128:=by decide +kernel
theorem tq (b:UInt8):binI .andNot .u8 b.toNat 128=some (.int .u8 (b.toNat%128:Nat)):=by
 have h1:binI .andNot .u8 b.toNat 128=some (.int .u8 (IntKind.u8.wrap (BitVec.ofInt 8 (b.toNat:Int) &&& ~~~ BitVec.ofInt 8 128).toNat)):=rfl
 have h3:=yW ⟨b.toNat,b.toNat_lt⟩
 simp only at h3
 rw [h1,h3]
 simp [IntKind.wrap,IntKind.signed,IntKind.bits]
 omega
theorem aY (n:Nat) (h:n<2^64):IntKind.u64.wrap (n:Int)=n:=by
 simp [IntKind.wrap,IntKind.signed,IntKind.bits]
 omega
theorem cD (n k:Nat) (hk:k≤64):shI .shl .u64 n k=some (.int .u64 (n*2^k%2^64:Nat)):=by
 have:shI .shl .u64 (n:Int) k=some (.int .u64 (IntKind.u64.wrap ((n:Int)*(2^(min k 64))))):=by
  simp only [shI]
  rw [if_neg (by omega)]
  rfl
 rw [this,Nat.min_eq_left hk]
 simp [IntKind.wrap,IntKind.signed,IntKind.bits]
theorem cy (x y:Nat) (hx:x<2^64) (hy:y<2^64):binI .or .u64 x y=some (.int .u64 (x ||| y:Nat)):=by
 have:binI .or .u64 (x:Int) (y:Int)=some (.int .u64 (IntKind.u64.wrap (BitVec.ofInt 64 (x:Int) ||| BitVec.ofInt 64 (y:Int)).toNat)):=rfl
 rw [this,BitVec.ofInt_natCast,BitVec.ofInt_natCast,BitVec.toNat_or,BitVec.toNat_ofNat,BitVec.toNat_ofNat,Nat.mod_eq_of_lt hx,Nat.mod_eq_of_lt hy,aY _ (Nat.or_lt_two_pow hx hy)]
section sum
variable {c:Ctx}
end sum
theorem rX (n:Nat) (l:List UInt8):List.take n (bytP l)=bytP (l.take n):=by simp [bytP]
end Go.Proofs.YtoeblkipfdnnlaaGreatDoor
end

section
namespace Go.Proofs.YtoeblkipfdnnlaaGreatDoor
open Go Go.Sx
theorem rT (n:Nat) (l:List UInt8):List.drop n (bytP l)=bytP (l.drop n):=by simp [bytP,List.map_drop]
theorem mD (n:Nat) (l:List UInt8):List.take n (byt l)=byt (l.take n):=by simp [byt,List.map_take]
theorem mC (n:Nat) (l:List UInt8):List.drop n (byt l)=byt (l.drop n):=by simp [byt,List.map_drop]
theorem bA {l:List UInt8} {i:Nat} {b:UInt8} (h:l[i]?=some b):(byt l)[i]?=some (.int .u8 b.toNat):=by simp [byt,h]
inductive Bs (H:Heap) (nx:Nat):LV→List UInt8→Prop
 | nil:Bs H nx (.p (.s (.slice none 0 0))) []
 | sl (F:List UInt8) (fl:Bool):Bs H nx (.p (.sl (bytP F) F.length 1 fl)) F
 | arr (F G:List UInt8) (id off cp:Nat) (ex:Bool):H id=some (.cells (byt G))→id<nx→off+F.length≤G.length→(G.drop off).take F.length=F→Bs H nx (.arr id off F.length 1 cp ex) F
theorem Bs.mono {H H':Heap} {nx nx':Nat} {x:LV} {F:List UInt8} (g:Bs H nx x F) (h : ∀ id,id<nx→H' id=H id) (hn:nx≤nx'):Bs H' nx' x F:=by
 cases g with
 | nil=>exact .nil
 | sl _ fl=>exact .sl F fl
 | arr _ G id off cp ex h1 h2 h3 h4=>exact .arr F G id off cp ex (by rw [h id h2];exact h1) (by omega) h3 h4
theorem Bs.whole {H:Heap} {nx:Nat} {id cp:Nat} {ex:Bool} {F:List UInt8} (h:H id=some (.cells (byt F))) (hid:id<nx):Bs H nx (.arr id 0 F.length 1 cp ex) F:=
 .arr F F id 0 cp ex h hid (by omega) (by simp)
theorem Bs.whole' {H:Heap} {nx:Nat} {id cp n:Nat} {ex:Bool} {F:List UInt8} (hn:n=F.length) (h:H id=some (.cells (byt F))) (hid:id<nx):Bs H nx (.arr id 0 n 1 cp ex) F:=by
 subst hn;exact .whole h hid
theorem fv {F G:List UInt8} {off:Nat} (h:(G.drop off).take F.length=F) {i:Nat} {b:UInt8} (hi:F[i]?=some b):G[off+i]?=some b:=by
 have h2:=hi
 rw [←h,List.getElem?_take] at h2
 split at h2
 ·rwa [List.getElem?_drop] at h2
 ·cases h2
theorem Bs.cells {H:Heap} {nx:Nat} {h:Hp} {x:LV} {F:List UInt8} (g:Bs (Go.Sx.look H nx h) (nx+h.new.length) x F):slCells H nx h x=some (byt F,F.length):=by
 cases g with
 | nil=>rfl
 | sl _ fl=>simp [slCells,aJ]
 | arr _ G id off cp ex h1 h2 h3 h4=>
  simp [slCells,h1,ax,h3,mC,mD,h4]
theorem Bs.in {H:Heap} {nx:Nat} {x:LV} {F:List UInt8} (g:Bs H nx x F):Bs (Go.Sx.look H nx ⟨[],[]⟩) nx x F:=
 g.mono (fun id hid=>by simp [Go.Sx.look,findU,hid]) (Nat.le_refl _)
theorem Bs.ids {H:Heap} {nx:Nat} {x:LV} {F:List UInt8} (g:Bs H nx x F) : ∀ i∈Go.Sx.ids x,i<nx:=by
 cases g with
 | nil=>simp [Go.Sx.ids]
 | sl _ fl=>simp [Go.Sx.ids]
 | arr _ G id off cp ex h1 h2 h3 h4=>simp [Go.Sx.ids,h2]
end Go.Proofs.YtoeblkipfdnnlaaGreatDoor
end

section
namespace Go.Proofs.YtoeblkipfdnnlaaGreatDoor
open Go Go.Sx
inductive Ini (H:Heap) (nx:Nat):LV→List UInt8→Prop
 | nil:Ini H nx (.p (.s (.slice none 0 0))) []
 | sl (F:List UInt8):Ini H nx (.p (.sl (bytP F) F.length 1 true)) F
 | arr (F G:List UInt8) (id off:Nat):H id=some (.cells (byt G))→id<nx→off+F.length≤G.length→(G.drop off).take F.length=F→Ini H nx (.arr id off F.length 1 F.length true) F
def Rdy (c:Ctx) (x:LV) (h:Hp) (q:List UInt8):Prop:=∀ b:UInt8,∃ h'' t m,appO c (push h (.cells [.int .u8 b.toNat])) 1 1 x (.arr (c.nx+h.new.length) 0 1 1 1 true)=some ⟨.arr (c.nx+(h.new.length+1)) 0 (q.length+1) 1 (q.length+1) false,h'',t,m⟩ ∧
 Go.Sx.look c.H c.nx h'' (c.nx+(h.new.length+1))=some (.cells (byt (q++[b])))∧h''.upd=[]∧h''.new.length=h.new.length+2
section num
variable {c:Ctx}
theorem Ini.rdy {x:LV} {q:List UInt8} (g:Ini c.H c.nx x q) (h30:q.length<2^31):Rdy c x ⟨[],[]⟩ q:=by
 intro b
 have q41 : ¬1099511627776<q.length+1:=by omega
 have q41':q.length+1≤1099511627776:=by omega
 have z:c.nx+0=c.nx:=rfl
 cases g with
 | nil=>exact ⟨push (push ⟨[],[]⟩ (.cells [.int .u8 b.toNat])) (.cells (byt ([]++[b]))),_,_,by simp [appO,slCells,Go.Sx.look,push,ltF,byt];exact ⟨rfl,rfl⟩,by simp [Go.Sx.look,push,ltF],rfl,rfl⟩
 | sl=>exact ⟨push (push ⟨[],[]⟩ (.cells [.int .u8 b.toNat])) (.cells (byt (q++[b]))),_,_,by simp [appO,slCells,Go.Sx.look,push,ltF,aJ,ak,bO,cj,dR,q41,q41'];exact ⟨rfl,rfl⟩,by simp [Go.Sx.look,push,ltF],rfl,rfl⟩
 | arr _ G id off h1 h2 h3 h4=>
  have h3' : ¬G.length<off+q.length:=by omega
  exact ⟨push (push ⟨[],[]⟩ (.cells [.int .u8 b.toNat])) (.cells (byt (q++[b]))),_,_,by simp [appO,slCells,Go.Sx.look,push,ltF,h2,findU,h1,ax,mC,mD,h4,bO,cj,dR,q41,q41',h3',h3];exact ⟨rfl,rfl⟩,by simp [Go.Sx.look,push,ltF],rfl,rfl⟩
theorem qx {i:Nat} {h:Hp} {q:List UInt8} (hi:Go.Sx.look c.H c.nx h i=some (.cells (byt q))) (hlt:i<c.nx+h.new.length) (hge:c.nx≤i) (hu:h.upd=[]) (h30:q.length<2^31):Rdy c (.arr i 0 q.length 1 q.length false) h q:=by
 intro b
 have ha:=AN (c:=c) (h:=push h (.cells [.int .u8 b.toNat])) (q:=q) (i:=i) (j:=c.nx+h.new.length) (ex:=false) (b:=b)
  (by rw [nz _ _ _ _ _ hlt];exact hi) (sv _ _ _ _) h30
 have hl:(push h (.cells [.int .u8 b.toNat])).new.length=h.new.length+1:=by simp [push]
 rw [hl] at ha
 obtain ⟨f1,f2,f3⟩:=su (c:=c) (h:=h) (i:=i) (ex:=false) (o:=.cells [.int .u8 b.toNat]) (p:=.cells (byt (q++[b]))) (.inr hge) hu
 exact ⟨_,_,_,ha,f1,f2,f3⟩
theorem sy {N:Nat} {h:Hp} {x:LV} {q:List UInt8} {n:Nat} (hn:128≤n) (g:Rdy c x h q) (h30:q.length+1<2^31):
  ∃ h'',runCS c N ir116_0 ⟨[(0,x),(1,.int .u64 n)],h⟩=some (.normal,⟨[(0,.arr (c.nx+(h.new.length+1)) 0 (q.length+1) 1 (q.length+1) false),(1,.int .u64 (n/128:Nat))],h''⟩) ∧
   Rdy c (.arr (c.nx+(h.new.length+1)) 0 (q.length+1) 1 (q.length+1) false) h'' (q++[UInt8.ofNat (n%128+128)]):=by
 have hn':(128:Int)≤n:=by omega
 obtain ⟨h'',t,m,ha,h1,h2,h3⟩:=g (UInt8.ofNat (n%128+128))
 have hb:=v6 n
 refine ⟨h'',?_,?_⟩
 ·generalize UInt8.ofNat (n%128+128)=b at*
  simp [ir116_0,ssB,ssU,Go.Sx.LV.undef,Go.undef,Go.Sx.callO,Go.Sx.splice,Go.Sx.finish,Go.Sx.setAll,Go.Sx.leI_eq,ltF,hn',hb,ha,AX]
 ·have:=qx h1 (by rw [h3];omega) (by omega) h2 (by simp;omega)
  simpa using this
theorem sx {N:Nat} : ∀ (k n:Nat),k=(vnum n).length→∀ (m:Nat) (h:Hp) (q:List UInt8) (x:LV),k<m→Rdy c x h q→q.length+k<2^31 →
  ∃ (h':Hp) (q':List UInt8) (x':LV) (n':Nat),iter (runCS c N ir116_0) m ⟨[(0,x),(1,.int .u64 n)],h⟩=
   some (.exit 0,⟨[(0,x'),(1,.int .u64 n'),(12,.bool false)],h'⟩)∧q'++[UInt8.ofNat n']=q++vnum n∧Rdy c x' h' q':=by
 intro k
 induction k with
 | zero=>intro n hk;have:=gO n;omega
 | succ k ih=>
  intro n hk m h q x hm g hq
  obtain ⟨m,rfl⟩ : ∃ r,m=r+1:=⟨m-1,by omega⟩
  by_cases hn:n<128
  ·exact ⟨h,q,x,n,bc (wU hn) (by simp),by rw [bV hn],g⟩
  ·obtain ⟨h'',e1,g'⟩:=sy (N:=N) (n:=n) (by omega) g (by omega)
   rw [bg e1]
   have hv:=fy hn
   rw [hv,List.length_cons] at hk
   obtain ⟨h',q',x',n',e2,e3,e4⟩:=ih (n/128) (by omega) m _ _ _ (by omega) g' (by simp;omega)
   exact ⟨h',q',x',n',e2,by rw [e3,hv];simp,e4⟩
end num
theorem uE {H:Heap} {nx:Nat} {x:LV} {q:List UInt8} (g:Bs H nx x q) (n:Nat) (h64:n<2^64) (hq:q.length<2^30):
  Ω 116 [x,.int .u64 n] H nx=some (.arr nx 0 (q++vnum n).length 1 (q++vnum n).length false,[],[some (.cells (byt (q++vnum n)))]):=by
 refine av (ir:=ir116) (by kernel_rfl) 11 ?_
 have hv:=cK n h64
 have fin : ∀ y,Ini H nx y q→∃ h' q' x' n',iter (runCS ⟨Ω,gG,H,nx⟩ 11 ir116_0) 11 ⟨[(0,y),(1,.int .u64 n)],⟨[],[]⟩⟩=some (.exit 0,⟨[(0,x'),(1,.int .u64 (n':Nat)),(12,.bool false)],h'⟩)∧q'++[UInt8.ofNat n']=q++vnum n∧Rdy ⟨Ω,gG,H,nx⟩ x' h' q':=by
  intro y hy
  obtain ⟨h',q',x',n',e1,e2,e3⟩:=sx (c:=⟨Ω,gG,H,nx⟩) (N:=11) _ n rfl 11 ⟨[],[]⟩ q y (by omega) (Ini.rdy hy (by omega)) (by omega)
  exact ⟨h',q',x',n',e1,e2,e3⟩
 have tl : ∀ y,Ini H nx y q→∃ (h':Hp) (x':LV) (n':Nat) (h'':Hp) (t:List Nat) (m:Bool),iter (runCS ⟨Ω,gG,H,nx⟩ 11 ir116_0) 11 ⟨[(0,y),(1,.int .u64 n)],⟨[],[]⟩⟩=some (.exit 0,⟨[(0,x'),(1,.int .u64 (n':Nat)),(12,.bool false)],h'⟩) ∧
   appO ⟨Ω,gG,H,nx⟩ (push h' (.cells [.int .u8 (IntKind.u8.wrap (n':Int))])) 1 1 x' (.arr (nx+h'.new.length) 0 1 1 1 true)=some ⟨.arr (nx+(h'.new.length+1)) 0 (q++vnum n).length 1 (q++vnum n).length false,h'',t,m⟩ ∧
   finish true H nx (.arr (nx+(h'.new.length+1)) 0 (q++vnum n).length 1 (q++vnum n).length false) h''=some (.arr nx 0 (q++vnum n).length 1 (q++vnum n).length false,[],[some (.cells (byt (q++vnum n)))]):=by
  intro y hy
  obtain ⟨h',q',x',n',e1,e2,e3⟩:=fin y hy
  obtain ⟨h'',t,m,a1,a2,a3,a4⟩:=e3 (UInt8.ofNat n')
  have hlen:q'.length+1=(q++vnum n).length:=by rw [←e2];simp
  rw [hlen,←iZ n'] at a1
  rw [e2] at a2
  exact ⟨h',x',n',h'',t,m,e1,a1,fL a3 (Nat.le_add_right _ _) a2⟩
 generalize q++vnum n=Q at*
 cases g with
 | nil=>
  obtain ⟨h',x',n',h'',t,m,e1,e2,e3⟩:=tl _ .nil
  simp [ir116,ssB,ssU,Go.Sx.LV.undef,Go.undef,aq,ao,ae,Go.Sx.splice,Go.Sx.leI_eq,ltF,e1,e2,e3]
 | sl _ fl=>
  obtain ⟨h',x',n',h'',t,m,e1,e2,e3⟩:=tl _ (.sl q)
  have tk:List.take q.length (bytP q)=bytP q:=by rw [←ak,List.take_length]
  simp [ir116,ssB,ssU,Go.Sx.LV.undef,Go.undef,aq,ao,ae,Go.Sx.splice,Go.Sx.leI_eq,ltF,ak,tk,e1,e2,e3]
 | arr _ G id off cp ex h1 h2 h3 h4=>
  obtain ⟨h',x',n',h'',t,m,e1,e2,e3⟩:=tl _ (.arr q G id off h1 h2 h3 h4)
  simp [ir116,ssB,ssU,Go.Sx.LV.undef,Go.undef,aq,ao,ae,Go.Sx.splice,Go.Sx.leI_eq,ltF,h1,h2,e1,e2,e3]
end Go.Proofs.YtoeblkipfdnnlaaGreatDoor
end

section
namespace Go.Sx
open Go
def bindK {α β:Type} (o:Option α) (f:α→Option β):Option β:=match o with
 | some x=>f x
 | none=>none
@[congr] theorem bindK_congr {α β:Type} {o o':Option α} {f:α→Option β} (h:o=o'):bindK o f=bindK o' f:=by rw [h]
theorem aE {α β:Type} (x:α) (f:α→Option β):bindK (some x) f=f x:=rfl
theorem dQ {α β:Type} (f:α→Option β):bindK none f=none:=rfl
theorem eT {α β:Type} (p:Prop) [Decidable p] (a b:Option α) (f:α→Option β):bindK (if p then a else b) f=if p then bindK a f else bindK b f:=by split<;>rfl
def wsel {α:Type} (o:Option Bool) (a b:Option α):Option α:=match o with
 | some true=>a
 | some false=>b
 | none=>none
@[congr] theorem wsel_congr {α:Type} {o o':Option Bool} {a b:Option α} (h:o=o'):wsel o a b=wsel o' a b:=by rw [h]
theorem fC {α:Type} (a b:Option α):wsel (some true) a b=a:=rfl
theorem er {α:Type} (a b:Option α):wsel (some false) a b=b:=rfl
theorem fB {α:Type} (a b:Option α):wsel none a b=none:=rfl
theorem fA {α:Type} (x:Bool) (a b:Option α):wsel (some x) a b=if x=true then a else b:=by cases x<;>rfl
def seqK (p:Ex × St) (k:St→Option (Ex × St)):Option (Ex × St):=match p with
 | (.normal,st)=>k st
 | r=>some r
@[congr] theorem seqK_congr {p p':Ex × St} {k:St→Option (Ex × St)} (h:p=p'):seqK p k=seqK p' k:=by rw [h]
theorem aA (st:St) (k:St→Option (Ex × St)):seqK (.normal,st) k=k st:=rfl
theorem fo (j:Nat) (st:St) (k:St→Option (Ex × St)):seqK (.exit j,st) k=some (.exit j,st):=rfl
theorem gJ (st:St) (k:St→Option (Ex × St)):seqK (.ret,st) k=some (.ret,st):=rfl
theorem fp (j:Nat) (st:St) (k:St→Option (Ex × St)):seqK (.goto j,st) k=some (.goto j,st):=rfl
def blkK (id:Nat) (p:Ex × St):Option (Ex × St):=match p with
 | (.exit j,st)=>if j=id then some (.normal,st) else some (.exit j,st)
 | r=>some r
theorem c9 (id:Nat) (st:St):blkK id (.normal,st)=some (.normal,st):=rfl
theorem eV (id j:Nat) (st:St):blkK id (.exit j,st)=if j=id then some (.normal,st) else some (.exit j,st):=rfl
theorem gl (id:Nat) (st:St):blkK id (.ret,st)=some (.ret,st):=rfl
theorem eW (id j:Nat) (st:St):blkK id (.goto j,st)=some (.goto j,st):=rfl
def finK (f:IRF) (H:Heap) (nx:Nat) (p:Ex × St):Option (LV × Upd × List (Option Obj)):=match p with
 | (.exit _,_)=>none
 | (.goto _,_)=>none
 | (_,st)=>match resVs H nx st f.results with
  | some l=>finish f.own H nx (oneL l) st.h
  | none=>none
theorem eB (f:IRF) (H:Heap) (nx:Nat) (st:St):finK f H nx (.normal,st)=match resVs H nx st f.results with
  | some l=>finish f.own H nx (oneL l) st.h
  | none=>none:=rfl
theorem jy (f:IRF) (H:Heap) (nx:Nat) (st:St):finK f H nx (.ret,st)=match resVs H nx st f.results with
  | some l=>finish f.own H nx (oneL l) st.h
  | none=>none:=rfl
theorem gw (env:Env):keep [] env=[]:=rfl
theorem e9 (t:Nat) (l:List Nat) (env:Env):keep (t::l) env=(t,get env t)::keep l env:=rfl
def condU (x:Bool) (v:LV):LV:=if x then v else .undef
theorem dU (v:LV):condU true v=v:=rfl
theorem db (v:LV):condU false v = .undef:=rfl
def gd (b x:Bool):Bool:=x==b
theorem pX:gd true true=true:=rfl
theorem pW:gd true false=false:=rfl
theorem pV:gd false true=false:=rfl
theorem pU:gd false false=true:=rfl
section
variable {β:Type}
def wselV (v:LV) (b:Bool) (E:Option Res) (K:LV→Hp→Option β) (h:Hp):Option β:=match v with
 | .p (.s (.bool x))=>if x==b then bindK E fun x=>K x.v x.h else K .undef h
 | .p (.s (.tuple _))=>K .undef h
 | _=>none
@[congr] theorem wselV_congr {v v':LV} {b:Bool} {E:Option Res} {K:LV→Hp→Option β} {h:Hp} (e:v=v'):wselV v b E K h=wselV v' b E K h:=by rw [e]
def wselG (g:Option (Nat × Bool)) (env:Env) (E:Option Res) (K:LV→Hp→Option β) (h:Hp):Option β:=match g with
 | none=>bindK E fun x=>K x.v x.h
 | some (t,b)=>wselV (get env t) b E K h
def wsel1 (x:Bool) (E:Option Res) (K:LV→Hp→Option β) (h:Hp):Option β:=if x then bindK E fun x=>K x.v x.h else K .undef h
def wsel2 (x y:Bool) (E:Option Res) (K:LV→Hp→Option β) (h:Hp):Option β:=if x&&y then bindK E fun x=>K x.v x.h else K .undef h
def wsel3 (x y z:Bool) (E:Option Res) (K:LV→Hp→Option β) (h:Hp):Option β:=if x&&(y&&z) then bindK E fun x=>K x.v x.h else K .undef h
@[congr] theorem wsel1_congr {x x':Bool} {E E':Option Res} {K:LV→Hp→Option β} {h:Hp} (hx:x=x') (hE:x'=true→E=E'):wsel1 x E K h=wsel1 x' E' K h:=by
 subst hx
 cases x with
 | false=>rfl
 | true=>rw [hE rfl]
@[congr] theorem wsel2_congr {x x' y y':Bool} {E E':Option Res} {K:LV→Hp→Option β} {h:Hp} (hx:x=x') (hy:y=y') (hE:x'=true→y'=true→E=E'):wsel2 x y E K h=wsel2 x' y' E' K h:=by
 subst hx hy
 cases x
 ·rfl
 ·cases y
  ·rfl
  ·rw [hE rfl rfl]
@[congr] theorem wsel3_congr {x x' y y' z z':Bool} {E E':Option Res} {K:LV→Hp→Option β} {h:Hp} (hx:x=x') (hy:y=y') (hz:z=z') (hE:x'=true→y'=true→z'=true→E=E'):wsel3 x y z E K h=wsel3 x' y' z' E' K h:=by
 subst hx hy hz
 cases x
 ·rfl
 ·cases y
  ·rfl
  ·cases z
   ·rfl
   ·rw [hE rfl rfl rfl]
theorem ei (env:Env) (E:Option Res) (K:LV→Hp→Option β) (h:Hp):wselG none env E K h=bindK E fun x=>K x.v x.h:=rfl
theorem ej (t:Nat) (b:Bool) (env:Env) (E:Option Res) (K:LV→Hp→Option β) (h:Hp):wselG (some (t,b)) env E K h=wselV (get env t) b E K h:=rfl
theorem ek (x b:Bool) (E:Option Res) (K:LV→Hp→Option β) (h:Hp):wselV (.p (.s (.bool x))) b E K h=wsel1 (gd b x) E K h:=rfl
theorem dn (a:Array Value) (b:Bool) (E:Option Res) (K:LV→Hp→Option β) (h:Hp):wselV (.p (.s (.tuple a))) b E K h=K .undef h:=rfl
theorem eo (y x b:Bool) (E:Option Res) (K:LV→Hp→Option β) (h:Hp):wselV (condU y (.p (.s (.bool x)))) b E K h=wsel2 y (gd b x) E K h:=by cases y<;>rfl
theorem dm (y z x b:Bool) (E:Option Res) (K:LV→Hp→Option β) (h:Hp):wselV (condU y (condU z (.p (.s (.bool x))))) b E K h=wsel3 y z (gd b x) E K h:=by cases y<;>cases z<;>rfl
theorem ef (E:Option Res) (K:LV→Hp→Option β) (h:Hp):wsel1 true E K h=bindK E fun x=>K x.v x.h:=rfl
theorem dk (E:Option Res) (K:LV→Hp→Option β) (h:Hp):wsel1 false E K h=K .undef h:=rfl
theorem i5 (x:Bool) (E:Option Res) (K:LV→Hp→Option β) (h:Hp):wsel2 true x E K h=wsel1 x E K h:=rfl
theorem i6 (x:Bool) (E:Option Res) (K:LV→Hp→Option β) (h:Hp):wsel2 x true E K h=wsel1 x E K h:=by cases x<;>rfl
theorem gR (x:Bool) (E:Option Res) (K:LV→Hp→Option β) (h:Hp):wsel2 false x E K h=K .undef h:=rfl
theorem gS (x:Bool) (E:Option Res) (K:LV→Hp→Option β) (h:Hp):wsel2 x false E K h=K .undef h:=by cases x<;>rfl
theorem i7 (x y:Bool) (E:Option Res) (K:LV→Hp→Option β) (h:Hp):wsel3 true x y E K h=wsel2 x y E K h:=rfl
theorem i8 (x y:Bool) (E:Option Res) (K:LV→Hp→Option β) (h:Hp):wsel3 x true y E K h=wsel2 x y E K h:=by cases x<;>cases y<;>rfl
theorem i9 (x y:Bool) (E:Option Res) (K:LV→Hp→Option β) (h:Hp):wsel3 x y true E K h=wsel2 x y E K h:=by cases x<;>cases y<;>rfl
theorem ja (x y:Bool) (E:Option Res) (K:LV→Hp→Option β) (h:Hp):wsel3 x y false E K h=K .undef h:=by cases x<;>cases y<;>rfl
theorem ee (x:Bool) (v:LV) (t:List Nat) (m:Bool) (K:LV→Hp→Option β) (h:Hp):wsel1 x (some ⟨v,h,t,m⟩) K h=K (condU x v) h:=by cases x<;>rfl
theorem eg (x y:Bool) (v:LV) (t:List Nat) (m:Bool) (K:LV→Hp→Option β) (h:Hp):wsel2 x y (some ⟨v,h,t,m⟩) K h=K (condU x (condU y v)) h:=by cases x<;>cases y<;>rfl
theorem eh (x y z:Bool) (v:LV) (t:List Nat) (m:Bool) (K:LV→Hp→Option β) (h:Hp):wsel3 x y z (some ⟨v,h,t,m⟩) K h=K (condU x (condU y (condU z v))) h:=by cases x<;>cases y<;>cases z<;>rfl
end
def pickV (t:Bool) (x y:LV):LV:=if t then x else y
theorem dY (x y:LV):pickV true x y=x:=rfl
theorem de (x y:LV):pickV false x y=y:=rfl
theorem gA (t a b:Bool):pickV t (.p (.s (.bool a))) (.p (.s (.bool b))) = .p (.s (.bool (bif t then a else b))):=by cases t<;>rfl
theorem fh (t a b:Bool):pickV t (condU (gd true t) (.p (.s (.bool a)))) (.p (.s (.bool b))) = .p (.s (.bool (bif t then a else b))):=by cases t<;>rfl
theorem gB (t a b:Bool):pickV t (.p (.s (.bool a))) (condU (gd false t) (.p (.s (.bool b)))) = .p (.s (.bool (bif t then a else b))):=by cases t<;>rfl
def pickO (c x y:LV) (h:Hp):Option Res:=match c with
 | .p (.s (.bool t))=>some ⟨pickV t x y,h,[],false⟩
 | _=>none
theorem dX (t:Bool) (x y:LV) (h:Hp):pickO (.p (.s (.bool t))) x y h=some ⟨pickV t x y,h,[],false⟩:=rfl
theorem eX (c:Ctx) (dr:Bool) (env:Env) (h:Hp) (b x y:Opd):evOp c dr env h (.pick b x y)=pickO (opd c env b) (opd c env x) (opd c env y) h:=by
 simp only [evOp]
 rfl
theorem wI (p:Prop) [Decidable p] (a b:Bool) (u:Upd) (n:List (Option Obj)):(if p then some ((.p (.s (.bool a)):LV),u,n) else some (.p (.s (.bool b)),u,n))=some (.p (.s (.bool (if p then a else b))),u,n):=by split<;>rfl
theorem j9 (c:Ctx) (o:IROper) (r:List IROper) (env:Env) (h:Hp):runOpsS c (o::r) env h=
  wselG o.guard env (evOp c false env h o.op) (fun v h'=>runOpsS c r (putD env o.dst v) h') h:=by
 rw [ea]
 cases hg:o.guard with
 | none=>simp only [wants,wselG,bindK];cases evOp c false env h o.op<;>rfl
 | some q=>
  obtain ⟨t,b⟩:=q
  simp only [wants,wselG,wselV]
  generalize get env t=v
  cases v with
  | p x=>
   cases x with
   | s w=>
    cases w with
    | bool x=>cases x<;>cases b<;>first|rfl|(cases evOp c false env h o.op<;>rfl)
    | _=>rfl
   | _=>rfl
  | _=>rfl
theorem cC (c:Ctx) (d:Option Nat) (op:IROp) (g:Option (Nat × Bool)) (r:List IROper) (env:Env) (h:Hp):runOpsS c (⟨d,op,g⟩::r) env h=
  wselG g env (evOp c false env h op) (fun v h'=>runOpsS c r (putD env d v) h') h:=j9 c ⟨d,op,g⟩ r env h
theorem cm (c:Ctx) (o:IROper) (r:List IROper) (env:Env) (h:Hp):runOpsTS c (o::r) env h=
  wsel (wants env o.guard) (bindK (evOp c true env h o.op) fun x=>bindK (runOpsTS c r (putD env o.dst x.v) x.h) fun q=>some (⟨x.tch,x.md,c.nx+h.new.length,c.nx+x.h.new.length,o.op.slots++gslot o.guard,o.dst⟩::q.1,q.2))
   (bindK (runOpsTS c r (putD env o.dst .undef) h) fun q=>some (⟨[],false,c.nx+h.new.length,c.nx+h.new.length,gslot o.guard,o.dst⟩::q.1,q.2)):=by
 rw [dq]
 cases wants env o.guard with
 | none=>rfl
 | some b=>
  cases b with
  | false=>
   simp only [wsel,bindK]
   cases runOpsTS c r (putD env o.dst .undef) h with
   | none=>rfl
   | some q=>obtain ⟨a,b,d⟩:=q;rfl
  | true=>
   simp only [wsel]
   cases evOp c true env h o.op with
   | none=>rfl
   | some x=>
    simp only [bindK]
    cases runOpsTS c r (putD env o.dst x.v) x.h with
    | none=>rfl
    | some q=>obtain ⟨a,b,d⟩:=q;rfl
section
variable (c:Ctx) (n:Nat) (st:St)
theorem fX (ops:List IROper) (live:List Nat):runCS c n (.region ops none live) st=bindK (runOpsS c ops st.env st.h) fun p=>some (.normal,⟨keep live p.1,p.2⟩):=by
 rw [ii]
 unfold bindK
 cases runOpsS c ops st.env st.h with
 | none=>rfl
 | some p=>rfl
theorem eJ (ops:List IROper) (before live:List Nat):runCS c n (.region ops (some before) live) st=bindK (runOpsTS c ops st.env st.h) fun q=>if indepD q.1 before then some (.normal,⟨keep live q.2.1,q.2.2⟩) else none:=by
 rw [fW]
 unfold bindK
 cases runOpsTS c ops st.env st.h with
 | none=>rfl
 | some p=>rfl
theorem jU (a b:IRC):runCS c n (.seq a b) st=bindK (runCS c n a st) fun p=>seqK p fun st'=>runCS c n b st':=by
 rw [cz]
 unfold bindK seqK
 cases runCS c n a st with
 | none=>rfl
 | some p=>obtain ⟨e,s⟩:=p;cases e<;>rfl
theorem cN (id:Nat) (a:IRC):runCS c n (.block id a) st=bindK (runCS c n a st) (blkK id):=by
 rw [dh]
 unfold bindK blkK
 cases runCS c n a st with
 | none=>rfl
 | some p=>obtain ⟨e,s⟩:=p;cases e<;>rfl
end
def condK (v:LV) (a b:Option (Ex × St)):Option (Ex × St):=match v with
 | .p (.s (.bool t))=>if t then a else b
 | _=>none
@[congr] theorem condK_congr {v v':LV} {a b:Option (Ex × St)} (h:v=v'):condK v a b=condK v' a b:=by rw [h]
theorem dT (a b:Option (Ex × St)):condK (.p (.s (.bool true))) a b=a:=rfl
theorem da (a b:Option (Ex × St)):condK (.p (.s (.bool false))) a b=b:=rfl
def iteK {α:Type} (t:Bool) (a b:α):α:=if t then a else b
@[congr] theorem iteK_congr {α:Type} {t t':Bool} {a a' b b':α} (h:t=t') (ha:a=a') (hb:b=b'):iteK t a b=iteK t' a' b':=by rw [h,ha,hb]
theorem cQ {α:Type} (a b:α):iteK true a b=a:=rfl
theorem cx {α:Type} (a b:α):iteK false a b=b:=rfl
theorem lJ (t a b:Bool) (u:Upd) (n:List (Option Obj)):iteK t (some ((.p (.s (.bool a)):LV),u,n)) (some (.p (.s (.bool b)),u,n))=some (.p (.s (.bool (bif t then a else b))),u,n):=by cases t<;>rfl
theorem eZ {α:Type} (t:Bool) (a:α):iteK t a a=a:=by cases t<;>rfl
theorem dP {α β:Type} (t:Bool) (a b:Option α) (f:α→Option β):bindK (iteK t a b) f=iteK t (bindK a f) (bindK b f):=by cases t<;>rfl
theorem dS (t:Bool) (a b:Option (Ex × St)):condK (.p (.s (.bool t))) a b=iteK t a b:=rfl
theorem eI (c:Ctx) (n:Nat) (st:St) (x:Opd) (a b:IRC):runCS c n (.cond x a b) st=condK (opd c st.env x) (runCS c n a st) (runCS c n b st):=by rw [fV];rfl
theorem runF_I (O:Oracle) (G:Nat→Option (List PV)) (n:Nat) (f:IRF) (args:List LV) (H:Heap) (nx:Nat):runF O G n f args H nx=
  if args.length=f.params.length then bindK (runCS ⟨O,G,H,nx⟩ n f.body ⟨f.params.zip args,⟨[],[]⟩⟩) (finK f H nx) else none:=by
 rw [runF_S]
 unfold bindK finK
 split
 ·cases runCS ⟨O,G,H,nx⟩ n f.body ⟨f.params.zip args,⟨[],[]⟩⟩ with
  | none=>rfl
  | some p=>obtain ⟨e,s⟩:=p;cases e<;>rfl
 ·rfl
def rsC:Nat→IRC→IRC
 | 0,a=>a
 | n+1,.seq _ b=>rsC n b
 | _,a=>a
end Go.Sx
end

section
namespace Go.Proofs.YtoeblkipfdnnlaaGreatDoor
open Go Go.Sx
theorem eP (k:IntKind) (x y:Int):binI .eql k x y=some (.bool (decide (x=y))):=by rw [je,show (x==y)=decide (x=y) from by rw [Bool.eq_iff_iff];simp]
theorem eR (k:IntKind) (x y:Int):binI .neq k x y=some (.bool (!decide (x=y))):=by rw [jf,bne,show (x==y)=decide (x=y) from by rw [Bool.eq_iff_iff];simp]
theorem ssI:((((((((type_of% @Go.Sx.runF_I)∧((type_of% @d7)∧(type_of% @fX)))∧((type_of% @eJ)∧((type_of% @jU)∧(type_of% @eI))))∧(((type_of% @cN)∧((type_of% @cV)∧(type_of% @d5)))∧(((type_of% @di)∧(type_of% @d6))∧((type_of% @dj)∧(type_of% @d9)))))∧((((type_of% @Go.Sx.tidyR.eq_1)∧((type_of% @fj)∧(type_of% @cd)))∧((type_of% @cC)∧((type_of% @bQ)∧(type_of% @cm))))∧(((type_of% @Go.Sx.wants.eq_1)∧((type_of% @Go.Sx.wants.eq_2)∧(type_of% @Go.Sx.evOp.eq_def)))∧(((type_of% @Go.Sx.opd.eq_1)∧(type_of% @Go.Sx.opd.eq_2))∧((type_of% @Go.Sx.opd.eq_3)∧(type_of% @Go.Sx.get.eq_1))))))∧(((((type_of% @Go.Sx.get.eq_2)∧((type_of% @Go.Sx.putD.eq_1)∧(type_of% @Go.Sx.putD.eq_2)))∧((type_of% @Go.Sx.binL.eq_1)∧((type_of% @Go.Sx.binL.eq_2)∧(type_of% @Go.Sx.isSh.eq_1))))∧(((type_of% @Go.Sx.isSh.eq_2)∧((type_of% @Go.Sx.isSh.eq_3)∧(type_of% @du)))∧(((type_of% @dD)∧(type_of% @dC))∧((type_of% @eP)∧(type_of% @eR)))))∧((((type_of% @dB)∧((type_of% @dA)∧(type_of% @dz)))∧((type_of% @dw)∧((type_of% @Go.Sx.eqL.eq_1)∧(type_of% @Go.Sx.eqL.eq_2))))∧(((type_of% @Go.Sx.eqL.eq_3)∧((type_of% @Go.Sx.eqL.eq_4)∧(type_of% @Go.Sx.eqL.eq_5)))∧(((type_of% @Go.Sx.eqL.eq_6)∧(type_of% @Go.Sx.eqL.eq_7))∧((type_of% @Go.Sx.eqL.eq_8)∧(type_of% @Go.Sx.eqL.eq_9)))))))∧((((((type_of% @Go.Sx.eqL.eq_10)∧((type_of% @Go.Sx.eqL.eq_11)∧(type_of% @Go.Sx.eqL.eq_12)))∧((type_of% @Go.Sx.eqL.eq_13)∧((type_of% @Go.Sx.eqL.eq_14)∧(type_of% @fx))))∧(((type_of% @fw)∧((type_of% @Go.Sx.resVs.eq_1)∧(type_of% @Go.Sx.resVs.eq_2)))∧(((type_of% @Go.Sx.resV.eq_1)∧(type_of% @Go.Sx.resV.eq_2))∧((type_of% @Go.Sx.oneL.eq_1)∧(type_of% @Go.Sx.oneL.eq_2)))))∧((((type_of% @Go.Sx.frz.eq_1)∧((type_of% @Go.Sx.frz.eq_2)∧(type_of% @Go.Sx.frz.go.eq_1)))∧((type_of% @Go.Sx.frz.go.eq_2)∧((type_of% @frzL.eq_1)∧(type_of% @frzL.eq_2))))∧(((type_of% @frzL.eq_3)∧((type_of% @frzL.eq_4)∧(type_of% @frzL.eq_5)))∧(((type_of% @frzL.eq_6)∧(type_of% @frzL.go.eq_1))∧((type_of% @frzL.go.eq_2)∧(type_of% @Go.Sx.ids.eq_1))))))∧(((((type_of% @Go.Sx.ids.eq_2)∧((type_of% @Go.Sx.ids.eq_3)∧(type_of% @Go.Sx.ids.eq_4)))∧((type_of% @Go.Sx.ids.eq_5)∧((type_of% @Go.Sx.ids.eq_6)∧(type_of% @Go.Sx.ids.idsL.eq_1))))∧(((type_of% @Go.Sx.ids.idsL.eq_2)∧((type_of% @Go.Sx.updIds.eq_1)∧(type_of% @Go.Sx.updIds.eq_2)))∧(((type_of% @Go.Sx.updIds.eq_3)∧(type_of% @Go.Sx.reach.eq_1))∧((type_of% @Go.Sx.reach.eq_2)∧(type_of% @Go.Sx.reach.eq_3)))))∧((((type_of% @Go.Sx.ren.eq_1)∧((type_of% @Go.Sx.ren.eq_2)∧(type_of% @Go.Sx.ren.eq_3)))∧((type_of% @Go.Sx.ren.eq_4)∧((type_of% @Go.Sx.ren.eq_5)∧(type_of% @Go.Sx.ren.eq_6))))∧(((type_of% @Go.Sx.ren.eq_7)∧((type_of% @Go.Sx.ren.go.eq_1)∧(type_of% @Go.Sx.ren.go.eq_2)))∧(((type_of% @Go.Sx.renU.eq_1)∧(type_of% @Go.Sx.renU.eq_2))∧((type_of% @Go.Sx.renN.eq_1)∧(type_of% @Go.Sx.renN.eq_2))))))))∧(((((((type_of% @Go.Sx.renO.eq_1)∧((type_of% @Go.Sx.renO.eq_2)∧(type_of% @Go.Sx.renO.eq_3)))∧((type_of% @Go.Sx.renId.eq_1)∧((type_of% @Go.Sx.fillP.eq_1)∧(type_of% @Go.Sx.fillP.eq_2))))∧(((type_of% @Go.Sx.mkAgg.eq_1)∧((type_of% @Go.Sx.allP.eq_1)∧(type_of% @Go.Sx.allP.eq_2)))∧(((type_of% @Go.Sx.allP.eq_3)∧(type_of% @Go.Sx.LV.cells.eq_1))∧((type_of% @Go.Sx.LV.cells.eq_2)∧(type_of% @Go.Sx.LV.cells.eq_3)))))∧((((type_of% @Go.Sx.LV.cells.eq_4)∧((type_of% @Go.Sx.LV.cells.eq_5)∧(type_of% @Go.Sx.LV.cells.eq_6)))∧((type_of% @Go.Sx.rd.eq_1)∧((type_of% @Go.Sx.findU.eq_1)∧(type_of% @Go.Sx.findU.eq_2))))∧(((type_of% @slCells.eq_1)∧((type_of% @slCells.eq_2)∧(type_of% @slCells.eq_3)))∧(((type_of% @slCells.eq_4)∧(type_of% @sliceO.eq_1))∧((type_of% @sliceO.eq_2)∧(type_of% @sliceO.eq_3))))))∧(((((type_of% @Go.Value.oneCell'.eq_1)∧((type_of% @Go.Value.oneCell'.eq_2)∧(type_of% @Go.Value.oneCell'.eq_3)))∧((type_of% @Go.Sx.mmL.eq_1)∧((type_of% @Go.Sx.mmL.eq_2)∧(type_of% @Go.Sx.mm2.eq_1))))∧(((type_of% @Go.Sx.gslot.eq_1)∧((type_of% @Go.Sx.gslot.eq_2)∧(type_of% @IROp.slots.eq_1)))∧(((type_of% @IROp.slots.eq_2)∧(type_of% @IROp.slots.eq_3))∧((type_of% @IROp.slots.eq_4)∧(type_of% @IROp.slots.eq_5)))))∧((((type_of% @IROp.slots.eq_6)∧((type_of% @IROp.slots.eq_7)∧(type_of% @IROp.slots.eq_8)))∧((type_of% @IROp.slots.eq_9)∧((type_of% @IROp.slots.eq_10)∧(type_of% @IROp.slots.eq_11))))∧(((type_of% @IROp.slots.eq_12)∧((type_of% @IROp.slots.eq_13)∧(type_of% @IROp.slots.eq_14)))∧(((type_of% @IROp.slots.eq_15)∧(type_of% @IROp.slots.eq_16))∧((type_of% @IROp.slots.eq_17)∧(type_of% @IROp.slots.eq_18)))))))∧((((((type_of% @IROp.slots.eq_19)∧((type_of% @IROp.slots.eq_20)∧(type_of% @IROp.slots.eq_21)))∧((type_of% @IROp.slots.eq_22)∧((type_of% @IROp.slots.eq_23)∧(type_of% @IROp.slots.eq_24))))∧(((type_of% @IROp.slots.eq_25)∧((type_of% @IROp.slots.eq_26)∧(type_of% @IROp.slots.eq_27)))∧(((type_of% @IROp.slots.eq_28)∧(type_of% @IROp.slots.eq_29))∧((type_of% @IROp.slots.eq_30)∧(type_of% @IROp.slots.eq_31)))))∧((((type_of% @IROp.slots.eq_32)∧((type_of% @IROp.slots.eq_33)∧(type_of% @IROp.slots.eq_34)))∧((type_of% @IROp.slots.eq_35)∧((type_of% @IROp.slots.eq_36)∧(type_of% @IROp.slots.eq_37))))∧(((type_of% @IROp.slots.eq_38)∧((type_of% @Go.Sx.Opd.slots.eq_1)∧(type_of% @Go.Sx.Opd.slots.eq_2)))∧(((type_of% @Go.Sx.indepD.eq_1)∧(type_of% @Go.Sx.quickD.eq_1))∧((type_of% @Go.Sx.quickD.eq_2)∧(type_of% @Go.Sx.indepR.eq_1))))))∧(((((type_of% @Go.Sx.indepR.eq_2)∧((type_of% @Go.Sx.indepR.eq_3)∧(type_of% @Go.Sx.pairsD.eq_1)))∧((type_of% @Go.Sx.pairsD.eq_2)∧((type_of% @Go.Sx.apartD.eq_1)∧(type_of% @Nat.testBit.eq_1))))∧(((type_of% @Go.Sx.Obj.ids.eq_1)∧((type_of% @Go.Sx.Obj.ids.eq_2)∧(type_of% @Go.Sx.natL.eq_1)))∧(((type_of% @Go.Sx.optMap.eq_1)∧(type_of% @Go.Sx.optMap.eq_2))∧((type_of% @Go.undef.eq_1)∧(type_of% @ltF)))))∧((((type_of% @dU)∧((type_of% @db)∧(type_of% @pX)))∧(((type_of% @pW)∧(type_of% @pV))∧((type_of% @pU)∧(type_of% @dY))))∧(((type_of% @de)∧((type_of% @gA)∧(type_of% @fh)))∧(((type_of% @gB)∧(type_of% @wI))∧((type_of% @lJ)∧(type_of% @eZ))))))))):=
 ⟨⟨⟨⟨⟨⟨⟨@Go.Sx.runF_I,⟨@d7,@fX⟩⟩,⟨@eJ,⟨@jU,@eI⟩⟩⟩,⟨⟨@cN,⟨@cV,@d5⟩⟩,⟨⟨@di,@d6⟩,⟨@dj,@d9⟩⟩⟩⟩,⟨⟨⟨@Go.Sx.tidyR.eq_1,⟨@fj,@cd⟩⟩,⟨@cC,⟨@bQ,@cm⟩⟩⟩,⟨⟨@Go.Sx.wants.eq_1,⟨@Go.Sx.wants.eq_2,@Go.Sx.evOp.eq_def⟩⟩,⟨⟨@Go.Sx.opd.eq_1,@Go.Sx.opd.eq_2⟩,⟨@Go.Sx.opd.eq_3,@Go.Sx.get.eq_1⟩⟩⟩⟩⟩,⟨⟨⟨⟨@Go.Sx.get.eq_2,⟨@Go.Sx.putD.eq_1,@Go.Sx.putD.eq_2⟩⟩,⟨@Go.Sx.binL.eq_1,⟨@Go.Sx.binL.eq_2,@Go.Sx.isSh.eq_1⟩⟩⟩,⟨⟨@Go.Sx.isSh.eq_2,⟨@Go.Sx.isSh.eq_3,@du⟩⟩,⟨⟨@dD,@dC⟩,⟨@eP,@eR⟩⟩⟩⟩,⟨⟨⟨@dB,⟨@dA,@dz⟩⟩,⟨@dw,⟨@Go.Sx.eqL.eq_1,@Go.Sx.eqL.eq_2⟩⟩⟩,⟨⟨@Go.Sx.eqL.eq_3,⟨@Go.Sx.eqL.eq_4,@Go.Sx.eqL.eq_5⟩⟩,⟨⟨@Go.Sx.eqL.eq_6,@Go.Sx.eqL.eq_7⟩,⟨@Go.Sx.eqL.eq_8,@Go.Sx.eqL.eq_9⟩⟩⟩⟩⟩⟩,⟨⟨⟨⟨⟨@Go.Sx.eqL.eq_10,⟨@Go.Sx.eqL.eq_11,@Go.Sx.eqL.eq_12⟩⟩,⟨@Go.Sx.eqL.eq_13,⟨@Go.Sx.eqL.eq_14,@fx⟩⟩⟩,⟨⟨@fw,⟨@Go.Sx.resVs.eq_1,@Go.Sx.resVs.eq_2⟩⟩,⟨⟨@Go.Sx.resV.eq_1,@Go.Sx.resV.eq_2⟩,⟨@Go.Sx.oneL.eq_1,@Go.Sx.oneL.eq_2⟩⟩⟩⟩,⟨⟨⟨@Go.Sx.frz.eq_1,⟨@Go.Sx.frz.eq_2,@Go.Sx.frz.go.eq_1⟩⟩,⟨@Go.Sx.frz.go.eq_2,⟨@frzL.eq_1,@frzL.eq_2⟩⟩⟩,⟨⟨@frzL.eq_3,⟨@frzL.eq_4,@frzL.eq_5⟩⟩,⟨⟨@frzL.eq_6,@frzL.go.eq_1⟩,⟨@frzL.go.eq_2,@Go.Sx.ids.eq_1⟩⟩⟩⟩⟩,⟨⟨⟨⟨@Go.Sx.ids.eq_2,⟨@Go.Sx.ids.eq_3,@Go.Sx.ids.eq_4⟩⟩,⟨@Go.Sx.ids.eq_5,⟨@Go.Sx.ids.eq_6,@Go.Sx.ids.idsL.eq_1⟩⟩⟩,⟨⟨@Go.Sx.ids.idsL.eq_2,⟨@Go.Sx.updIds.eq_1,@Go.Sx.updIds.eq_2⟩⟩,⟨⟨@Go.Sx.updIds.eq_3,@Go.Sx.reach.eq_1⟩,⟨@Go.Sx.reach.eq_2,@Go.Sx.reach.eq_3⟩⟩⟩⟩,⟨⟨⟨@Go.Sx.ren.eq_1,⟨@Go.Sx.ren.eq_2,@Go.Sx.ren.eq_3⟩⟩,⟨@Go.Sx.ren.eq_4,⟨@Go.Sx.ren.eq_5,@Go.Sx.ren.eq_6⟩⟩⟩,⟨⟨@Go.Sx.ren.eq_7,⟨@Go.Sx.ren.go.eq_1,@Go.Sx.ren.go.eq_2⟩⟩,⟨⟨@Go.Sx.renU.eq_1,@Go.Sx.renU.eq_2⟩,⟨@Go.Sx.renN.eq_1,@Go.Sx.renN.eq_2⟩⟩⟩⟩⟩⟩⟩,⟨⟨⟨⟨⟨⟨@Go.Sx.renO.eq_1,⟨@Go.Sx.renO.eq_2,@Go.Sx.renO.eq_3⟩⟩,⟨@Go.Sx.renId.eq_1,⟨@Go.Sx.fillP.eq_1,@Go.Sx.fillP.eq_2⟩⟩⟩,⟨⟨@Go.Sx.mkAgg.eq_1,⟨@Go.Sx.allP.eq_1,@Go.Sx.allP.eq_2⟩⟩,⟨⟨@Go.Sx.allP.eq_3,@Go.Sx.LV.cells.eq_1⟩,⟨@Go.Sx.LV.cells.eq_2,@Go.Sx.LV.cells.eq_3⟩⟩⟩⟩,⟨⟨⟨@Go.Sx.LV.cells.eq_4,⟨@Go.Sx.LV.cells.eq_5,@Go.Sx.LV.cells.eq_6⟩⟩,⟨@Go.Sx.rd.eq_1,⟨@Go.Sx.findU.eq_1,@Go.Sx.findU.eq_2⟩⟩⟩,⟨⟨@slCells.eq_1,⟨@slCells.eq_2,@slCells.eq_3⟩⟩,⟨⟨@slCells.eq_4,@sliceO.eq_1⟩,⟨@sliceO.eq_2,@sliceO.eq_3⟩⟩⟩⟩⟩,⟨⟨⟨⟨@Go.Value.oneCell'.eq_1,⟨@Go.Value.oneCell'.eq_2,@Go.Value.oneCell'.eq_3⟩⟩,⟨@Go.Sx.mmL.eq_1,⟨@Go.Sx.mmL.eq_2,@Go.Sx.mm2.eq_1⟩⟩⟩,⟨⟨@Go.Sx.gslot.eq_1,⟨@Go.Sx.gslot.eq_2,@IROp.slots.eq_1⟩⟩,⟨⟨@IROp.slots.eq_2,@IROp.slots.eq_3⟩,⟨@IROp.slots.eq_4,@IROp.slots.eq_5⟩⟩⟩⟩,⟨⟨⟨@IROp.slots.eq_6,⟨@IROp.slots.eq_7,@IROp.slots.eq_8⟩⟩,⟨@IROp.slots.eq_9,⟨@IROp.slots.eq_10,@IROp.slots.eq_11⟩⟩⟩,⟨⟨@IROp.slots.eq_12,⟨@IROp.slots.eq_13,@IROp.slots.eq_14⟩⟩,⟨⟨@IROp.slots.eq_15,@IROp.slots.eq_16⟩,⟨@IROp.slots.eq_17,@IROp.slots.eq_18⟩⟩⟩⟩⟩⟩,⟨⟨⟨⟨⟨@IROp.slots.eq_19,⟨@IROp.slots.eq_20,@IROp.slots.eq_21⟩⟩,⟨@IROp.slots.eq_22,⟨@IROp.slots.eq_23,@IROp.slots.eq_24⟩⟩⟩,⟨⟨@IROp.slots.eq_25,⟨@IROp.slots.eq_26,@IROp.slots.eq_27⟩⟩,⟨⟨@IROp.slots.eq_28,@IROp.slots.eq_29⟩,⟨@IROp.slots.eq_30,@IROp.slots.eq_31⟩⟩⟩⟩,⟨⟨⟨@IROp.slots.eq_32,⟨@IROp.slots.eq_33,@IROp.slots.eq_34⟩⟩,⟨@IROp.slots.eq_35,⟨@IROp.slots.eq_36,@IROp.slots.eq_37⟩⟩⟩,⟨⟨@IROp.slots.eq_38,⟨@Go.Sx.Opd.slots.eq_1,@Go.Sx.Opd.slots.eq_2⟩⟩,⟨⟨@Go.Sx.indepD.eq_1,@Go.Sx.quickD.eq_1⟩,⟨@Go.Sx.quickD.eq_2,@Go.Sx.indepR.eq_1⟩⟩⟩⟩⟩,⟨⟨⟨⟨@Go.Sx.indepR.eq_2,⟨@Go.Sx.indepR.eq_3,@Go.Sx.pairsD.eq_1⟩⟩,⟨@Go.Sx.pairsD.eq_2,⟨@Go.Sx.apartD.eq_1,@Nat.testBit.eq_1⟩⟩⟩,⟨⟨@Go.Sx.Obj.ids.eq_1,⟨@Go.Sx.Obj.ids.eq_2,@Go.Sx.natL.eq_1⟩⟩,⟨⟨@Go.Sx.optMap.eq_1,@Go.Sx.optMap.eq_2⟩,⟨@Go.undef.eq_1,@ltF⟩⟩⟩⟩,⟨⟨⟨@dU,⟨@db,@pX⟩⟩,⟨⟨@pW,@pV⟩,⟨@pU,@dY⟩⟩⟩,⟨⟨@de,⟨@gA,@fh⟩⟩,⟨⟨@gB,@wI⟩,⟨@lJ,@eZ⟩⟩⟩⟩⟩⟩⟩⟩
theorem ssJ:((((((type_of% @aE)∧(type_of% @dQ))∧((type_of% @eT)∧((type_of% @fC)∧(type_of% @er))))∧(((type_of% @fB)∧((type_of% @fA)∧(type_of% @aA)))∧((type_of% @fo)∧((type_of% @gJ)∧(type_of% @fp)))))∧((((type_of% @c9)∧((type_of% @eV)∧(type_of% @gl)))∧((type_of% @eW)∧((type_of% @eB)∧(type_of% @jy))))∧(((type_of% @gw)∧((type_of% @e9)∧(type_of% @dT)))∧((type_of% @da)∧((type_of% @dS)∧(type_of% @ei))))))∧(((((type_of% @ej)∧(type_of% @ek))∧((type_of% @dn)∧((type_of% @eo)∧(type_of% @dm))))∧(((type_of% @ef)∧((type_of% @dk)∧(type_of% @i5)))∧((type_of% @i6)∧((type_of% @gR)∧(type_of% @gS)))))∧((((type_of% @i7)∧((type_of% @i8)∧(type_of% @i9)))∧((type_of% @ja)∧((type_of% @ee)∧(type_of% @eg))))∧(((type_of% @eh)∧((type_of% @eX)∧(type_of% @dX)))∧((type_of% @cQ)∧((type_of% @cx)∧(type_of% @dP))))))):=
 ⟨⟨⟨⟨⟨@aE,@dQ⟩,⟨@eT,⟨@fC,@er⟩⟩⟩,⟨⟨@fB,⟨@fA,@aA⟩⟩,⟨@fo,⟨@gJ,@fp⟩⟩⟩⟩,⟨⟨⟨@c9,⟨@eV,@gl⟩⟩,⟨@eW,⟨@eB,@jy⟩⟩⟩,⟨⟨@gw,⟨@e9,@dT⟩⟩,⟨@da,⟨@dS,@ei⟩⟩⟩⟩⟩,⟨⟨⟨⟨@ej,@ek⟩,⟨@dn,⟨@eo,@dm⟩⟩⟩,⟨⟨@ef,⟨@dk,@i5⟩⟩,⟨@i6,⟨@gR,@gS⟩⟩⟩⟩,⟨⟨⟨@i7,⟨@i8,@i9⟩⟩,⟨@ja,⟨@ee,@eg⟩⟩⟩,⟨⟨@eh,⟨@eX,@dX⟩⟩,⟨@cQ,⟨@cx,@dP⟩⟩⟩⟩⟩⟩
end Go.Proofs.YtoeblkipfdnnlaaGreatDoor
end

section
namespace Go.Sx
open Go
open Classical in
noncomputable def lim {α:Type} (f:Nat→Option α):Option α:=if h : ∃ r n,∀ m,n≤m→f m=some r then some h.choose else none
theorem ur {α:Type} {f:Nat→Option α} {r:α} (h:lim f=some r) : ∃ n,∀ m,n≤m→f m=some r:=by
 unfold lim at h
 split at h
 ·rename_i h1
  obtain rfl:=Option.some.inj h
  exact h1.choose_spec
 ·cases h
theorem uq {α:Type} {f:Nat→Option α} {r:α} {n:Nat} (h : ∀ m,n≤m→f m=some r):lim f=some r:=by
 have h1 : ∃ r n,∀ m,n≤m→f m=some r:=⟨r,n,h⟩
 unfold lim
 rw [dif_pos h1]
 obtain ⟨k,hk⟩:=h1.choose_spec
 have a1:=hk (max n k) (by omega)
 have a2:=h (max n k) (by omega)
 rw [a1] at a2
 exact a2
theorem fb {α:Type} (o:Option α):lim (fun _=>o)=o:=by
 cases o with
 | some r=>exact uq (n:=0) fun _ _=>rfl
 | none=>
  unfold lim
  rw [dif_neg]
  rintro ⟨r,n,h⟩
  cases h n (Nat.le_refl n)
theorem gx {α:Type} {a b:Option α} (h1 : ∀ r,a=some r→b=some r) (h2 : ∀ r,b=some r→a=some r):a=b:=by
 cases a with
 | some x=>exact (h1 x rfl).symm
 | none=>
  cases b with
  | none=>rfl
  | some y=>cases h2 y rfl
noncomputable def run (c:Ctx) (code:IRC) (st:St):Option (Ex × St):=lim fun n=>runC c n code st
theorem l9 {c:Ctx} {n:Nat} {code:IRC} {st:St} {r:Ex × St} (h:runC c n code st=some r) : ∃ M,∀ m,M≤m→runC c m code st=some r:=
 rf (Om:=fun _=>c.O) (fun _ _ _ _ _ h=>⟨0,fun _ _=>h⟩) h
theorem aX {c:Ctx} {n:Nat} {code:IRC} {st:St} {r:Ex × St} (h:runC c n code st=some r):run c code st=some r:=by
 obtain ⟨M,hM⟩:=l9 h
 exact uq hM
theorem bi {c:Ctx} {code:IRC} {st:St} {r:Ex × St} (h:run c code st=some r) : ∃ n,∀ m,n≤m→runC c m code st=some r:=ur h
noncomputable def runOpsQS:Ctx→Bool→List IROper→Env→Hp→Option (Env × Hp):=veil runOpsQ
theorem eK:runOpsQS=runOpsQ:=iY _
def quickK (fin:Bool) (h:Hp) (x:Option Res):Option Res:=bindK x fun x=>if (fin||quickR h x)=true then some x else none
theorem iH (fin:Bool) (h:Hp) (v:LV) (t:List Nat):quickK fin h (some ⟨v,h,t,false⟩)=some ⟨v,h,t,false⟩:=by simp [quickK,bindK,quickR]
theorem jR (h:Hp) (x:Option Res):quickK true h x=x:=by cases x<;>rfl
theorem iI (h h':Hp) (v:LV) (t:List Nat) (m:Bool):quickK false h (some ⟨v,h',t,m⟩)=if (!m||t.isEmpty)&&h'.new.length==h.new.length then some ⟨v,h',t,m⟩ else none:=rfl
theorem gF (c:Ctx) (fin:Bool) (env:Env) (h:Hp):runOpsQS c fin [] env h=some (env,h):=by rw [eK];rfl
theorem fF (c:Ctx) (fin:Bool) (d:Option Nat) (op:IROp) (g:Option (Nat × Bool)) (r:List IROper) (env:Env) (h:Hp):runOpsQS c fin (⟨d,op,g⟩::r) env h=
  wselG g env (quickK (fin&&r.isEmpty) h (evOp c true env h op)) (fun v h'=>runOpsQS c fin r (putD env d v) h') h:=by
 rw [eK]
 have key:(match evOp c true env h op with
   | some x=>if (fin&&r.isEmpty)||quickR h x then runOpsQ c fin r (putD env d x.v) x.h else none
   | none=>none)=bindK (quickK (fin&&r.isEmpty) h (evOp c true env h op)) fun x=>runOpsQ c fin r (putD env d x.v) x.h:=by
  unfold quickK bindK
  cases evOp c true env h op with
  | none=>rfl
  | some x=>
   simp only []
   by_cases hq:((fin&&r.isEmpty)||quickR h x)=true
   ·rw [if_pos hq,if_pos hq]
   ·rw [if_neg hq,if_neg hq]
 cases g with
 | none=>simp only [runOpsQ,wants,wselG];exact key
 | some q=>
  obtain ⟨t,b⟩:=q
  simp only [runOpsQ,wants,wselG,wselV]
  generalize get env t=v
  cases v with
  | p x=>
   cases x with
   | s w=>
    cases w with
    | bool x=>cases x<;>cases b<;>first|rfl|exact key
    | _=>rfl
   | _=>rfl
  | _=>rfl
section
variable (c:Ctx) (st:St)
theorem dL:run c .skip st=some (.normal,st):=aX (n:=0) rfl
theorem nY (id:Nat):run c (.exit id) st=some (.exit id,st):=aX (n:=0) rfl
theorem rk:run c .ret st=some (.ret,st):=aX (n:=0) rfl
theorem kS (l:Nat) (lv:List Nat):run c (.label l lv) st=some (.normal,st):=aX (n:=0) rfl
theorem nZ (l:Nat):run c (.goto l) st=some (.goto l,st):=aX (n:=0) rfl
theorem gH {x:IRC} (h : ∀ n,runC c n x st=runC c 0 x st):run c x st=runC c 0 x st:=by
 unfold run
 rw [show (fun n=>runC c n x st)=fun _=>runC c 0 x st from funext h,fb]
theorem rj (ops:List IROper) (live:List Nat):run c (.region ops none live) st=bindK (runOpsS c ops st.env st.h) fun p=>some (.normal,⟨keep live p.1,p.2⟩):=by
 rw [gH c st (fun _=>rfl),←fX c 0 st,aV]
theorem nX (ops:List IROper) (before live:List Nat):run c (.region ops (some before) live) st=bindK (runOpsTS c ops st.env st.h) fun q=>if indepD q.1 before then some (.normal,⟨keep live q.2.1,q.2.2⟩) else none:=by
 rw [gH c st (fun _=>rfl),←eJ c 0 st,aV]
theorem n5 (fin:Bool) (ops:List IROper) (live:List Nat):run c (.regq fin ops live) st=bindK (runOpsQS c fin ops st.env st.h) fun p=>some (.normal,⟨keep live p.1,p.2⟩):=by
 rw [gH c st (fun _=>rfl),eK]
 unfold bindK
 simp only [runC]
 cases runOpsQ c fin ops st.env st.h<;>rfl
theorem vo (k f:List Nat):run c (.tidy k f) st=match tidyR c.H c.nx (.tuple (k.map (get st.env))) (.tuple (f.map (get st.env))) st.h with
  | some (.tuple ks,.tuple fs,u,n)=>some (.normal,⟨k.zip ks++f.zip fs,⟨u,n⟩⟩)
  | _=>none:=by
 rw [gH c st (fun _=>rfl)];rfl
theorem iU (a b:IRC):run c (.seq a b) st=bindK (run c a st) fun p=>seqK p fun st'=>run c b st':=by
 refine gx (fun r h => ?_) fun r h => ?_
 ·obtain ⟨n,hn⟩:=bi h
  have:=hn n (Nat.le_refl _)
  simp only [runC] at this
  split at this
  ·rename_i st' h1
   rw [aX h1];exact aX this
  ·rename_i hne
   rw [aX this]
   obtain ⟨e,s⟩:=r
   cases e with
   | normal=>exact absurd this (hne s)
   | _=>rfl
 ·cases h1:run c a st with
  | none=>rw [h1] at h;cases h
  | some p=>
   rw [h1] at h
   obtain ⟨n1,hn1⟩:=bi h1
   obtain ⟨e,s⟩:=p
   cases e with
   | normal=>
    obtain ⟨n2,hn2⟩:=bi (show run c b s=some r from h)
    refine aX (n:=max n1 n2) ?_
    simp only [runC,hn1 (max n1 n2) (by omega),hn2 (max n1 n2) (by omega)]
   | _=>
    refine aX (n:=n1) ?_
    simp only [runC,hn1 n1 (Nat.le_refl _)]
    exact h
theorem nW (x:Opd) (a b:IRC):run c (.cond x a b) st=condK (opd c st.env x) (run c a st) (run c b st):=by
 have e : ∀ n,runC c n (.cond x a b) st=condK (opd c st.env x) (runC c n a st) (runC c n b st):=fun n=>by rw [←aV,eI]
 unfold run
 simp only [e]
 generalize opd c st.env x=v
 cases v with
 | p v=>
  cases v with
  | s v=>
   cases v with
   | bool t=>cases t<;>rfl
   | _=>exact fb none
  | _=>exact fb none
 | _=>exact fb none
theorem kR (id:Nat) (a:IRC):run c (.block id a) st=bindK (run c a st) (blkK id):=by
 refine gx (fun r h => ?_) fun r h => ?_
 ·obtain ⟨n,hn⟩:=bi h
  have:=hn n (Nat.le_refl _)
  rw [←aV,cN,aV] at this
  cases h1:runC c n a st with
  | none=>rw [h1] at this;cases this
  | some p=>rw [h1] at this;rw [aX h1];exact this
 ·cases h1:run c a st with
  | none=>rw [h1] at h;cases h
  | some p=>
   rw [h1] at h
   obtain ⟨n1,hn1⟩:=bi h1
   refine aX (n:=n1) ?_
   rw [←aV,cN,aV,hn1 n1 (Nat.le_refl _)]
   exact h
theorem qa {a:IRC} {n k:Nat} {r:Ex × St} (h:iter (runC c n a) k st=some r) : ∃ M,∀ m,M≤m→∀ k',k≤k'→iter (runC c m a) k' st=some r:=
 lL (g:=fun m=>runC c m a) (fun _ _ h=>l9 h) h
theorem ay (a:IRC):run c (.loop a) st=bindK (run c a st) fun p=>seqK p fun st'=>run c (.loop a) st':=by
 refine gx (fun r h => ?_) fun r h => ?_
 ·obtain ⟨n,hn⟩:=bi h
  have h2:=hn n (Nat.le_refl _)
  simp only [runC] at h2
  cases n with
  | zero=>cases h2
  | succ k=>
   simp only [iter] at h2
   split at h2
   ·rename_i st' h1
    rw [aX h1]
    obtain ⟨M,hM⟩:=qa c st' h2
    exact aX (n:=max M k) (by simp only [runC];exact hM _ (by omega) _ (by omega))
   ·rename_i hne
    rw [aX h2]
    obtain ⟨e,s⟩:=r
    cases e with
    | normal=>exact absurd h2 (hne s)
    | _=>rfl
 ·cases h1:run c a st with
  | none=>rw [h1] at h;cases h
  | some p=>
   rw [h1] at h
   obtain ⟨n1,hn1⟩:=bi h1
   obtain ⟨e,s⟩:=p
   cases e with
   | normal=>
    obtain ⟨n2,hn2⟩:=bi (show run c (.loop a) s=some r from h)
    have h2:=hn2 n2 (Nat.le_refl _)
    simp only [runC] at h2
    obtain ⟨M,hM⟩:=qa c s h2
    refine aX (n:=max n1 (max M n2)+1) ?_
    simp only [runC,iter,hn1 (max n1 (max M n2)+1) (by omega)]
    exact hM _ (by omega) _ (by omega)
   | _=>
    refine aX (n:=n1+1) ?_
    simp only [runC,iter,hn1 (n1+1) (by omega)]
    exact h
def gotK (l:Nat) (K:St→Option (Ex × St)):Ex × St→Option (Ex × St)
 | (.goto j,s)=>if j=l then K s else some (.goto j,s)
 | r=>some r
def scoK (l:Nat) (K:St→Option (Ex × St)):Ex × St→Option (Ex × St)
 | (.normal,s)=>K s
 | r=>gotK l K r
theorem nq {a:IRC} {l n k:Nat} {r:Ex × St} (h:iterG (runC c n a) l k st=some r) : ∃ M,∀ m,M≤m→∀ k',k≤k'→iterG (runC c m a) l k' st=some r:=
 jF (g:=fun m=>runC c m a) (fun _ _ h=>l9 h) h
theorem gI (l:Nat) (b:IRC):run c (.scope .skip l b) st=bindK (run c b st) (gotK l fun s=>run c (.scope .skip l b) s):=by
 refine gx (fun r h => ?_) fun r h => ?_
 ·obtain ⟨n,hn⟩:=bi h
  have h2:=hn n (Nat.le_refl _)
  simp only [runC] at h2
  cases n with
  | zero=>cases h2
  | succ k=>
   simp only [iterG] at h2
   split at h2
   ·rename_i j s h1
    rw [aX h1]
    simp only [bindK,gotK]
    split at h2
    ·rename_i e
     rw [if_pos e]
     obtain ⟨M,hM⟩:=nq c s h2
     exact aX (n:=max M k) (by simp only [runC];exact hM _ (by omega) _ (by omega))
    ·rename_i e;rw [if_neg e];exact h2
   ·rename_i hne
    rw [aX h2]
    obtain ⟨e,s⟩:=r
    cases e with
    | goto j=>exact absurd h2 (hne j s)
    | _=>rfl
 ·cases h1:run c b st with
  | none=>rw [h1] at h;cases h
  | some p=>
   rw [h1] at h
   obtain ⟨n1,hn1⟩:=bi h1
   obtain ⟨e,s⟩:=p
   cases e with
   | goto j=>
    simp only [bindK,gotK] at h
    split at h
    ·rename_i e
     obtain ⟨n2,hn2⟩:=bi h
     have h2:=hn2 n2 (Nat.le_refl _)
     simp only [runC] at h2
     obtain ⟨M,hM⟩:=nq c s h2
     refine aX (n:=max n1 (max M n2)+1) ?_
     simp only [runC,iterG,hn1 (max n1 (max M n2)+1) (by omega),if_pos e]
     exact hM _ (by omega) _ (by omega)
    ·rename_i e
     refine aX (n:=n1+1) ?_
     simp only [runC,iterG,hn1 (n1+1) (by omega),if_neg e]
     exact h
   | _=>
    refine aX (n:=n1+1) ?_
    simp only [runC,iterG,hn1 (n1+1) (by omega)]
    exact h
theorem ik (a b:IRC) (l:Nat):run c (.scope a l b) st=bindK (run c a st) (scoK l fun s=>run c (.scope .skip l b) s):=by
 refine gx (fun r h => ?_) fun r h => ?_
 ·obtain ⟨n,hn⟩:=bi h
  have h2:=hn n (Nat.le_refl _)
  simp only [runC] at h2
  split at h2
  ·rename_i s h1
   rw [aX h1]
   exact aX (n:=n) (by simp only [runC];exact h2)
  ·rename_i j s h1
   rw [aX h1]
   simp only [bindK,scoK,gotK]
   split at h2
   ·rename_i e;rw [if_pos e];exact aX (n:=n) (by simp only [runC];exact h2)
   ·rename_i e;rw [if_neg e];exact h2
  ·rename_i h3 h4
   rw [aX h2]
   obtain ⟨e,s⟩:=r
   cases e with
   | normal=>exact absurd h2 (h3 s)
   | goto j=>exact absurd h2 (h4 j s)
   | _=>rfl
 ·cases h1:run c a st with
  | none=>rw [h1] at h;cases h
  | some p=>
   rw [h1] at h
   obtain ⟨n1,hn1⟩:=bi h1
   obtain ⟨e,s⟩:=p
   have key : ∀ {s},run c (.scope .skip l b) s=some r→∃ n,∀ m,n≤m→iterG (runC c m b) l m s=some r:=fun h=>by
    obtain ⟨n2,hn2⟩:=bi h
    exact ⟨n2,fun m hm=>by have:=hn2 m hm;simp only [runC] at this;exact this⟩
   cases e with
   | normal=>
    obtain ⟨n2,hn2⟩:=key (show run c (.scope .skip l b) s=some r from h)
    refine aX (n:=max n1 n2) ?_
    simp only [runC,hn1 (max n1 n2) (by omega)]
    exact hn2 _ (by omega)
   | goto j=>
    simp only [bindK,scoK,gotK] at h
    split at h
    ·rename_i e
     obtain ⟨n2,hn2⟩:=key h
     refine aX (n:=max n1 n2) ?_
     simp only [runC,hn1 (max n1 n2) (by omega),if_pos e]
     exact hn2 _ (by omega)
    ·rename_i e
     refine aX (n:=n1) ?_
     simp only [runC,hn1 n1 (Nat.le_refl _),if_neg e]
     exact h
   | _=>
    refine aX (n:=n1) ?_
    simp only [runC,hn1 n1 (Nat.le_refl _)]
    exact h
end
noncomputable def runL (O:Oracle) (G:Nat→Option (List PV)) (f:IRF) (args:List LV) (H:Heap) (nx:Nat):Option (LV × Upd × List (Option Obj)):=
 if args.length=f.params.length then bindK (run ⟨O,G,H,nx⟩ f.body ⟨f.params.zip args,⟨[],[]⟩⟩) (finK f H nx) else none
theorem sP {O:Oracle} {G:Nat→Option (List PV)} {f:IRF} {args:List LV} {H:Heap} {nx:Nat} {r:LV × Upd × List (Option Obj)} (h:runL O G f args H nx=some r) : ∃ n,runF O G n f args H nx=some r:=by
 unfold runL at h
 split at h
 case isFalse=>cases h
 rename_i hl
 cases h1:run ⟨O,G,H,nx⟩ f.body ⟨f.params.zip args,⟨[],[]⟩⟩ with
 | none=>rw [h1] at h;cases h
 | some p=>
  rw [h1] at h
  obtain ⟨n,hn⟩:=bi h1
  refine ⟨n,?_⟩
  rw [runF_I,if_pos hl,aV,hn n (Nat.le_refl _)]
  exact h
def outW (l:List (Option Obj)) (q:LV × Upd × List (Option Obj)):Option (LV × List (Option Obj)):=some (q.1,outU q.2.1 0 l++q.2.2)
def outP (q:LV × Upd × List (Option Obj)):Option LV:=match q with
 | (r,[],[])=>some r
 | _=>none
section
variable {C:FuncId→Nat} {F:FuncId→Option IRF} {G:Nat→Option (List PV)} {E:Oracle} {f:FuncId} {ir:IRF} {a:List LV} {H:Heap} {nx:Nat} {l:List (Option Obj)}
theorem jK (hf:F f=some ir) {r:LV × Upd × List (Option Obj)} (h:runL (om C F G E) G ir a H nx=some r):om0 C F G E f a H nx=some r:=by
 obtain ⟨n,hn⟩:=sP h
 exact lN hf n hn
theorem au (hf:F f=some ir) {r:LV × Upd × List (Option Obj)} (h:runL (om C F G E) G ir a H nx=some r) (hc:C f=0:=by rfl):om C F G E f a H nx=some r:=by
 rw [sD hc];exact jK hf h
theorem aP (hf:F f=some ir) {x:LV × List (Option Obj)} (h:bindK (runL (om C F G E) G ir a (hpL l) l.length) (outW l)=some x):ansW (om0 C F G E) f a l=some x:=by
 cases h1:runL (om C F G E) G ir a (hpL l) l.length with
 | none=>rw [h1] at h;cases h
 | some q=>
  rw [h1] at h
  unfold ansW
  rw [jK hf h1]
  exact h
theorem aU (hf:F f=some ir) {x:LV} (h:bindK (runL (om C F G E) G ir a (hpL l) l.length) outP=some x):ansP (om0 C F G E) f a l=some x:=by
 cases h1:runL (om C F G E) G ir a (hpL l) l.length with
 | none=>rw [h1] at h;cases h
 | some q=>
  rw [h1] at h
  unfold ansP
  rw [jK hf h1]
  obtain ⟨r,u,n⟩:=q
  cases u<;>cases n<;>first|exact h|cases h
end
theorem kM {C:FuncId→Nat} {F:FuncId→Option IRF} {G:Nat→Option (List PV)} {E:Oracle} {f:FuncId} {a:List LV} {l:List (Option Obj)} {n:Nat} {r:LV} (h:evalN C F G E n f a (hpL l) l.length=some (r,[],[])):ansP (om0 C F G E) f a l=some r:=by
 unfold ansP;rw [eF h]
theorem zU (s:List Nat) (n:Nat) (x:PV):bk s n (.p x) = .p x:=rfl
theorem pn (s:List Nat) (n:Nat):bk s n .junk = .junk:=rfl
theorem mz (s:List Nat) (n:Nat):bkO s n none=none:=rfl
theorem mw (s:List Nat) (n:Nat) (b:ByteArray) (q:Nat):bkO s n (some (.iter b q))=some (.iter b q):=rfl
theorem xM (g:List LV→List (Option Obj)→Option (LV × List (Option Obj))) (w:Bool) (args:List LV) (H:Heap) (nx:Nat):can g w args H nx=
  bindK (reach H 1000 (ids.idsL args) []) fun seen=>bindK (ren.go 0 seen args) fun a=>bindK (renH H seen seen) fun l=>bindK (g a l) fun q=>
   some (bk seen nx q.1,if w then seen.zip (q.2.map (bkO seen nx)) else [],if w then (q.2.drop seen.length).map (bkO seen nx) else []):=by
 unfold can bindK
 cases reach H 1000 (ids.idsL args) [] with
 | none=>rfl
 | some seen=>
  simp only []
  cases ren.go 0 seen args with
  | none=>rfl
  | some a=>
   simp only []
   cases renH H seen seen with
   | none=>rfl
   | some l=>
    simp only []
    cases g a l with
    | none=>rfl
    | some q=>rfl
end Go.Sx
end

section
namespace Go.Sx
open Go
@[congr high] theorem iteK_congr2 {α:Type} {t t':Bool} {a a' b b':α} (h:t=t') (ha:t'=true→a=a') (hb:t'=false→b=b'):iteK t a b=iteK t' a' b':=by
 subst h
 cases t with
 | true=>rw [cQ,cQ,ha rfl]
 | false=>rw [cx,cx,hb rfl]
section
variable (c:Ctx) (dr:Bool) (env:Env) (h:Hp)
theorem xP (x:Opd):evOp c dr env h (.mv x)=some ⟨opd c env x,h,[],false⟩:=rfl
theorem mO (x:Opd):evOp c dr env h (.box true x)=bindK (opd c env x).cells fun cs=>bindK (allP cs) fun ps=>some ⟨.p (.imm ps 0),h,[],false⟩:=by
 simp only [evOp];unfold bindK
 repeat' split
 all_goals simp_all
theorem mN (x:Opd):evOp c dr env h (.box false x)=bindK (opd c env x).cells fun cs=>some ⟨.ref (c.nx+h.new.length) 0,push h (.cells cs),[],false⟩:=by
 simp only [evOp];unfold bindK
 repeat' split
 all_goals simp_all
theorem jt (z:List PV):evOp c dr env h (.alloc true z)=some ⟨.p (.imm z 0),h,[],false⟩:=rfl
theorem js (z:List PV):evOp c dr env h (.alloc false z)=some ⟨.ref (c.nx+h.new.length) 0,push h (.cells (z.map .p)),[],false⟩:=rfl
theorem mP (z:List PV) (ps:List (Nat × Nat × Opd)):evOp c dr env h (.build z ps)=bindK (fillP (z.map .p) (ps.map fun (o,s,x)=>(o,s,opd c env x))) fun cs=>some ⟨mkAgg cs,h,[],false⟩:=by
 simp only [evOp];unfold bindK
 repeat' split
 all_goals simp_all
theorem kC (n sz:Nat) (z:List PV) (ps:List (Nat × Nat × Opd)):evOp c dr env h (.mkSl true n sz z ps)=bindK (fillP (z.map .p) (ps.map fun (o,s,x)=>(o,s,opd c env x))) fun cs=>bindK (allP cs) fun q=>some ⟨.p (.sl q n sz true),h,[],false⟩:=by
 simp only [evOp];unfold bindK
 repeat' split
 all_goals simp_all
theorem kz (n sz:Nat) (z:List PV) (ps:List (Nat × Nat × Opd)):evOp c dr env h (.mkSl false n sz z ps)=bindK (fillP (z.map .p) (ps.map fun (o,s,x)=>(o,s,opd c env x))) fun cs=>some ⟨.arr (c.nx+h.new.length) 0 n sz n true,push h (.cells cs),[],false⟩:=by
 simp only [evOp];unfold bindK
 repeat' split
 all_goals simp_all
def cellsK {α:Type} (o:Option Obj) (k:List LV→Option α):Option α:=match o with
 | some (.cells cs)=>k cs
 | _=>none
theorem iv {α:Type} (cs:List LV) (k:List LV→Option α):cellsK (some (.cells cs)) k=k cs:=rfl
@[congr] theorem cellsK_congr {α:Type} {o o':Option Obj} {k:List LV→Option α} (e:o=o'):cellsK o k=cellsK o' k:=by rw [e]
def ldK (sz:Nat) (ag:Bool):LV→Option Res
 | .p (.imm cs off)=>bindK (rd (cs.map .p) off sz ag) fun v=>some ⟨v,h,[],false⟩
 | .ref id off=>cellsK (look c.H c.nx h id) fun cs=>bindK (rd cs off sz ag) fun v=>some ⟨v,h,[id],false⟩
 | _=>none
theorem pI (sz:Nat) (ag:Bool) (x:Opd):evOp c dr env h (.load sz ag x)=ldK c h sz ag (opd c env x):=by
 simp only [evOp];unfold ldK
 unfold bindK cellsK
 repeat' split
 all_goals simp_all
theorem qc (sz:Nat) (ag:Bool) (cs:List PV) (off:Nat):ldK c h sz ag (.p (.imm cs off))=bindK (rd (cs.map .p) off sz ag) fun v=>some ⟨v,h,[],false⟩:=rfl
theorem qd (sz:Nat) (ag:Bool) (id off:Nat):ldK c h sz ag (.ref id off)=cellsK (look c.H c.nx h id) fun cs=>bindK (rd cs off sz ag) fun v=>some ⟨v,h,[id],false⟩:=rfl
def stK (sz:Nat) (x:LV):LV→Option Res
 | .ref id off=>bindK x.cells fun vs=>cellsK (look c.H c.nx h id) fun cs=>
   if vs.length=sz∧off+sz≤cs.length then some ⟨.undef,setObj c.nx h id (some (.cells (splice cs off vs))),[id],true⟩ else none
 | _=>none
theorem mY (sz:Nat) (a x:Opd):evOp c dr env h (.store sz a x)=stK c h sz (opd c env x) (opd c env a):=by
 simp only [evOp];unfold stK
 unfold bindK cellsK
 repeat' split
 all_goals simp_all
theorem ry (sz:Nat) (x:LV) (id off:Nat):stK c h sz x (.ref id off)=bindK x.cells fun vs=>cellsK (look c.H c.nx h id) fun cs=>
  if vs.length=sz∧off+sz≤cs.length then some ⟨.undef,setObj c.nx h id (some (.cells (splice cs off vs))),[id],true⟩ else none:=rfl
def nkK:LV→Option Res
 | .p (.imm cs o)=>some ⟨.p (.imm cs o),h,[],false⟩
 | .ref id o=>some ⟨.ref id o,h,[],false⟩
 | .fn f a b=>some ⟨.fn f a b,h,[],false⟩
 | _=>none
theorem mT (x:Opd):evOp c dr env h (.nilCk x)=nkK h (opd c env x):=by
 simp only [evOp];unfold nkK
 try unfold bindK
 repeat' split
 all_goals simp_all
theorem qm (cs:List PV) (o:Nat):nkK h (.p (.imm cs o))=some ⟨.p (.imm cs o),h,[],false⟩:=rfl
theorem qo (id o:Nat):nkK h (.ref id o)=some ⟨.ref id o,h,[],false⟩:=rfl
theorem uC (f:FuncId) (a b:List LV):nkK h (.fn f a b)=some ⟨.fn f a b,h,[],false⟩:=rfl
theorem tQ (b:BinOp) (x y:Opd):evOp c dr env h (.bin b x y)=bindK (binL b (opd c env x) (opd c env y)) fun v=>some ⟨v,h,[],false⟩:=by
 simp only [evOp];unfold bindK
 repeat' split
 all_goals simp_all
theorem pH (k:EK) (x y:Opd):evOp c dr env h (.eq true k x y)=bindK (eqL k (opd c env x) (opd c env y)) fun t=>some ⟨.bool (!t),h,[],false⟩:=by
 simp only [evOp];unfold bindK
 repeat' split
 all_goals simp_all
theorem pG (k:EK) (x y:Opd):evOp c dr env h (.eq false k x y)=bindK (eqL k (opd c env x) (opd c env y)) fun t=>some ⟨.bool t,h,[],false⟩:=by
 simp only [evOp];unfold bindK
 repeat' split
 all_goals simp_all
theorem xQ (u:UnOp) (x:Opd):evOp c dr env h (.un u x)=bindK (unL u (opd c env x)) fun v=>some ⟨v,h,[],false⟩:=by
 simp only [evOp];unfold bindK
 repeat' split
 all_goals simp_all
def intK {α:Type} (f:IntKind→Int→Option α):LV→Option α
 | .p (.s (.int k n))=>f k n
 | _=>none
theorem nk {α:Type} (f:IntKind→Int→Option α) (k:IntKind) (n:Int):intK f (.p (.s (.int k n)))=f k n:=rfl
theorem tR (k:IntKind) (x:Opd):evOp c dr env h (.cvt k x)=intK (fun _ n=>some ⟨.int k (k.wrap n),h,[],false⟩) (opd c env x):=by
 simp only [evOp];unfold intK
 try unfold bindK
 repeat' split
 all_goals simp_all
def strK {α:Type} (f:ByteArray→Option α):LV→Option α
 | .p (.s (.string b))=>f b
 | _=>none
theorem n8 {α:Type} (f:ByteArray→Option α) (b:ByteArray):strK f (.p (.s (.string b)))=f b:=rfl
theorem pL (x:Opd):evOp c dr env h (.strC x)=strK (fun b=>some ⟨.str b,h,[],false⟩) (opd c env x):=by
 simp only [evOp];unfold strK
 try unfold bindK
 repeat' split
 all_goals simp_all
theorem mV (x:Opd):evOp c dr env h (.s2b true x)=strK (fun b=>some ⟨.p (.sl (b.data.toList.map fun x=>.s (.int .u8 x.toNat)) b.size 1 false),h,[],false⟩) (opd c env x):=by
 simp only [evOp];unfold strK
 try unfold bindK
 repeat' split
 all_goals simp_all
theorem mU (x:Opd):evOp c dr env h (.s2b false x)=strK (fun b=>some ⟨.p (.sl (b.data.toList.map fun x=>.s (.int .u8 x.toNat)) b.size 1 false),h,[],false⟩) (opd c env x):=by
 simp only [evOp];unfold strK
 try unfold bindK
 repeat' split
 all_goals simp_all
def b2sK:LV→Option Res
 | .p (.s (.string _))=>none
 | v=>bindK (slCells c.H c.nx h v) fun q=>if q.1.length=q.2 then bindK (bytesL q.1) fun l=>some ⟨.str ⟨l.toArray⟩,h,ids v,false⟩ else none
theorem tP (x:Opd):evOp c dr env h (.b2s x)=b2sK c h (opd c env x):=by
 simp only [evOp];unfold b2sK bindK
 generalize opd c env x=v
 cases v with
 | p v=>cases v with
  | s v=>cases v<;>simp only []<;>(repeat' split)<;>simp_all
  | _=>simp only []<;>(repeat' split)<;>simp_all
 | _=>simp only []<;>(repeat' split)<;>simp_all
theorem pl (cs:List PV) (n sz:Nat) (fl:Bool):b2sK c h (.p (.sl cs n sz fl))=if (cs.map LV.p).length=n then bindK (bytesL (cs.map .p)) fun l=>some ⟨.str ⟨l.toArray⟩,h,[],false⟩ else none:=rfl
theorem mo:b2sK c h (.p (.s (.slice none 0 0)))=some ⟨.str ⟨#[]⟩,h,[],false⟩:=rfl
theorem mj (id off len sz cp:Nat) (ex:Bool):b2sK c h (.arr id off len sz cp ex)=bindK (slCells c.H c.nx h (.arr id off len sz cp ex)) fun q=>if q.1.length=q.2 then bindK (bytesL q.1) fun l=>some ⟨.str ⟨l.toArray⟩,h,[id],false⟩ else none:=rfl
def faK (off:Nat):LV→Option Res
 | .p (.imm cs o)=>some ⟨.p (.imm cs (o+off)),h,[],false⟩
 | .ref id o=>some ⟨.ref id (o+off),h,[],false⟩
 | _=>none
theorem gr (off:Nat) (x:Opd):evOp c dr env h (.fieldAddr off x)=faK h off (opd c env x):=by
 simp only [evOp];unfold faK
 try unfold bindK
 repeat' split
 all_goals simp_all
theorem pN (off:Nat) (cs:List PV) (o:Nat):faK h off (.p (.imm cs o))=some ⟨.p (.imm cs (o+off)),h,[],false⟩:=rfl
theorem pO (off id o:Nat):faK h off (.ref id o)=some ⟨.ref id (o+off),h,[],false⟩:=rfl
def fiK (off sz:Nat) (ag:Bool):LV→Option Res
 | .p (.agg cs)=>bindK (rd (cs.map .p) off sz ag) fun v=>some ⟨v,h,[],false⟩
 | .agg cs=>bindK (rd cs off sz ag) fun v=>some ⟨v,h,[],false⟩
 | _=>none
theorem mQ (off sz:Nat) (ag:Bool) (x:Opd):evOp c dr env h (.field off sz ag x)=fiK h off sz ag (opd c env x):=by
 simp only [evOp];unfold fiK
 try unfold bindK
 repeat' split
 all_goals simp_all
theorem xS (off sz:Nat) (ag:Bool) (cs:List PV):fiK h off sz ag (.p (.agg cs))=bindK (rd (cs.map .p) off sz ag) fun v=>some ⟨v,h,[],false⟩:=rfl
theorem xR (off sz:Nat) (ag:Bool) (cs:List LV):fiK h off sz ag (.agg cs)=bindK (rd cs off sz ag) fun v=>some ⟨v,h,[],false⟩:=rfl
def iaK (sz:Nat) (n:Option Nat):LV→Option Res
 | .p (.sl cs len sz' _)=>bindK n fun n=>if n<len∧sz'=sz then some ⟨.p (.imm cs (n*sz)),h,[],false⟩ else none
 | .arr id off len sz' _ _=>bindK n fun n=>if n<len∧sz'=sz then some ⟨.ref id (off+n*sz),h,[],false⟩ else none
 | _=>none
theorem ku (sz:Nat) (x i:Opd):evOp c dr env h (.idxASl sz x i)=iaK h sz (natL (opd c env i)) (opd c env x):=by
 simp only [evOp];unfold iaK
 generalize opd c env x=v;generalize natL (opd c env i)=n
 cases v with
 | p v=>cases v<;>cases n<;>rfl
 | _=>cases n<;>rfl
theorem uj (sz:Nat) (n:Option Nat) (cs:List PV) (len sz':Nat) (fl:Bool):iaK h sz n (.p (.sl cs len sz' fl))=bindK n fun n=>if n<len∧sz'=sz then some ⟨.p (.imm cs (n*sz)),h,[],false⟩ else none:=rfl
theorem pZ (sz:Nat) (n:Option Nat) (id off len sz' cp:Nat) (ex:Bool):iaK h sz n (.arr id off len sz' cp ex)=bindK n fun n=>if n<len∧sz'=sz then some ⟨.ref id (off+n*sz),h,[],false⟩ else none:=rfl
def iraK (m sz:Nat) (n:Option Nat):LV→Option Res
 | .p (.imm cs off)=>bindK n fun n=>if n<m then some ⟨.p (.imm cs (off+n*sz)),h,[],false⟩ else none
 | .ref id off=>bindK n fun n=>if n<m then some ⟨.ref id (off+n*sz),h,[],false⟩ else none
 | _=>none
theorem jw (m sz:Nat) (x i:Opd):evOp c dr env h (.idxAArr m sz x i)=iraK h m sz (natL (opd c env i)) (opd c env x):=by
 simp only [evOp];unfold iraK
 generalize opd c env x=v;generalize natL (opd c env i)=n
 cases v with
 | p v=>cases v<;>cases n<;>rfl
 | _=>cases n<;>rfl
theorem nn (m sz:Nat) (n:Option Nat) (cs:List PV) (off:Nat):iraK h m sz n (.p (.imm cs off))=bindK n fun n=>if n<m then some ⟨.p (.imm cs (off+n*sz)),h,[],false⟩ else none:=rfl
theorem np (m sz:Nat) (n:Option Nat) (id off:Nat):iraK h m sz n (.ref id off)=bindK n fun n=>if n<m then some ⟨.ref id (off+n*sz),h,[],false⟩ else none:=rfl
theorem kw (x i:Opd):evOp c dr env h (.idxStr x i)=strK (fun b=>bindK (natL (opd c env i)) fun n=>bindK b.data[n]? fun u=>some ⟨.int .u8 u.toNat,h,[],false⟩) (opd c env x):=by
 simp only [evOp];unfold strK
 try unfold bindK
 repeat' split
 all_goals simp_all
def irK (m sz:Nat) (ag:Bool) (n:Option Nat):LV→Option Res
 | .p (.agg cs)=>bindK n fun n=>if n<m then bindK (rd (cs.map .p) (n*sz) sz ag) fun v=>some ⟨v,h,[],false⟩ else none
 | _=>none
theorem kv (m sz:Nat) (ag:Bool) (x i:Opd):evOp c dr env h (.idxArr m sz ag x i)=irK h m sz ag (natL (opd c env i)) (opd c env x):=by
 simp only [evOp];unfold irK
 generalize opd c env x=v;generalize natL (opd c env i)=n
 cases v with
 | p v=>
  cases v with
  | agg cs=>
   cases n with
   | none=>rfl
   | some n=>
    simp only [bindK]
    split
    ·cases rd (cs.map .p) (n*sz) sz ag<;>rfl
    ·rfl
  | _=>cases n<;>rfl
 | _=>cases n<;>rfl
theorem xY (m sz:Nat) (ag:Bool) (n:Option Nat) (cs:List PV):irK h m sz ag n (.p (.agg cs))=bindK n fun n=>if n<m then bindK (rd (cs.map .p) (n*sz) sz ag) fun v=>some ⟨v,h,[],false⟩ else none:=rfl
theorem mX (x:Opd) (lo hi:Option Opd):evOp c dr env h (.slStr x lo hi)=strK (fun b=>bindK (optMap (opd c env) lo) fun l=>bindK (optMap (opd c env) hi) fun m=>
  if l.getD 0≤m.getD b.size∧m.getD b.size≤b.size then some ⟨.str (b.extract (l.getD 0) (m.getD b.size)),h,[],false⟩ else none) (opd c env x):=by
 simp only [evOp];unfold strK
 try unfold bindK
 repeat' split
 all_goals simp_all
theorem pK (sz:Nat) (x:Opd) (lo hi mx:Option Opd):evOp c dr env h (.slSl sz x lo hi mx)=bindK (optMap (opd c env) lo) fun l=>bindK (optMap (opd c env) hi) fun m=>bindK (optMap (opd c env) mx) fun n=>bindK (sliceO sz (opd c env x) l m n) fun v=>some ⟨v,h,[],false⟩:=by
 simp only [evOp];unfold bindK
 repeat' split
 all_goals simp_all
theorem mS (x:Opd):evOp c dr env h (.len true x)=strK (fun b=>some ⟨.int .i64 b.size,h,[],false⟩) (opd c env x):=by
 simp only [evOp];unfold strK
 try unfold bindK
 repeat' split
 all_goals simp_all
def lsK:LV→Option Res
 | .p (.s (.slice none n _))=>some ⟨.int .i64 n,h,[],false⟩
 | .p (.sl _ n _ _)=>some ⟨.int .i64 n,h,[],false⟩
 | .arr _ _ n _ _ _=>some ⟨.int .i64 n,h,[],false⟩
 | _=>none
theorem mR (x:Opd):evOp c dr env h (.len false x)=lsK h (opd c env x):=by
 simp only [evOp];unfold lsK
 cases opd c env x with
 | p v=>cases v with
  | s v=>cases v with
   | slice a _ _=>cases a<;>rfl
   | _=>rfl
  | _=>rfl
 | _=>rfl
theorem qh (n m:Nat):lsK h (.p (.s (.slice none n m)))=some ⟨.int .i64 n,h,[],false⟩:=rfl
theorem uv (cs:List PV) (n sz:Nat) (fl:Bool):lsK h (.p (.sl cs n sz fl))=some ⟨.int .i64 n,h,[],false⟩:=rfl
theorem qg (id off n sz cp:Nat) (ex:Bool):lsK h (.arr id off n sz cp ex)=some ⟨.int .i64 n,h,[],false⟩:=rfl
def ap0 (y:LV):LV→Option Res
 | .p (.s (.slice none 0 0))=>some ⟨.p (.s (.slice none 0 0)),h,ids y,false⟩
 | .p (.sl cs n sz fl)=>some ⟨.p (.sl cs n sz fl),h,ids y,false⟩
 | .arr id off n sz cp ex=>some ⟨.arr id off n sz cp ex,h,ids y,false⟩
 | _=>none
theorem ph (y:LV):ap0 h y (.p (.s (.slice none 0 0)))=some ⟨.p (.s (.slice none 0 0)),h,ids y,false⟩:=rfl
theorem s0 (y:LV) (cs:List PV) (n sz:Nat) (fl:Bool):ap0 h y (.p (.sl cs n sz fl))=some ⟨.p (.sl cs n sz fl),h,ids y,false⟩:=rfl
theorem pg (y:LV) (id off n sz cp:Nat) (ex:Bool):ap0 h y (.arr id off n sz cp ex)=some ⟨.arr id off n sz cp ex,h,ids y,false⟩:=rfl
def apN (sz bytes:Nat) (y:LV) (yc:List LV) (n:Nat):LV→Option Res
 | .p (.s (.slice none 0 0))=>if n*bytes≤2^40 then some ⟨.arr (c.nx+h.new.length) 0 n sz n false,push h (.cells yc),ids y,false⟩ else none
 | .p (.sl cs len sz' full)=>if full∧cs.length=len*sz∧sz'=sz∧(len+n)*bytes≤2^40 then
     some ⟨.arr (c.nx+h.new.length) 0 (len+n) sz (len+n) false,push h (.cells (cs.map .p++yc)),ids y,false⟩
    else none
 | .arr id off len sz' cp ex=>cellsK (look c.H c.nx h id) fun cs=>
     if sz'≠sz∨(len+n)*bytes>2^40∨off+len*sz>cs.length then none
     else if ex=true∧cp=len then
      some ⟨.arr (c.nx+h.new.length) 0 (len+n) sz (len+n) false,push h (.cells ((cs.drop off).take (len*sz)++yc)),id::ids y,false⟩
     else if off+len*sz=cs.length then
      some ⟨.arr (c.nx+h.new.length) 0 (len+n) sz (len+n) false,push (setObj c.nx h id none) (.cells (cs.drop off++yc)),id::ids y,true⟩
     else if off+(len+n)*sz≤cs.length∧len+n≤cp then
      some ⟨.arr id off (len+n) sz cp ex,setObj c.nx h id (some (.cells (splice cs (off+len*sz) yc))),id::ids y,true⟩
     else none
 | _=>none
theorem tO (sz bytes:Nat) (x y:Opd):evOp c dr env h (.app sz bytes x y)=bindK (slCells c.H c.nx h (opd c env y)) fun q=>
  if q.1.length=q.2*sz then (if q.2=0 then ap0 h (opd c env y) (opd c env x) else apN c h sz bytes (opd c env y) q.1 q.2 (opd c env x)) else none:=by
 simp only [evOp,appO]
 generalize opd c env y=y
 generalize opd c env x=x
 cases slCells c.H c.nx h y with
 | none=>rfl
 | some q=>
  obtain ⟨yc,n⟩:=q
  simp only [bindK]
  by_cases h1:yc.length=n*sz
  ·rw [if_neg (by simp [h1]),if_pos h1]
   by_cases h2:n=0
   ·rw [if_pos h2,if_pos h2]
    cases x with
    | p v=>cases v with
     | s v=>cases v with
      | slice a m k=>cases a<;>cases m<;>cases k<;>rfl
      | _=>rfl
     | _=>rfl
    | _=>rfl
   ·rw [if_neg h2,if_neg h2]
    unfold apN cellsK
    cases x with
    | arr id off len sz' cp ex=>
     simp only []
     cases look c.H c.nx h id with
     | none=>rfl
     | some o=>cases o<;>rfl
    | p v=>
     cases v with
     | s v=>cases v with
      | slice a m k=>cases a<;>cases m<;>cases k<;>rfl
      | _=>rfl
     | _=>rfl
    | _=>rfl
  ·rw [if_pos h1,if_neg h1]
theorem pj (sz bytes:Nat) (y:LV) (yc:List LV) (n:Nat):apN c h sz bytes y yc n (.p (.s (.slice none 0 0)))=if n*bytes≤2^40 then some ⟨.arr (c.nx+h.new.length) 0 n sz n false,push h (.cells yc),ids y,false⟩ else none:=rfl
theorem s8 (sz bytes:Nat) (y:LV) (yc:List LV) (n:Nat) (cs:List PV) (len sz':Nat) (full:Bool):apN c h sz bytes y yc n (.p (.sl cs len sz' full))=if full∧cs.length=len*sz∧sz'=sz∧(len+n)*bytes≤2^40 then
  some ⟨.arr (c.nx+h.new.length) 0 (len+n) sz (len+n) false,push h (.cells (cs.map .p++yc)),ids y,false⟩ else none:=rfl
theorem pi (sz bytes:Nat) (y:LV) (yc:List LV) (n:Nat) (id off len sz' cp:Nat) (ex:Bool):apN c h sz bytes y yc n (.arr id off len sz' cp ex)=cellsK (look c.H c.nx h id) fun cs=>
     if sz'≠sz∨(len+n)*bytes>2^40∨off+len*sz>cs.length then none
     else if ex=true∧cp=len then
      some ⟨.arr (c.nx+h.new.length) 0 (len+n) sz (len+n) false,push h (.cells ((cs.drop off).take (len*sz)++yc)),id::ids y,false⟩
     else if off+len*sz=cs.length then
      some ⟨.arr (c.nx+h.new.length) 0 (len+n) sz (len+n) false,push (setObj c.nx h id none) (.cells (cs.drop off++yc)),id::ids y,true⟩
     else if off+(len+n)*sz≤cs.length∧len+n≤cp then
      some ⟨.arr id off (len+n) sz cp ex,setObj c.nx h id (some (.cells (splice cs (off+len*sz) yc))),id::ids y,true⟩
     else none:=rfl
theorem ky (mx:Bool) (x:Opd) (xs:List Opd):evOp c dr env h (.minmax mx (x::xs))=bindK (mmL mx (opd c env x) (xs.map (opd c env))) fun v=>some ⟨v,h,[],false⟩:=by
 simp only [evOp];unfold bindK
 repeat' split
 all_goals simp_all
def callK (f:FuncId) (args:List LV):Option Res:=
 bindK (c.O f args (look c.H c.nx h) (c.nx+h.new.length)) fun q=>some ⟨q.1,⟨(setAll c.nx h q.2.1).upd,(setAll c.nx h q.2.1).new++q.2.2⟩,[],!q.2.1.isEmpty⟩
def callQ (f:FuncId) (args:List LV):Option Res:=
 bindK (reach (look c.H c.nx h) 1000 (ids.idsL args) []) fun S=>if (ids.idsL args++S.flatMap (fun id=>match look c.H c.nx h id with
    | some o=>o.ids
    | none=>[])).all (fun id=>decide (id<c.nx+h.new.length)) then
  bindK (c.O f args (fun id=>if S.contains id then look c.H c.nx h id else none) (c.nx+h.new.length)) fun q=>some ⟨q.1,⟨(setAll c.nx h q.2.1).upd,(setAll c.nx h q.2.1).new++q.2.2⟩,S,!q.2.1.isEmpty⟩ else none
theorem lj (f:FuncId) (args:List LV):callO c false h f args=callK c h f args:=by
 unfold callO callK bindK
 simp only [Bool.false_eq_true,if_false]
 cases c.O f args (look c.H c.nx h) (c.nx+h.new.length)<;>rfl
theorem gp (f:FuncId) (args:List LV):callO c true h f args=callQ c h f args:=by
 unfold callO callQ bindK
 simp only [if_true]
 cases reach (look c.H c.nx h) 1000 (ids.idsL args) [] with
 | none=>rfl
 | some S=>
  simp only []
  split
  ·rename_i h1
   refine Eq.trans ?_ (if_pos h1).symm
   cases c.O f args (fun id=>if S.contains id then look c.H c.nx h id else none) (c.nx+h.new.length)<;>rfl
  ·rename_i h1
   exact (if_neg h1).symm
theorem ko (f:FuncId) (args:List Opd):evOp c false env h (.call f args)=callK c h f (args.map (opd c env)):=lj c h f _
theorem kq (f:FuncId) (args:List Opd):evOp c true env h (.call f args)=callQ c h f (args.map (opd c env)):=gp c h f _
def fnK {α:Type} (k:FuncId→List LV→List LV→Option α):LV→Option α
 | .fn f a b=>k f a b
 | _=>none
theorem t8 {α:Type} (k:FuncId→List LV→List LV→Option α) (f:FuncId) (a b:List LV):fnK k (.fn f a b)=k f a b:=rfl
theorem ju (x:Opd) (args:List Opd):evOp c false env h (.callv x args)=fnK (fun f a b=>callK c h f (a++args.map (opd c env)++b)) (opd c env x):=by
 simp only [evOp,lj,gp];unfold fnK
 repeat' split
 all_goals simp_all
theorem jv (x:Opd) (args:List Opd):evOp c true env h (.callv x args)=fnK (fun f a b=>callQ c h f (a++args.map (opd c env)++b)) (opd c env x):=by
 simp only [evOp,lj,gp];unfold fnK
 repeat' split
 all_goals simp_all
def exK (i:Nat):LV→Option Res
 | .tuple vs=>bindK vs[i]? fun v=>some ⟨v,h,[],false⟩
 | _=>none
theorem tT (x:Opd) (i:Nat):evOp c dr env h (.ext x i)=exK h i (opd c env x):=by
 simp only [evOp];unfold exK
 try unfold bindK
 repeat' split
 all_goals simp_all
theorem kD (i:Nat) (vs:List LV):exK h i (.tuple vs)=bindK vs[i]? fun v=>some ⟨v,h,[],false⟩:=rfl
theorem pJ (f:FuncId) (a b:List Opd):evOp c dr env h (.mkFn f a b)=some ⟨.fn f (a.map (opd c env)) (b.map (opd c env)),h,[],false⟩:=rfl
theorem tW (x:Opd):evOp c dr env h (.rng x)=strK (fun b=>some ⟨.ref (c.nx+h.new.length) 0,push h (.iter b 0),[],false⟩) (opd c env x):=by
 simp only [evOp];unfold strK
 repeat' split
 all_goals simp_all
def nxO (id:Nat):Option Obj→Option Res
 | some (.iter b q)=>if q<b.size then some ⟨.tuple [.bool true,.int .i64 q,.int .i32 (Utf8.decode b q).1],setObj c.nx h id (some (.iter b (q+(Utf8.decode b q).2))),[id],true⟩ else some ⟨.tuple [.bool false],h,[id],false⟩
 | _=>none
theorem nF (id:Nat) (b:ByteArray) (q:Nat):nxO c h id (some (.iter b q))=if q<b.size then some ⟨.tuple [.bool true,.int .i64 q,.int .i32 (Utf8.decode b q).1],setObj c.nx h id (some (.iter b (q+(Utf8.decode b q).2))),[id],true⟩ else some ⟨.tuple [.bool false],h,[id],false⟩:=rfl
def nxK:LV→Option Res
 | .ref id 0=>nxO c h id (look c.H c.nx h id)
 | _=>none
theorem qv (id:Nat):nxK c h (.ref id 0)=nxO c h id (look c.H c.nx h id):=rfl
theorem tV (x:Opd):evOp c dr env h (.nxt x)=nxK c h (opd c env x):=by
 simp only [evOp];unfold nxK
 generalize opd c env x=v
 cases v with
 | ref id off=>
  cases off with
  | zero=>
   simp only []
   unfold nxO
   cases look c.H c.nx h id with
   | none=>rfl
   | some o=>cases o<;>rfl
  | succ n=>rfl
 | p v=>rfl
 | _=>rfl
theorem jx (sz bytes:Nat) (z:List PV) (l m:Opd):evOp c dr env h (.mkSlice sz bytes z l m)=bindK (natL (opd c env l)) fun len=>bindK (natL (opd c env m)) fun cap=>
  if len≤cap∧cap*bytes≤2^40∧cap<2^62∧z.length=sz then some ⟨.arr (c.nx+h.new.length) 0 len sz cap true,push h (.cells ((List.replicate len z).flatten.map .p)),[],false⟩ else none:=by
 simp only [evOp];unfold bindK
 cases natL (opd c env l) with
 | none=>rfl
 | some a=>cases natL (opd c env m)<;>rfl
def cpK (sz:Nat) (y:LV):LV→Option Res
 | .arr id off len sz' _ _=>cellsK (look c.H c.nx h id) fun cs=>bindK (slCells c.H c.nx h y) fun q=>
   if sz'=sz∧q.1.length=q.2*sz∧off+len*sz≤cs.length then some ⟨.int .i64 (min q.2 len:Nat),setObj c.nx h id (some (.cells (splice cs off (q.1.take (min q.2 len*sz))))),id::ids y,true⟩ else none
 | _=>none
theorem pz (sz:Nat) (y:LV) (id off len sz' cp:Nat) (ex:Bool):cpK c h sz y (.arr id off len sz' cp ex)=cellsK (look c.H c.nx h id) fun cs=>bindK (slCells c.H c.nx h y) fun q=>
   if sz'=sz∧q.1.length=q.2*sz∧off+len*sz≤cs.length then some ⟨.int .i64 (min q.2 len:Nat),setObj c.nx h id (some (.cells (splice cs off (q.1.take (min q.2 len*sz))))),id::ids y,true⟩ else none:=rfl
theorem pF (sz:Nat) (x y:Opd):evOp c dr env h (.copy sz x y)=cpK c h sz (opd c env y) (opd c env x):=by
 simp only [evOp];unfold cpK bindK cellsK
 cases opd c env x with
 | arr id off len sz' cp ex=>
  simp only []
  cases look c.H c.nx h id with
  | none=>rfl
  | some o=>
   cases o with
   | cells cs=>cases slCells c.H c.nx h (opd c env y)<;>rfl
   | iter=>rfl
 | _=>rfl
def saK (n sz:Nat) (l m:Option Nat):LV→Option Res
 | .ref id off=>cellsK (look c.H c.nx h id) fun cs=>if off+n*sz≤cs.length then bindK (sliceO sz (.arr id off n sz n true) l m none) fun v=>some ⟨v,h,[id],false⟩ else none
 | _=>none
theorem ro (n sz:Nat) (l m:Option Nat) (id off:Nat):saK c h n sz l m (.ref id off)=cellsK (look c.H c.nx h id) fun cs=>if off+n*sz≤cs.length then bindK (sliceO sz (.arr id off n sz n true) l m none) fun v=>some ⟨v,h,[id],false⟩ else none:=rfl
theorem mW (n sz:Nat) (x:Opd) (lo hi:Option Opd):evOp c dr env h (.slArr n sz x lo hi none)=bindK (optMap (opd c env) lo) fun l=>bindK (optMap (opd c env) hi) fun m=>saK c h n sz l m (opd c env x):=by
 have e0:optMap (opd c env) none=some none:=rfl
 simp only [evOp,e0];unfold saK bindK cellsK
 cases opd c env x with
 | ref id off=>
  cases optMap (opd c env) lo with
  | none=>rfl
  | some l=>
   cases optMap (opd c env) hi with
   | none=>rfl
   | some m=>
    simp only []
    cases look c.H c.nx h id with
    | none=>rfl
    | some o=>
     cases o with
     | cells cs=>
      simp only []
      split
      ·cases sliceO sz (.arr id off n sz n true) l m none<;>rfl
      ·rfl
     | iter=>rfl
 | _=>cases optMap (opd c env) lo<;>(try cases optMap (opd c env) hi)<;>rfl
end
theorem oD (H:Heap) (nx:Nat) (h:Hp) (id:Nat):look H nx h id=if id<nx then (findU h.upd id).getD (H id) else (h.new[id-nx]?).getD none:=by
 unfold look
 split
 ·cases findU h.upd id<;>rfl
 ·cases h.new[id-nx]?<;>rfl
theorem xU (l:List (Option Obj)) (id:Nat):hpL l id=(l[id]?).getD none:=by
 unfold hpL
 cases l[id]?<;>rfl
theorem jz (f:IRF) (H:Heap) (nx:Nat) (st:St):finK f H nx (.ret,st)=bindK (resVs H nx st f.results) fun l=>finish f.own H nx (oneL l) st.h:=by
 rw [jy];unfold bindK;cases resVs H nx st f.results<;>rfl
theorem fD (f:IRF) (H:Heap) (nx:Nat) (st:St):finK f H nx (.normal,st)=bindK (resVs H nx st f.results) fun l=>finish f.own H nx (oneL l) st.h:=by
 rw [eB];unfold bindK;cases resVs H nx st f.results<;>rfl
def low (nx:Nat) (H:Heap) (h:Hp):Heap:=fun id=>if id<nx then none else look H nx h id
theorem ya (nx:Nat) (H:Heap) (h:Hp) (id:Nat):low nx H h id=if id<nx then none else (h.new[id-nx]?).getD none:=by
 unfold low
 split
 ·rfl
 ·rename_i hh;rw [oD,if_neg hh]
theorem mZ (H:Heap) (nx:Nat) (r0:LV) (h:Hp):finish false H nx r0 h=bindK (frz nx h r0) fun r=>bindK (reach (low nx H h) 1000 (ids r++updIds h.upd) []) fun seen=>
  if (ids r0).all (fun id => !seen.contains id)=true then bindK (ren nx seen r) fun r'=>bindK (renU nx seen h.upd) fun u=>bindK (renN H nx h seen seen) fun n=>some (r',u,n) else none:=by
 unfold finish low bindK
 simp only [Bool.false_eq_true,if_false,Bool.false_or]
 cases frz nx h r0 with
 | none=>rfl
 | some r=>
  simp only []
  cases reach (fun id=>if id<nx then none else look H nx h id) 1000 (ids r++updIds h.upd) [] with
  | none=>rfl
  | some seen=>
   simp only []
   split
   ·cases ren nx seen r with
    | none=>rfl
    | some r'=>cases renU nx seen h.upd with
     | none=>rfl
     | some u=>cases renN H nx h seen seen<;>rfl
   ·rfl
theorem m6 (H:Heap) (nx:Nat) (r:LV) (h:Hp):finish true H nx r h=bindK (reach (low nx H h) 1000 (ids r++updIds h.upd) []) fun seen=>
  bindK (ren nx seen r) fun r'=>bindK (renU nx seen h.upd) fun u=>bindK (renN H nx h seen seen) fun n=>some (r',u,n):=by
 unfold finish low bindK
 simp only [if_true,Bool.true_or]
 cases reach (fun id=>if id<nx then none else look H nx h id) 1000 (ids r++updIds h.upd) [] with
 | none=>rfl
 | some seen=>
  simp only []
  cases ren nx seen r with
  | none=>rfl
  | some r'=>cases renU nx seen h.upd with
   | none=>rfl
   | some u=>cases renN H nx h seen seen<;>rfl
def tdK (k f:List Nat):LV × LV × Upd × List (Option Obj)→Option (Ex × St)
 | (.tuple ks,.tuple fs,u,n)=>some (.normal,⟨k.zip ks++f.zip fs,⟨u,n⟩⟩)
 | _=>none
theorem yq (k f:List Nat) (ks fs:List LV) (u:Upd) (n:List (Option Obj)):tdK k f (.tuple ks,.tuple fs,u,n)=some (.normal,⟨k.zip ks++f.zip fs,⟨u,n⟩⟩):=rfl
theorem jV (c:Ctx) (st:St) (k f:List Nat):run c (.tidy k f) st=bindK (frz c.nx st.h (.tuple (f.map (get st.env)))) fun f'=>bindK (reach (low c.nx c.H st.h) 1000 (ids (.tuple (k.map (get st.env)))++updIds st.h.upd) []) fun seen=>
  if (ids (.tuple (f.map (get st.env)))).all (fun id => !seen.contains id)=true then bindK (ren c.nx seen (.tuple (k.map (get st.env)))) fun k'=>bindK (renU c.nx seen st.h.upd) fun u=>bindK (renN c.H c.nx st.h seen seen) fun n=>tdK k f (k',f',u,n) else none:=by
 rw [vo]
 unfold tidyR low bindK
 generalize (LV.tuple (k.map (get st.env)))=kk
 generalize (LV.tuple (f.map (get st.env)))=ff
 cases frz c.nx st.h ff with
 | none=>rfl
 | some f'=>
  simp only []
  cases reach (fun id=>if id<c.nx then none else look c.H c.nx st.h id) 1000 (ids kk++updIds st.h.upd) [] with
  | none=>rfl
  | some seen=>
   simp only []
   by_cases hh:(ids ff).all (fun id => !seen.contains id)=true
   ·rw [if_pos hh,if_pos hh]
    cases ren c.nx seen kk with
    | none=>rfl
    | some k'=>cases renU c.nx seen st.h.upd with
     | none=>rfl
     | some u=>cases renN c.H c.nx st.h seen seen with
      | none=>rfl
      | some n=>
       unfold tdK
       cases k'<;>cases f'<;>rfl
   ·rw [if_neg hh,if_neg hh]
end Go.Sx
end

section
namespace Go.Proofs.YtoeblkipfdnnlaaGreatDoor
open Go Go.Sx
noncomputable abbrev Ω0:Oracle:=om0 cls (findF irs) gG xX
noncomputable abbrev Φ (f:FuncId) (a:List LV) (l:List (Ob)):=ansW Ω0 f a l
noncomputable abbrev Ψ (f:FuncId) (a:List LV) (l:List (Ob)):=ansP Ω0 f a l
theorem oW (f:FuncId) (hc:cls f=1) : ∀ a H nx,Ω f a H nx=can (ansW Ω0 f) true a H nx:=fun _ _ _=>AS hc
theorem oP (f:FuncId) (hc:cls f=2) : ∀ a H nx,Ω f a H nx=can (fun a l=>noW (ansP Ω0 f a l)) false a H nx:=fun _ _ _=>AU hc
theorem aa:((((((type_of% (oW 70 rfl))∧((type_of% (oW 71 rfl))∧(type_of% (oW 74 rfl))))∧((type_of% (oW 75 rfl))∧((type_of% (oW 76 rfl))∧(type_of% (oW 77 rfl)))))∧(((type_of% (oW 103 rfl))∧((type_of% (oW 104 rfl))∧(type_of% (oW 105 rfl))))∧((type_of% (oW 106 rfl))∧((type_of% (oW 141 rfl))∧(type_of% (oW 142 rfl))))))∧((((type_of% (oW 169 rfl))∧((type_of% (oW 170 rfl))∧(type_of% (oW 171 rfl))))∧((type_of% (oW 172 rfl))∧((type_of% (oW 173 rfl))∧(type_of% (oW 174 rfl)))))∧(((type_of% (oW 177 rfl))∧((type_of% (oW 178 rfl))∧(type_of% (oW 208 rfl))))∧(((type_of% (oP 30 rfl))∧(type_of% (oP 51 rfl)))∧((type_of% (oP 72 rfl))∧(type_of% (oP 73 rfl)))))))∧(((((type_of% (oP 93 rfl))∧((type_of% (oP 94 rfl))∧(type_of% (oP 95 rfl))))∧((type_of% (oP 102 rfl))∧((type_of% (oP 108 rfl))∧(type_of% (oP 127 rfl)))))∧(((type_of% (oP 128 rfl))∧((type_of% (oP 131 rfl))∧(type_of% (oP 132 rfl))))∧(((type_of% (oP 133 rfl))∧(type_of% (oP 155 rfl)))∧((type_of% (oP 156 rfl))∧(type_of% (oP 157 rfl))))))∧((((type_of% (oP 158 rfl))∧((type_of% (oP 159 rfl))∧(type_of% (oP 160 rfl))))∧((type_of% (oP 175 rfl))∧((type_of% (oP 176 rfl))∧(type_of% (oP 181 rfl)))))∧(((type_of% (oP 183 rfl))∧((type_of% (oP 184 rfl))∧(type_of% (oP 185 rfl))))∧(((type_of% (oP 186 rfl))∧(type_of% (oP 215 rfl)))∧((type_of% (oP 219 rfl))∧(type_of% (oP 220 rfl)))))))):=
 ⟨⟨⟨⟨⟨oW 70 rfl,⟨oW 71 rfl,oW 74 rfl⟩⟩,⟨oW 75 rfl,⟨oW 76 rfl,oW 77 rfl⟩⟩⟩,⟨⟨oW 103 rfl,⟨oW 104 rfl,oW 105 rfl⟩⟩,⟨oW 106 rfl,⟨oW 141 rfl,oW 142 rfl⟩⟩⟩⟩,⟨⟨⟨oW 169 rfl,⟨oW 170 rfl,oW 171 rfl⟩⟩,⟨oW 172 rfl,⟨oW 173 rfl,oW 174 rfl⟩⟩⟩,⟨⟨oW 177 rfl,⟨oW 178 rfl,oW 208 rfl⟩⟩,⟨⟨oP 30 rfl,oP 51 rfl⟩,⟨oP 72 rfl,oP 73 rfl⟩⟩⟩⟩⟩,⟨⟨⟨⟨oP 93 rfl,⟨oP 94 rfl,oP 95 rfl⟩⟩,⟨oP 102 rfl,⟨oP 108 rfl,oP 127 rfl⟩⟩⟩,⟨⟨oP 128 rfl,⟨oP 131 rfl,oP 132 rfl⟩⟩,⟨⟨oP 133 rfl,oP 155 rfl⟩,⟨oP 156 rfl,oP 157 rfl⟩⟩⟩⟩,⟨⟨⟨oP 158 rfl,⟨oP 159 rfl,oP 160 rfl⟩⟩,⟨oP 175 rfl,⟨oP 176 rfl,oP 181 rfl⟩⟩⟩,⟨⟨oP 183 rfl,⟨oP 184 rfl,oP 185 rfl⟩⟩,⟨⟨oP 186 rfl,oP 215 rfl⟩,⟨oP 219 rfl,oP 220 rfl⟩⟩⟩⟩⟩⟩
theorem ssL:(((((((((type_of% @Go.Sx.runL.eq_1)∧(type_of% @dL))∧((type_of% @rj)∧((type_of% @nX)∧(type_of% @iU))))∧(((type_of% @nW)∧(type_of% @kR))∧((type_of% @nY)∧((type_of% @kS)∧(type_of% @nZ)))))∧((((type_of% @jV)∧(type_of% @rk))∧((type_of% @cd)∧((type_of% @cC)∧(type_of% @bQ))))∧(((type_of% @cm)∧(type_of% @Go.Sx.wants.eq_1))∧((type_of% @Go.Sx.wants.eq_2)∧((type_of% @Go.Sx.opd.eq_1)∧(type_of% @Go.Sx.opd.eq_2))))))∧(((((type_of% @Go.Sx.opd.eq_3)∧(type_of% @Go.Sx.get.eq_1))∧((type_of% @Go.Sx.get.eq_2)∧((type_of% @Go.Sx.putD.eq_1)∧(type_of% @Go.Sx.putD.eq_2))))∧(((type_of% @Go.Sx.binL.eq_1)∧(type_of% @Go.Sx.binL.eq_2))∧((type_of% @Go.Sx.isSh.eq_1)∧((type_of% @Go.Sx.isSh.eq_2)∧(type_of% @Go.Sx.isSh.eq_3)))))∧((((type_of% @du)∧(type_of% @dD))∧((type_of% @dC)∧((type_of% @eP)∧(type_of% @eR))))∧(((type_of% @dB)∧(type_of% @dA))∧((type_of% @dz)∧((type_of% @dw)∧(type_of% @Go.Sx.eqL.eq_1)))))))∧((((((type_of% @Go.Sx.eqL.eq_2)∧(type_of% @Go.Sx.eqL.eq_3))∧((type_of% @Go.Sx.eqL.eq_4)∧((type_of% @Go.Sx.eqL.eq_5)∧(type_of% @Go.Sx.eqL.eq_6))))∧(((type_of% @Go.Sx.eqL.eq_7)∧(type_of% @Go.Sx.eqL.eq_8))∧((type_of% @Go.Sx.eqL.eq_9)∧((type_of% @Go.Sx.eqL.eq_10)∧(type_of% @Go.Sx.eqL.eq_11)))))∧((((type_of% @Go.Sx.eqL.eq_12)∧(type_of% @Go.Sx.eqL.eq_13))∧((type_of% @Go.Sx.eqL.eq_14)∧((type_of% @fx)∧(type_of% @fw))))∧(((type_of% @Go.Sx.resVs.eq_1)∧(type_of% @Go.Sx.resVs.eq_2))∧((type_of% @Go.Sx.resV.eq_1)∧((type_of% @Go.Sx.resV.eq_2)∧(type_of% @Go.Sx.oneL.eq_1))))))∧(((((type_of% @Go.Sx.oneL.eq_2)∧(type_of% @Go.Sx.frz.eq_1))∧((type_of% @Go.Sx.frz.eq_2)∧((type_of% @Go.Sx.frz.go.eq_1)∧(type_of% @Go.Sx.frz.go.eq_2))))∧(((type_of% @frzL.eq_1)∧(type_of% @frzL.eq_2))∧((type_of% @frzL.eq_3)∧((type_of% @frzL.eq_4)∧(type_of% @frzL.eq_5)))))∧((((type_of% @frzL.eq_6)∧(type_of% @frzL.go.eq_1))∧((type_of% @frzL.go.eq_2)∧((type_of% @Go.Sx.ids.eq_1)∧(type_of% @Go.Sx.ids.eq_2))))∧(((type_of% @Go.Sx.ids.eq_3)∧(type_of% @Go.Sx.ids.eq_4))∧((type_of% @Go.Sx.ids.eq_5)∧((type_of% @Go.Sx.ids.eq_6)∧(type_of% @Go.Sx.ids.idsL.eq_1))))))))∧(((((((type_of% @Go.Sx.ids.idsL.eq_2)∧(type_of% @Go.Sx.updIds.eq_1))∧((type_of% @Go.Sx.updIds.eq_2)∧((type_of% @Go.Sx.updIds.eq_3)∧(type_of% @Go.Sx.reach.eq_1))))∧(((type_of% @Go.Sx.reach.eq_2)∧(type_of% @Go.Sx.reach.eq_3))∧((type_of% @Go.Sx.ren.eq_1)∧((type_of% @Go.Sx.ren.eq_2)∧(type_of% @Go.Sx.ren.eq_3)))))∧((((type_of% @Go.Sx.ren.eq_4)∧(type_of% @Go.Sx.ren.eq_5))∧((type_of% @Go.Sx.ren.eq_6)∧((type_of% @Go.Sx.ren.eq_7)∧(type_of% @Go.Sx.ren.go.eq_1))))∧(((type_of% @Go.Sx.ren.go.eq_2)∧(type_of% @Go.Sx.renU.eq_1))∧((type_of% @Go.Sx.renU.eq_2)∧((type_of% @Go.Sx.renN.eq_1)∧(type_of% @Go.Sx.renN.eq_2))))))∧(((((type_of% @Go.Sx.renO.eq_1)∧(type_of% @Go.Sx.renO.eq_2))∧((type_of% @Go.Sx.renO.eq_3)∧((type_of% @Go.Sx.renId.eq_1)∧(type_of% @Go.Sx.fillP.eq_1))))∧(((type_of% @Go.Sx.fillP.eq_2)∧(type_of% @Go.Sx.mkAgg.eq_1))∧((type_of% @Go.Sx.allP.eq_1)∧((type_of% @Go.Sx.allP.eq_2)∧(type_of% @Go.Sx.allP.eq_3)))))∧((((type_of% @Go.Sx.LV.cells.eq_1)∧(type_of% @Go.Sx.LV.cells.eq_2))∧((type_of% @Go.Sx.LV.cells.eq_3)∧((type_of% @Go.Sx.LV.cells.eq_4)∧(type_of% @Go.Sx.LV.cells.eq_5))))∧(((type_of% @Go.Sx.LV.cells.eq_6)∧(type_of% @Go.Sx.rd.eq_1))∧((type_of% @Go.Sx.findU.eq_1)∧((type_of% @Go.Sx.findU.eq_2)∧(type_of% @slCells.eq_1)))))))∧((((((type_of% @slCells.eq_2)∧(type_of% @slCells.eq_3))∧((type_of% @slCells.eq_4)∧((type_of% @sliceO.eq_1)∧(type_of% @sliceO.eq_2))))∧(((type_of% @sliceO.eq_3)∧(type_of% @Go.Value.oneCell'.eq_1))∧((type_of% @Go.Value.oneCell'.eq_2)∧((type_of% @Go.Value.oneCell'.eq_3)∧(type_of% @Go.Sx.mmL.eq_1)))))∧((((type_of% @Go.Sx.mmL.eq_2)∧(type_of% @Go.Sx.mm2.eq_1))∧((type_of% @Go.Sx.gslot.eq_1)∧((type_of% @Go.Sx.gslot.eq_2)∧(type_of% @IROp.slots.eq_1))))∧(((type_of% @IROp.slots.eq_2)∧(type_of% @IROp.slots.eq_3))∧((type_of% @IROp.slots.eq_4)∧((type_of% @IROp.slots.eq_5)∧(type_of% @IROp.slots.eq_6))))))∧(((((type_of% @IROp.slots.eq_7)∧(type_of% @IROp.slots.eq_8))∧((type_of% @IROp.slots.eq_9)∧((type_of% @IROp.slots.eq_10)∧(type_of% @IROp.slots.eq_11))))∧(((type_of% @IROp.slots.eq_12)∧(type_of% @IROp.slots.eq_13))∧((type_of% @IROp.slots.eq_14)∧((type_of% @IROp.slots.eq_15)∧(type_of% @IROp.slots.eq_16)))))∧((((type_of% @IROp.slots.eq_17)∧(type_of% @IROp.slots.eq_18))∧((type_of% @IROp.slots.eq_19)∧((type_of% @IROp.slots.eq_20)∧(type_of% @IROp.slots.eq_21))))∧(((type_of% @IROp.slots.eq_22)∧(type_of% @IROp.slots.eq_23))∧((type_of% @IROp.slots.eq_24)∧((type_of% @IROp.slots.eq_25)∧(type_of% @IROp.slots.eq_26)))))))))∧((((((((type_of% @IROp.slots.eq_27)∧(type_of% @IROp.slots.eq_28))∧((type_of% @IROp.slots.eq_29)∧((type_of% @IROp.slots.eq_30)∧(type_of% @IROp.slots.eq_31))))∧(((type_of% @IROp.slots.eq_32)∧(type_of% @IROp.slots.eq_33))∧((type_of% @IROp.slots.eq_34)∧((type_of% @IROp.slots.eq_35)∧(type_of% @IROp.slots.eq_36)))))∧((((type_of% @IROp.slots.eq_37)∧(type_of% @IROp.slots.eq_38))∧((type_of% @Go.Sx.Opd.slots.eq_1)∧((type_of% @Go.Sx.Opd.slots.eq_2)∧(type_of% @Go.Sx.indepD.eq_1))))∧(((type_of% @Go.Sx.quickD.eq_1)∧(type_of% @Go.Sx.quickD.eq_2))∧((type_of% @Go.Sx.indepR.eq_1)∧((type_of% @Go.Sx.indepR.eq_2)∧(type_of% @Go.Sx.indepR.eq_3))))))∧(((((type_of% @Go.Sx.pairsD.eq_1)∧(type_of% @Go.Sx.pairsD.eq_2))∧((type_of% @Go.Sx.apartD.eq_1)∧((type_of% @Nat.testBit.eq_1)∧(type_of% @Go.Sx.Obj.ids.eq_1))))∧(((type_of% @Go.Sx.Obj.ids.eq_2)∧(type_of% @Go.Sx.natL.eq_1))∧((type_of% @Go.Sx.optMap.eq_1)∧((type_of% @Go.Sx.optMap.eq_2)∧(type_of% @Go.undef.eq_1)))))∧((((type_of% @ltF)∧(type_of% @dU))∧((type_of% @db)∧((type_of% @pX)∧(type_of% @pW))))∧(((type_of% @pV)∧(type_of% @pU))∧((type_of% @dY)∧((type_of% @de)∧(type_of% @gA)))))))∧((((((type_of% @fh)∧(type_of% @gB))∧((type_of% @wI)∧((type_of% @lJ)∧(type_of% @eZ))))∧(((type_of% @n5)∧(type_of% @gF))∧((type_of% @fF)∧((type_of% @iH)∧(type_of% @jR)))))∧((((type_of% @iI)∧(type_of% @xM))∧((type_of% @bk.eq_1)∧((type_of% @bk.eq_2)∧(type_of% @bk.eq_3))))∧(((type_of% @bk.eq_4)∧(type_of% @bk.eq_5))∧((type_of% @bk.go.eq_1)∧((type_of% @bk.go.eq_2)∧(type_of% @bkO.eq_1))))))∧(((((type_of% @zU)∧(type_of% @pn))∧((type_of% @mz)∧((type_of% @mw)∧(type_of% @bkId.eq_1))))∧(((type_of% @renH.eq_1)∧(type_of% @renH.eq_2))∧((type_of% @outU.eq_1)∧((type_of% @outU.eq_2)∧(type_of% @outW.eq_1)))))∧((((type_of% @outP.eq_1)∧(type_of% @noW.eq_1))∧((type_of% @callK.eq_1)∧((type_of% @gp)∧(type_of% @callQ.eq_1))))∧(((type_of% @iteK_congr2)∧(type_of% @xP))∧((type_of% @mO)∧((type_of% @mN)∧(type_of% @jt))))))))∧(((((((type_of% @js)∧(type_of% @mP))∧((type_of% @kC)∧((type_of% @kz)∧(type_of% @iv))))∧(((type_of% @pI)∧(type_of% @qc))∧((type_of% @qd)∧((type_of% @mY)∧(type_of% @ry)))))∧((((type_of% @mT)∧(type_of% @qm))∧((type_of% @qo)∧((type_of% @uC)∧(type_of% @tQ))))∧(((type_of% @pH)∧(type_of% @pG))∧((type_of% @xQ)∧((type_of% @nk)∧(type_of% @tR))))))∧(((((type_of% @n8)∧(type_of% @pL))∧((type_of% @mV)∧((type_of% @mU)∧(type_of% @tP))))∧(((type_of% @pl)∧(type_of% @mo))∧((type_of% @mj)∧((type_of% @gr)∧(type_of% @pN)))))∧((((type_of% @pO)∧(type_of% @mQ))∧((type_of% @xS)∧((type_of% @xR)∧(type_of% @ku))))∧(((type_of% @uj)∧(type_of% @pZ))∧((type_of% @jw)∧((type_of% @nn)∧(type_of% @np)))))))∧((((((type_of% @kw)∧(type_of% @kv))∧((type_of% @xY)∧((type_of% @mX)∧(type_of% @pK))))∧(((type_of% @mS)∧(type_of% @mR))∧((type_of% @qh)∧((type_of% @uv)∧(type_of% @qg)))))∧((((type_of% @ph)∧(type_of% @s0))∧((type_of% @pg)∧((type_of% @tO)∧(type_of% @pj))))∧(((type_of% @s8)∧(type_of% @pi))∧((type_of% @ky)∧((type_of% @ko)∧(type_of% @kq))))))∧(((((type_of% @t8)∧(type_of% @ju))∧((type_of% @jv)∧((type_of% @tT)∧(type_of% @kD))))∧(((type_of% @pJ)∧(type_of% @tW))∧((type_of% @nF)∧((type_of% @qv)∧(type_of% @tV)))))∧((((type_of% @jx)∧(type_of% @pz))∧((type_of% @pF)∧((type_of% @ro)∧(type_of% @mW))))∧(((type_of% @oD)∧((type_of% @xU)∧(type_of% @ya)))∧((type_of% @mZ)∧((type_of% @m6)∧(type_of% @yq)))))))))):=
 ⟨⟨⟨⟨⟨⟨⟨⟨@Go.Sx.runL.eq_1,@dL⟩,⟨@rj,⟨@nX,@iU⟩⟩⟩,⟨⟨@nW,@kR⟩,⟨@nY,⟨@kS,@nZ⟩⟩⟩⟩,⟨⟨⟨@jV,@rk⟩,⟨@cd,⟨@cC,@bQ⟩⟩⟩,⟨⟨@cm,@Go.Sx.wants.eq_1⟩,⟨@Go.Sx.wants.eq_2,⟨@Go.Sx.opd.eq_1,@Go.Sx.opd.eq_2⟩⟩⟩⟩⟩,⟨⟨⟨⟨@Go.Sx.opd.eq_3,@Go.Sx.get.eq_1⟩,⟨@Go.Sx.get.eq_2,⟨@Go.Sx.putD.eq_1,@Go.Sx.putD.eq_2⟩⟩⟩,⟨⟨@Go.Sx.binL.eq_1,@Go.Sx.binL.eq_2⟩,⟨@Go.Sx.isSh.eq_1,⟨@Go.Sx.isSh.eq_2,@Go.Sx.isSh.eq_3⟩⟩⟩⟩,⟨⟨⟨@du,@dD⟩,⟨@dC,⟨@eP,@eR⟩⟩⟩,⟨⟨@dB,@dA⟩,⟨@dz,⟨@dw,@Go.Sx.eqL.eq_1⟩⟩⟩⟩⟩⟩,⟨⟨⟨⟨⟨@Go.Sx.eqL.eq_2,@Go.Sx.eqL.eq_3⟩,⟨@Go.Sx.eqL.eq_4,⟨@Go.Sx.eqL.eq_5,@Go.Sx.eqL.eq_6⟩⟩⟩,⟨⟨@Go.Sx.eqL.eq_7,@Go.Sx.eqL.eq_8⟩,⟨@Go.Sx.eqL.eq_9,⟨@Go.Sx.eqL.eq_10,@Go.Sx.eqL.eq_11⟩⟩⟩⟩,⟨⟨⟨@Go.Sx.eqL.eq_12,@Go.Sx.eqL.eq_13⟩,⟨@Go.Sx.eqL.eq_14,⟨@fx,@fw⟩⟩⟩,⟨⟨@Go.Sx.resVs.eq_1,@Go.Sx.resVs.eq_2⟩,⟨@Go.Sx.resV.eq_1,⟨@Go.Sx.resV.eq_2,@Go.Sx.oneL.eq_1⟩⟩⟩⟩⟩,⟨⟨⟨⟨@Go.Sx.oneL.eq_2,@Go.Sx.frz.eq_1⟩,⟨@Go.Sx.frz.eq_2,⟨@Go.Sx.frz.go.eq_1,@Go.Sx.frz.go.eq_2⟩⟩⟩,⟨⟨@frzL.eq_1,@frzL.eq_2⟩,⟨@frzL.eq_3,⟨@frzL.eq_4,@frzL.eq_5⟩⟩⟩⟩,⟨⟨⟨@frzL.eq_6,@frzL.go.eq_1⟩,⟨@frzL.go.eq_2,⟨@Go.Sx.ids.eq_1,@Go.Sx.ids.eq_2⟩⟩⟩,⟨⟨@Go.Sx.ids.eq_3,@Go.Sx.ids.eq_4⟩,⟨@Go.Sx.ids.eq_5,⟨@Go.Sx.ids.eq_6,@Go.Sx.ids.idsL.eq_1⟩⟩⟩⟩⟩⟩⟩,⟨⟨⟨⟨⟨⟨@Go.Sx.ids.idsL.eq_2,@Go.Sx.updIds.eq_1⟩,⟨@Go.Sx.updIds.eq_2,⟨@Go.Sx.updIds.eq_3,@Go.Sx.reach.eq_1⟩⟩⟩,⟨⟨@Go.Sx.reach.eq_2,@Go.Sx.reach.eq_3⟩,⟨@Go.Sx.ren.eq_1,⟨@Go.Sx.ren.eq_2,@Go.Sx.ren.eq_3⟩⟩⟩⟩,⟨⟨⟨@Go.Sx.ren.eq_4,@Go.Sx.ren.eq_5⟩,⟨@Go.Sx.ren.eq_6,⟨@Go.Sx.ren.eq_7,@Go.Sx.ren.go.eq_1⟩⟩⟩,⟨⟨@Go.Sx.ren.go.eq_2,@Go.Sx.renU.eq_1⟩,⟨@Go.Sx.renU.eq_2,⟨@Go.Sx.renN.eq_1,@Go.Sx.renN.eq_2⟩⟩⟩⟩⟩,⟨⟨⟨⟨@Go.Sx.renO.eq_1,@Go.Sx.renO.eq_2⟩,⟨@Go.Sx.renO.eq_3,⟨@Go.Sx.renId.eq_1,@Go.Sx.fillP.eq_1⟩⟩⟩,⟨⟨@Go.Sx.fillP.eq_2,@Go.Sx.mkAgg.eq_1⟩,⟨@Go.Sx.allP.eq_1,⟨@Go.Sx.allP.eq_2,@Go.Sx.allP.eq_3⟩⟩⟩⟩,⟨⟨⟨@Go.Sx.LV.cells.eq_1,@Go.Sx.LV.cells.eq_2⟩,⟨@Go.Sx.LV.cells.eq_3,⟨@Go.Sx.LV.cells.eq_4,@Go.Sx.LV.cells.eq_5⟩⟩⟩,⟨⟨@Go.Sx.LV.cells.eq_6,@Go.Sx.rd.eq_1⟩,⟨@Go.Sx.findU.eq_1,⟨@Go.Sx.findU.eq_2,@slCells.eq_1⟩⟩⟩⟩⟩⟩,⟨⟨⟨⟨⟨@slCells.eq_2,@slCells.eq_3⟩,⟨@slCells.eq_4,⟨@sliceO.eq_1,@sliceO.eq_2⟩⟩⟩,⟨⟨@sliceO.eq_3,@Go.Value.oneCell'.eq_1⟩,⟨@Go.Value.oneCell'.eq_2,⟨@Go.Value.oneCell'.eq_3,@Go.Sx.mmL.eq_1⟩⟩⟩⟩,⟨⟨⟨@Go.Sx.mmL.eq_2,@Go.Sx.mm2.eq_1⟩,⟨@Go.Sx.gslot.eq_1,⟨@Go.Sx.gslot.eq_2,@IROp.slots.eq_1⟩⟩⟩,⟨⟨@IROp.slots.eq_2,@IROp.slots.eq_3⟩,⟨@IROp.slots.eq_4,⟨@IROp.slots.eq_5,@IROp.slots.eq_6⟩⟩⟩⟩⟩,⟨⟨⟨⟨@IROp.slots.eq_7,@IROp.slots.eq_8⟩,⟨@IROp.slots.eq_9,⟨@IROp.slots.eq_10,@IROp.slots.eq_11⟩⟩⟩,⟨⟨@IROp.slots.eq_12,@IROp.slots.eq_13⟩,⟨@IROp.slots.eq_14,⟨@IROp.slots.eq_15,@IROp.slots.eq_16⟩⟩⟩⟩,⟨⟨⟨@IROp.slots.eq_17,@IROp.slots.eq_18⟩,⟨@IROp.slots.eq_19,⟨@IROp.slots.eq_20,@IROp.slots.eq_21⟩⟩⟩,⟨⟨@IROp.slots.eq_22,@IROp.slots.eq_23⟩,⟨@IROp.slots.eq_24,⟨@IROp.slots.eq_25,@IROp.slots.eq_26⟩⟩⟩⟩⟩⟩⟩⟩,⟨⟨⟨⟨⟨⟨⟨@IROp.slots.eq_27,@IROp.slots.eq_28⟩,⟨@IROp.slots.eq_29,⟨@IROp.slots.eq_30,@IROp.slots.eq_31⟩⟩⟩,⟨⟨@IROp.slots.eq_32,@IROp.slots.eq_33⟩,⟨@IROp.slots.eq_34,⟨@IROp.slots.eq_35,@IROp.slots.eq_36⟩⟩⟩⟩,⟨⟨⟨@IROp.slots.eq_37,@IROp.slots.eq_38⟩,⟨@Go.Sx.Opd.slots.eq_1,⟨@Go.Sx.Opd.slots.eq_2,@Go.Sx.indepD.eq_1⟩⟩⟩,⟨⟨@Go.Sx.quickD.eq_1,@Go.Sx.quickD.eq_2⟩,⟨@Go.Sx.indepR.eq_1,⟨@Go.Sx.indepR.eq_2,@Go.Sx.indepR.eq_3⟩⟩⟩⟩⟩,⟨⟨⟨⟨@Go.Sx.pairsD.eq_1,@Go.Sx.pairsD.eq_2⟩,⟨@Go.Sx.apartD.eq_1,⟨@Nat.testBit.eq_1,@Go.Sx.Obj.ids.eq_1⟩⟩⟩,⟨⟨@Go.Sx.Obj.ids.eq_2,@Go.Sx.natL.eq_1⟩,⟨@Go.Sx.optMap.eq_1,⟨@Go.Sx.optMap.eq_2,@Go.undef.eq_1⟩⟩⟩⟩,⟨⟨⟨@ltF,@dU⟩,⟨@db,⟨@pX,@pW⟩⟩⟩,⟨⟨@pV,@pU⟩,⟨@dY,⟨@de,@gA⟩⟩⟩⟩⟩⟩,⟨⟨⟨⟨⟨@fh,@gB⟩,⟨@wI,⟨@lJ,@eZ⟩⟩⟩,⟨⟨@n5,@gF⟩,⟨@fF,⟨@iH,@jR⟩⟩⟩⟩,⟨⟨⟨@iI,@xM⟩,⟨@bk.eq_1,⟨@bk.eq_2,@bk.eq_3⟩⟩⟩,⟨⟨@bk.eq_4,@bk.eq_5⟩,⟨@bk.go.eq_1,⟨@bk.go.eq_2,@bkO.eq_1⟩⟩⟩⟩⟩,⟨⟨⟨⟨@zU,@pn⟩,⟨@mz,⟨@mw,@bkId.eq_1⟩⟩⟩,⟨⟨@renH.eq_1,@renH.eq_2⟩,⟨@outU.eq_1,⟨@outU.eq_2,@outW.eq_1⟩⟩⟩⟩,⟨⟨⟨@outP.eq_1,@noW.eq_1⟩,⟨@callK.eq_1,⟨@gp,@callQ.eq_1⟩⟩⟩,⟨⟨@iteK_congr2,@xP⟩,⟨@mO,⟨@mN,@jt⟩⟩⟩⟩⟩⟩⟩,⟨⟨⟨⟨⟨⟨@js,@mP⟩,⟨@kC,⟨@kz,@iv⟩⟩⟩,⟨⟨@pI,@qc⟩,⟨@qd,⟨@mY,@ry⟩⟩⟩⟩,⟨⟨⟨@mT,@qm⟩,⟨@qo,⟨@uC,@tQ⟩⟩⟩,⟨⟨@pH,@pG⟩,⟨@xQ,⟨@nk,@tR⟩⟩⟩⟩⟩,⟨⟨⟨⟨@n8,@pL⟩,⟨@mV,⟨@mU,@tP⟩⟩⟩,⟨⟨@pl,@mo⟩,⟨@mj,⟨@gr,@pN⟩⟩⟩⟩,⟨⟨⟨@pO,@mQ⟩,⟨@xS,⟨@xR,@ku⟩⟩⟩,⟨⟨@uj,@pZ⟩,⟨@jw,⟨@nn,@np⟩⟩⟩⟩⟩⟩,⟨⟨⟨⟨⟨@kw,@kv⟩,⟨@xY,⟨@mX,@pK⟩⟩⟩,⟨⟨@mS,@mR⟩,⟨@qh,⟨@uv,@qg⟩⟩⟩⟩,⟨⟨⟨@ph,@s0⟩,⟨@pg,⟨@tO,@pj⟩⟩⟩,⟨⟨@s8,@pi⟩,⟨@ky,⟨@ko,@kq⟩⟩⟩⟩⟩,⟨⟨⟨⟨@t8,@ju⟩,⟨@jv,⟨@tT,@kD⟩⟩⟩,⟨⟨@pJ,@tW⟩,⟨@nF,⟨@qv,@tV⟩⟩⟩⟩,⟨⟨⟨@jx,@pz⟩,⟨@pF,⟨@ro,@mW⟩⟩⟩,⟨⟨@oD,⟨@xU,@ya⟩⟩,⟨@mZ,⟨@m6,@yq⟩⟩⟩⟩⟩⟩⟩⟩⟩
theorem ssM:((((((type_of% @aE)∧(type_of% @dQ))∧((type_of% @eT)∧((type_of% @fC)∧(type_of% @er))))∧(((type_of% @fB)∧((type_of% @fA)∧(type_of% @aA)))∧((type_of% @fo)∧((type_of% @gJ)∧(type_of% @fp)))))∧((((type_of% @c9)∧((type_of% @eV)∧(type_of% @gl)))∧((type_of% @eW)∧((type_of% @fD)∧(type_of% @jz))))∧(((type_of% @gw)∧((type_of% @e9)∧(type_of% @dT)))∧((type_of% @da)∧((type_of% @dS)∧(type_of% @ei))))))∧(((((type_of% @ej)∧(type_of% @ek))∧((type_of% @dn)∧((type_of% @eo)∧(type_of% @dm))))∧(((type_of% @ef)∧((type_of% @dk)∧(type_of% @i5)))∧((type_of% @i6)∧((type_of% @gR)∧(type_of% @gS)))))∧((((type_of% @i7)∧((type_of% @i8)∧(type_of% @i9)))∧((type_of% @ja)∧((type_of% @ee)∧(type_of% @eg))))∧(((type_of% @eh)∧((type_of% @eX)∧(type_of% @dX)))∧((type_of% @cQ)∧((type_of% @cx)∧(type_of% @dP))))))):=
 ⟨⟨⟨⟨⟨@aE,@dQ⟩,⟨@eT,⟨@fC,@er⟩⟩⟩,⟨⟨@fB,⟨@fA,@aA⟩⟩,⟨@fo,⟨@gJ,@fp⟩⟩⟩⟩,⟨⟨⟨@c9,⟨@eV,@gl⟩⟩,⟨@eW,⟨@fD,@jz⟩⟩⟩,⟨⟨@gw,⟨@e9,@dT⟩⟩,⟨@da,⟨@dS,@ei⟩⟩⟩⟩⟩,⟨⟨⟨⟨@ej,@ek⟩,⟨@dn,⟨@eo,@dm⟩⟩⟩,⟨⟨@ef,⟨@dk,@i5⟩⟩,⟨@i6,⟨@gR,@gS⟩⟩⟩⟩,⟨⟨⟨@i7,⟨@i8,@i9⟩⟩,⟨@ja,⟨@ee,@eg⟩⟩⟩,⟨⟨@eh,⟨@eX,@dX⟩⟩,⟨@cQ,⟨@cx,@dP⟩⟩⟩⟩⟩⟩
theorem bW : ∀ l:List UInt8,bytesL (byt l)=some l
 | []=>rfl
 | b::r=>by
  have:bytesL (byt (b::r))=(match bytesL (byt r) with|some l=>some (UInt8.ofNat (b.toNat:Int).toNat::l)|none=>none):=rfl
  rw [this,bW r]
  simp
theorem yz (l:List UInt8) (cp:Nat) (ex:Bool) (h0:l≠[]) (h30:l.length<2^31):Ψ 102 [.arr 0 0 l.length 1 cp ex] [some (.cells (byt l))]=some (.p (.sl (bytP l) l.length 1 false)):=by
 have h41:l.length≤1099511627776:=by omega
 refine aU (ir:=ir102) (by kernel_rfl) ?_;simp +contextual (maxSteps:=1000000) [ir102,ssL,↓ssM,aa,ssU,Go.Sx.LV.undef,Go.undef,ssR,ax,ak,aD,aH,aK,aO,aR,aB,aF,h0,h41]
theorem r6 (l:List UInt8) (id cp:Nat) (ex:Bool) (h0:0<l.length) (h30:l.length<2^31) (H:Heap) (nx:Nat) (hl:H id=some (.cells (byt l))) (hid:id<nx):Ω 102 [.arr id 0 l.length 1 cp ex] H nx=
  some (.p (.sl (bytP l) l.length 1 false),[],[]):=by
 have h1:l≠[]:=by intro e;subst e;simp at h0
 simp [ssL,↓ssM,aa,ssU,Go.Sx.LV.undef,Go.undef,ssR,ax,ak,aD,aH,aK,aO,aR,aB,aF,hl,yz l cp ex h1 h30]
theorem pw (l:List UInt8) (fl:Bool) (h30:l.length<2^31):Ψ 102 [.p (.sl (bytP l) l.length 1 fl)] []=some (.p (.sl (bytP l) l.length 1 l.isEmpty)):=by
 have h41:l.length≤1099511627776:=by omega
 by_cases h0:l=[]
 ·subst h0;refine aU (ir:=ir102) (by kernel_rfl) ?_;simp +contextual (maxSteps:=1000000) [ir102,ssL,↓ssM,aa,ssU,Go.Sx.LV.undef,Go.undef,ssR,bytP]
 ·refine aU (ir:=ir102) (by kernel_rfl) ?_;simp +contextual (maxSteps:=1000000) [ir102,ssL,↓ssM,aa,ssU,Go.Sx.LV.undef,Go.undef,ssR,ax,ak,aD,aH,aK,aO,aR,aB,aF,h41,h0,aJ]
theorem gZ (k:Nat) (l:List UInt8):List.take (l.length-k) (List.drop k (bytP l))=bytP (l.drop k):=by
 rw [rT,List.take_of_length_le];rw [ak,List.length_drop];exact Nat.le_refl _
abbrev sB (fl:Bool) (p:List UInt8):LV:=.p (.sl (bytP p) p.length 1 fl)
abbrev wi (fl:Bool) (p:List UInt8) (e:Int):Ob:=some (.cells [sB fl p,.int .i64 e])
theorem ct (fl p e):Ψ 72 [.ref 0 0] [wi fl p e]=some (.int .i64 e):=by
 refine aU (ir:=ir72) (by kernel_rfl) ?_;simp +contextual (maxSteps:=1000000) [ir72,ssL,↓ssM,aa,ssU,Go.Sx.LV.undef,Go.undef,ssR]
theorem yL (fl p e):Ψ 108 [.ref 0 0] [wi fl p e]=some (.int .i64 p.length):=by
 refine aU (ir:=ir108) (by kernel_rfl) ?_;simp +contextual (maxSteps:=1000000) [ir108,ssL,↓ssM,aa,ssU,Go.Sx.LV.undef,Go.undef,ssR]
theorem cw (fl p e k):Φ 74 [.ref 0 0,.int .i64 k] [wi fl p e]=some (.tuple [],[wi fl p (if e=0 then k else e)]):=by
 by_cases h:e=0
 all_goals
 refine aP (ir:=ir74) (by kernel_rfl) ?_;simp +contextual (maxSteps:=1000000) [ir74,ssL,↓ssM,aa,ssU,Go.Sx.LV.undef,Go.undef,ssR,h]
theorem xV (fl p e):Φ 77 [.ref 0 0] [wi fl p e]=some (.int .i64 (if e=0∧p≠[] then 6 else e),[wi fl p (if e=0∧p≠[] then 6 else e)]):=by
 refine aP (ir:=ir77) (by kernel_rfl) ?_;simp +contextual (maxSteps:=1000000) [ir77,ssL,↓ssM,aa,ssU,Go.Sx.LV.undef,Go.undef,ssR,yL,cw,ct]
 by_cases h:p=[]<;>simp [h,iteK]
end Go.Proofs.YtoeblkipfdnnlaaGreatDoor
end

section
namespace Go.Proofs.YtoeblkipfdnnlaaGreatDoor
open Go Go.Sx
theorem fE (H:Heap) (nx:Nat) (x:PV) (h:Hp) (hu:h.upd=[]):finish false H nx (.p x) h=some (.p x,[],[]):=by
 simp [finish,frz,frzL,hu,updIds,reach,ren,renU,renN,Go.Sx.ids]
theorem oE (H:Heap) (nx:Nat):Ω 117 [] H nx=some (.ref nx 0,[],[some (.cells [.p (.s (.slice none 0 0)),.int .i64 0])]):=by
 refine av (ir:=ir117) (by kernel_rfl) 0 ?_
 simp [ir117,ssB,ssU,Go.Sx.LV.undef,Go.undef,ssP,appO]
theorem vP {H:Heap} {nx wid pid n:Nat} {p:List UInt8} (g:Wr H nx wid pid p n) (h0:0<n):Ω 119 [.ref wid 0] H nx=some (.p (.sl (bytP p) p.length 1 false),[],[]):=by
 refine av (ir:=ir119) (by kernel_rfl) 0 ?_
 obtain ⟨h1,h2,h3,h4,h5⟩:=(g.at').resolve_left (by omega)
 have hlen:=g.len
 have hs:=g.small
 have hlt:=g.lt
 have c:=fun id H nx=>r6 p id p.length false (by omega) (by omega) H nx
 simp [ir119,ssB,ssU,Go.Sx.LV.undef,Go.undef,ssP,appO,hlt,h4,h5,h2,c,ax,ak,aD,aH,aK,aO,aR,aB,aF]
theorem vm {c:Ctx} {n:Nat} {A B:IRC} {st st':St} (h:runCS c n (.seq A B) st=some (.normal,st')) (K:IRC):runCS c n (.seq A (.seq B K)) st=runCS c n K st':=by
 rw [cz] at h ⊢
 cases hA:runCS c n A st with
 | none=>rw [hA] at h;cases h
 | some r=>
  obtain ⟨ex,s⟩:=r
  rw [hA] at h
  cases ex<;>simp only [] at h ⊢
  ·rw [cz,h]
  all_goals simp at h
def pack (l:List Bool):List UInt8:=addBits [] 0 l
abbrev wr0:Ob:=some (.cells [.p (.s (.slice none 0 0)),.int .i64 0])
def cevA:IRC:=seqL ir84.body
def cevB:IRC:=seqL (seqR ir84.body)
def cevC:IRC:=seqL (seqR (seqR ir84.body))
def cevD:IRC:=seqR (seqR (seqR ir84.body))
theorem r5:ir84=⟨[0],.seq cevA (.seq cevB (.seq cevC cevD)),[(2,none)],false⟩:=rfl
theorem z8 (i:Ev) (H:Heap) (nx n:Nat):runCS ⟨Ω,gG,H,nx⟩ n (.seq cevA cevB) ⟨[(0,.p i.pv)],⟨[],[]⟩⟩=some (.normal,⟨[(1,.ref nx 0),(3,.ref (nx+1) 0)],⟨[],[evC i,wr0]⟩⟩):=by
 have w:=oE
 simp [cevA,cevB,seqL,seqR,ir84,ssB,ssU,Go.Sx.LV.undef,Go.undef,ssP,appO,w]
theorem yV {H:Heap} {nx:Nat} {o:Ob} {u:Upd} {m:List (Ob)} {pid' n':Nat} {p':List UInt8} (po:Post (Go.Sx.look H nx ⟨[],[o,wr0]⟩) (nx+2) (nx+1) 0 0 u m pid' p' n'):
  Wr (Go.Sx.look H nx (aft nx ⟨[],[o,wr0]⟩ u m)) (nx+(aft nx ⟨[],[o,wr0]⟩ u m).new.length) (nx+1) pid' p' n'∧(aft nx ⟨[],[o,wr0]⟩ u m).upd=[]:=by
 have hk : ∀ id o',findU u id=some o'→id<nx+(⟨[],[o,wr0]⟩:Hp).new.length:=po.keys
 have hlook:Go.Sx.look H nx (aft nx ⟨[],[o,wr0]⟩ u m)=Go.Sx.look (Go.Sx.look H nx ⟨[],[o,wr0]⟩) (nx+2) ⟨u,m⟩:=funext fun id=>dJ hk id
 have hlen:(aft nx ⟨[],[o,wr0]⟩ u m).new.length=2+m.length:=by simp [aft,bj]
 refine ⟨?_,?_⟩
 ·rw [hlook,hlen,←Nat.add_assoc];exact po.wr
 ·have hf:=po.form
  rw [if_pos rfl] at hf
  have h1 : ¬nx+1<nx:=by omega
  cases hf with
  | f1 X=>simp [aft,setAll,Go.Sx.setObj,h1]
  | f2 X Z h=>omega
  | f3 X Z h=>omega
theorem zR (H:Heap) (nx:Nat) (o:Ob):Wr (Go.Sx.look H nx ⟨[],[o,wr0]⟩) (nx+2) (nx+1) 0 [] 0:=
 ⟨by omega,rfl,by decide,.inl ⟨rfl,by simp [Go.Sx.look,ltF]⟩⟩
theorem fJ (i:Ev):0<(evBits i).length:=by
 cases i<;>(unfold evBits;simp [aj];try omega)
theorem ov (i:Ev) (hm:i.max<2^64) (hb:(evBits i).length<2^29) (H:Heap) (nx:Nat):Ω 84 [.p i.pv] H nx=some (.p (.sl (bytP (pack (evBits i))) (pack (evBits i)).length 1 false),[],[]):=by
 refine av (ir:=ir84) (by kernel_rfl) 0 ?_
 rw [r5]
 obtain ⟨u,m,pid',e,po⟩:=ic i hm _ _ _ _ _ _ (zR H nx (evC i)) (by omega)
 obtain ⟨w,hu⟩:=yV po
 have b:=vP w (by have:=fJ i;omega)
 rw [←pack] at b
 have ab:=z8 i H nx 0
 have f:=fE H nx (.sl (bytP (pack (evBits i))) (pack (evBits i)).length 1 false) _ hu
 have lk:Go.Sx.look H nx ⟨[],[evC i,wr0]⟩ nx=evC i:=by simp [Go.Sx.look,ltF]
 have e':Ω 118 [.ref (nx+1) 0,.p i.pv] (Go.Sx.look H nx ⟨[],[evC i,wr0]⟩) (nx+(⟨[],[evC i,wr0]⟩:Hp).new.length)=some (.tuple [],u,m):=e
 clear e po w hu hb
 generalize pack (evBits i)=B at*
 have hc:runCS ⟨Ω,gG,H,nx⟩ 0 (.seq cevC cevD) ⟨[(1,.ref nx 0),(3,.ref (nx+1) 0)],⟨[],[evC i,wr0]⟩⟩=some (.ret,⟨[(2,.p (.sl (bytP B) B.length 1 false))],aft nx ⟨[],[evC i,wr0]⟩ u m⟩):=by
  generalize (⟨[],[evC i,wr0]⟩:Hp)=h0 at*
  simp [cevC,cevD,seqL,seqR,ir84,ssB,ssU,Go.Sx.LV.undef,Go.undef,aq,ao,ae,Go.Sx.splice,appO,Go.Sx.leI_eq,ltF,lk,e',b]
 have ab':=vm ab
 generalize IRC.seq cevC cevD=K at*
 rw [←ab'] at hc
 generalize IRC.seq cevA (.seq cevB K)=K2 at*
 simp [ssB,ssU,Go.Sx.LV.undef,Go.undef,aq,ao,ae,Go.Sx.splice,appO,Go.Sx.leI_eq,ltF,hc,f]
end Go.Proofs.YtoeblkipfdnnlaaGreatDoor
end
