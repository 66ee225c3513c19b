/- What the proof of the claim leans on, part 3 of 5: the value machine, the functions as it has them, their specifications. No condition. -/
import Derived.Test.YtppeggedcaabkaaGreatDoorC2
import Derived.Test.YtppeggedcaabkaaGreatDoorChecked
import Derived.KernelRfl
import Derived.WalkKit
set_option linter.all false
set_option linter.unnecessarySimpa false
set_option linter.unusedSimpArgs false
set_option linter.unusedVariables false
set_option linter.constructorNameAsVariable false
set_option maxHeartbeats 4000000
section
namespace Go.Proofs.YtppeggedcaabkaaGreatDoor
open Go Go.Sx
def ir115:IRF:=⟨[0,1,2],(.seq (.region [qX 4 (.box false (.t 1)),qX 5 (.box false (.t 2)),qX 6 (.alloc false [zu,zp])] none [0,4,5,6]) (.seq (.seq (.region [qF 8 1 4,qL 9 1 8,qX 10 (.eq false .ptr (.t 9) qp),qM 11 10,qF 12 1 5 (qy 11),qL 13 1 12 (qy 11),qX 14 (.eq false .ptr (.t 13) qp) (qy 11),qA 15 11 14,qM 16 15,qF 17 0 4 (qy 16),qL 18 1 17 (qy 16),qF 19 0 5 (qy 16),qL 20 1 19 (qy 16),qB 21 .eql (.t 18) (.t 20) (qy 16),qA 22 16 21] none [0,4,5,6,22]) (.cond (.t 22) (.seq (.region [qM 23 0,qF 24 0 4,qL 25 1 24,qB 26 .add (.t 23) (.t 25),qX 27 (.build [zu,zp] [(0,1,(.t 26))]),qS 2 6 27] none [6]) .ret) .skip)) (.seq (.region [qF 28 0 4,qL 29 1 28,qF 30 0 5,qL 31 1 30,qX 32 (.minmax false [(.t 29),(.t 31)]),qM 7 32] none [0,4,5,6,7]) (.seq (.region [qF 33 0 4,qL 34 1 33,qM 35 7,qB 36 .sub (.t 34) (.t 35),qF 37 0 4,qS 1 37 36] none [0,4,5,6,7]) (.seq (.region [qF 38 0 5,qL 39 1 38,qM 40 7,qB 41 .sub (.t 39) (.t 40),qF 42 0 5,qS 1 42 41] none [0,4,5,6,7]) (.seq (.region [qM 43 0,qM 44 7,qB 45 .add (.t 43) (.t 44),qT 46 2 4,qT 47 2 5,qX 48 (.build [zu,zp,zu,zp] [(0,2,(.t 46)),(2,2,(.t 47))]),qX 49 (.box true (.t 48)),qX 50 (.build [zu,zp] [(0,1,(.t 45)),(1,1,(.t 49))]),qS 2 6 50] none [6]) .ret)))))),[(6,some (2,true))],false⟩
def ir116:IRF:=⟨[0],(.seq (.region [qX 1 (.box false (.t 0)),qV 2 (qi 0)] none [1]) (.seq (.block 0 (.seq (.region [qT 4 2 1,qC 5 158 [(.t 4)],qB 6 .gtr (.t 5) (qi 16),qM 3 6] none [1,3]) (.cond (.t 3) (.seq (.region [qV 2 (qi 3)] none [2]) .ret) (.seq (.region [qT 8 2 1,qC 9 159 [(.t 8)],qB 10 .gtr (.t 9) (qu 1048576),qM 7 10] none [7]) (.cond (.t 7) (.seq (.region [qV 2 (qi 4)] none [2]) .ret) .skip))))) (.seq (.region [qV 2 (qi 0)] none [2]) .ret))),[(2,none)],false⟩
def ir117:IRF:=⟨[0,1],(.seq (.region [qX 2 (.box false (.t 0)),qX 3 (.box false (.t 1)),qX 4 (.alloc false [zf,zp])] none [2,3,4]) (.seq (.block 0 (.seq (.region [qT 6 2 2,qC 7 86 [(.t 6)],qM 8 7,qT 9 2 3 (qy 8),qC 10 86 [(.t 9)] (qy 8),qA 11 8 10,qM 5 11] none [2,3,4,5]) (.cond (.t 5) (.seq (.region [qC 12 65 [],qS 2 4 12] none [4]) .ret) (.seq (.region [qT 14 2 2,qC 15 160 [(.t 14)],qM 16 15,qT 17 2 3 (qy 16),qC 18 160 [(.t 17)] (qy 16),qA 19 16 18,qM 13 19] none [2,3,4,13]) (.cond (.t 13) (.seq (.region [qC 20 66 [],qS 2 4 20] none [4]) .ret) .skip))))) (.seq (.region [qT 21 2 2,qT 22 2 3,qX 23 (.build [zf,zp,zf,zp] [(0,2,(.t 21)),(2,2,(.t 22))]),qX 24 (.box true (.t 23)),qX 25 (.build [zf,zp] [(1,1,(.t 24))]),qS 2 4 25] none [4]) .ret))),[(4,some (2,true))],false⟩
def ir118:IRF:=⟨[0],(.seq (.region [qX 1 (.box false (.t 0)),qV 2 (qi 0)] none [1]) (.seq (.seq (.region [qF 3 1 1,qL 4 1 3,qX 5 (.eq false .ptr (.t 4) qp)] none [1,5]) (.cond (.t 5) (.seq (.region [qV 2 (qi 0)] none [2]) .ret) .skip)) (.seq (.region [qF 6 1 1,qL 7 1 6,qN 8 7,qF 9 0 8,qT 10 2 9,qC 11 118 [(.t 10)],qF 12 1 1,qL 13 1 12,qN 14 13,qF 15 2 14,qT 16 2 15,qC 17 118 [(.t 16)],qX 18 (.minmax true [(.t 11),(.t 17)]),qB 19 .add (qi 1) (.t 18),qM 2 19] (some [0,1,3,7,15,31,0,64,192,448,960,2047,4095,8191,16383]) [2]) .ret))),[(2,none)],false⟩
def ir119_0:IRC:=(.seq (.tidy [0,5] []) (.seq (.seq (.region [qM 13 5,qM 14 0,qX 15 (.len true (.t 14)),qB 16 .lss (.t 13) (.t 15)] none [0,5,16]) (.seq (.cond (.t 16) .skip (.seq (qR []) (.exit 0))) (qR [0,5]))) (.block 1 (.seq (.region [qM 18 0,qM 19 5,qC 20 161 [(.t 18),(.t 19)],qM 17 20,qE 21 17 0,qE 22 17 1,qE 23 17 2,qM 6 21,qM 7 22,qM 8 23] none [0,5,6,7,8]) (.seq (.seq (.region [qM 24 8,qX 25 (.un .not (.t 24)),qM 26 25,qM 27 6 (qn 26),qB 28 .lss (.t 27) (qi 32) (qn 26),qO 29 26 28,qM 30 29,qM 31 6 (qn 30),qB 32 .eql (.t 31) (qi 127) (qn 30),qO 33 30 32] none [0,5,7,33]) (.seq (.cond (.t 33) (.seq (.region [qV 4 (qi 7)] none [4]) .ret) .skip) (qR [0,5,7]))) (.region [qM 34 5,qM 35 7,qB 36 .add (.t 34) (.t 35),qM 5 36] none [0,5]))))))
def ir119:IRF:=⟨[0,1],(.seq (.region [qV 4 (qi 0)] none [0,1]) (.seq (.seq (.region [qM 9 0,qX 10 (.len true (.t 9)),qM 11 1,qB 12 .gtr (.t 10) (.t 11)] none [0,12]) (.seq (.cond (.t 12) (.seq (.region [qV 4 (qi 9)] none [4]) .ret) .skip) (qR [0]))) (.seq (.seq (.region [qV 5 (qi 0)] none [0,5]) (.block 0 (.loop ir119_0))) (.seq (.region [qV 4 (qi 0)] none [4]) .ret)))),[(4,none)],false⟩
def ir120_0:IRC:=(.seq (.tidy [0,3] []) (.seq (.seq (.region [qM 30 3,qB 31 .add (.t 30) (qi 1),qM 32 0,qX 33 (.len true (.t 32)),qB 34 .lss (.t 31) (.t 33)] none [0,3,34]) (.seq (.cond (.t 34) .skip (.seq (qR [0]) (.exit 4))) (qR [0,3]))) (.seq (.block 5 (.seq (.region [qM 37 0,qM 38 3,qX 39 (.idxStr (.t 37) (.t 38)),qB 40 .eql (.t 39) (.c (.p (.s (.int .u8 32)))),qM 41 40,qM 42 0 (qy 41),qM 43 3 (qy 41),qB 44 .add (.t 43) (qi 1) (qy 41),qX 45 (.idxStr (.t 42) (.t 44)) (qy 41),qB 46 .eql (.t 45) (.c (.p (.s (.int .u8 32)))) (qy 41),qA 47 41 46] none [0,3,47]) (.seq (.cond (.t 47) (.seq (.regq true [qM 48 0,qM 49 3,qX 50 (.slStr (.t 48) none (some (.t 49))),qM 51 0,qM 52 3,qB 53 .add (.t 52) (qi 1),qX 54 (.slStr (.t 51) (some (.t 53)) none),qB 55 .add (.t 50) (.t 54),qC 56 120 [(.t 55)],qM 2 56] [2]) .ret) .skip) (qR [0,3])))) (.region [qM 35 3,qB 36 .add (.t 35) (qi 1),qM 3 36] none [0,3]))))
def ir120_1:IRC:=(.seq (.tidy [0] []) (.seq (.seq (.region [qM 14 0,qX 15 (.len true (.t 14)),qB 16 .gtr (.t 15) (qi 0),qM 17 16,qM 18 0 (qy 17),qM 19 0 (qy 17),qX 20 (.len true (.t 19)) (qy 17),qB 21 .sub (.t 20) (qi 1) (qy 17),qX 22 (.idxStr (.t 18) (.t 21)) (qy 17),qB 23 .eql (.t 22) (.c (.p (.s (.int .u8 32)))) (qy 17),qA 24 17 23] none [0,24]) (.seq (.cond (.t 24) .skip (.seq (qR [0]) (.exit 2))) (qR [0]))) (.block 3 (.region [qM 25 0,qM 26 0,qX 27 (.len true (.t 26)),qB 28 .sub (.t 27) (qi 1),qX 29 (.slStr (.t 25) none (some (.t 28))),qM 0 29] none [0]))))
def ir120_2:IRC:=(.seq (.tidy [0] []) (.seq (.seq (.region [qM 4 0,qX 5 (.len true (.t 4)),qB 6 .gtr (.t 5) (qi 0),qM 7 6,qM 8 0 (qy 7),qX 9 (.idxStr (.t 8) (qi 0)) (qy 7),qB 10 .eql (.t 9) (.c (.p (.s (.int .u8 32)))) (qy 7),qA 11 7 10] none [0,11]) (.seq (.cond (.t 11) .skip (.seq (qR [0]) (.exit 0))) (qR [0]))) (.block 1 (.region [qM 12 0,qX 13 (.slStr (.t 12) (some (qi 1)) none),qM 0 13] none [0]))))
def ir120:IRF:=⟨[0],(.seq (.region [qV 2 (.c (.p zE0))] none [0]) (.seq (.block 0 (.loop ir120_2)) (.seq (.block 2 (.loop ir120_1)) (.seq (.seq (.region [qV 3 (qi 0)] none [0,3]) (.block 4 (.loop ir120_0))) (.seq (.region [qM 57 0,qM 2 57] none [2]) .ret))))),[(2,none)],false⟩
def ir123:IRF:=⟨[0],(.seq (.region [qV 2 (.c (.p zE0))] none [0]) (.seq (.seq (.region [qX 4 (.build [zE0,zE0,zE0,zE0,zE0,zE0,zE0] [(1,1,(.c (.p (.s (.string ⟨#[110,97,109,101]⟩))))),(2,1,(.c (.p (.s (.string ⟨#[112,104,111,110,101]⟩))))),(3,1,(.c (.p (.s (.string ⟨#[109,97,105,108]⟩))))),(4,1,(.c (.p (.s (.string ⟨#[97,100,100,114,101,115,115]⟩))))),(5,1,(.c (.p (.s (.string ⟨#[110,111,116,101]⟩))))),(6,1,(.c (.p (.s (.string ⟨#[103,114,111,117,112]⟩)))))]),qX 3 (.alloc false [zE0,zE0,zE0,zE0,zE0,zE0,zE0]),qS 7 3 4] none [0,3]) (.tidy [0] [3])) (.seq (.seq (.region [qM 5 0,qB 6 .lss (.t 5) (qi 0),qM 7 6,qM 8 0 (qn 7),qB 9 .geq (.t 8) (qi 7) (qn 7),qO 10 7 9] none [0,3,10]) (.seq (.cond (.t 10) (.seq (.region [qV 2 (.c (.p zE0))] none [2]) .ret) .skip) (qR [0,3]))) (.seq (.region [qM 11 0,qX 12 (.idxAArr 7 1 (.t 3) (.t 11)),qL 13 1 12,qM 2 13] none [2]) .ret)))),[(2,none)],false⟩
def ir124:IRF:=⟨[0,1],(.seq (.region [qV 4 (qi 0)] none [0,1]) (.seq (.seq (.region [qM 5 0,qX 6 (.len true (.t 5)),qM 7 1,qB 8 .gtr (.t 6) (.t 7)] none [0,8]) (.seq (.cond (.t 8) (.seq (.region [qV 4 (qi 9)] none [4]) .ret) .skip) (qR [0]))) (.seq (.seq (.region [qM 9 0,qC 10 162 [(.t 9)],qX 11 (.un .not (.t 10)),qM 12 11,qM 13 0 (qn 12),qC 14 163 [(.t 13),(.c (.fn 164 [] []))] (qn 12),qO 15 12 14] none [15]) (.seq (.cond (.t 15) (.seq (.region [qV 4 (qi 7)] none [4]) .ret) .skip) (qR []))) (.seq (.region [qV 4 (qi 0)] none [4]) .ret)))),[(4,none)],false⟩
def ir125_0:IRC:=(.seq (.tidy [3,4,8,9,10] []) (.seq (.region [qB 11 .lss (.t 10) (.t 9)] none [3,4,8,9,10,11]) (.seq (.seq (.cond (.t 11) .skip (.seq (qR [3]) (.exit 0))) (qR [3,4,8,9,10])) (.seq (.block 1 (.seq (.region [qX 12 (.idxASl 1 (.t 8) (.t 10)),qL 13 1 12,qM 6 13] none [3,4,6,8,9,10]) (.seq (.seq (.region [qM 14 6,qB 15 .neq (.t 14) (.c (.p (.s (.int .u8 32)))),qM 16 15,qM 17 4 (qn 16),qX 18 (.un .not (.t 17)) (qn 16),qO 19 16 18] none [3,6,8,9,10,19]) (.seq (.cond (.t 19) (.region [qM 20 3,qM 21 6,qX 22 (.mkSl true 1 1 [(.s (.int .u8 0))] [(0,1,(.t 21))]),qX 23 (.app 1 1 (.t 20) (.t 22)),qM 3 23] none [3,6,8,9,10]) .skip) (qR [3,6,8,9,10]))) (.region [qM 24 6,qB 25 .eql (.t 24) (.c (.p (.s (.int .u8 32)))),qM 4 25] none [3,4,8,9,10])))) (.region [qB 26 .add (.t 10) (qi 1),qM 10 26] none [3,4,8,9,10])))))
def ir125:IRF:=⟨[0],(.seq (.region [qV 2 (.c (.p zE0))] none [0]) (.seq (.region [qV 3 ql] none [0,3]) (.seq (.region [qV 4 qt] none [0,3,4]) (.seq (.seq (.region [qM 7 0,qX 8 (.s2b true (.t 7)),qX 9 (.len false (.t 8)),qV 10 (qi 0)] none [3,4,8,9,10]) (.seq (.block 0 (.loop ir125_0)) (.tidy [] [3]))) (.seq (.region [qM 27 3,qX 28 (.b2s (.t 27)),qC 29 166 [(.t 28),(.c (.p (.s (.string ⟨#[32]⟩))))],qM 2 29] none [2]) .ret))))),[(2,none)],false⟩
def ir128:IRF:=⟨[0],(.seq (.region [qV 2 ql] none [0]) (.seq (.seq (.region [qM 3 0,qX 4 (.eq false .slice (.t 3) ql)] none [0,4]) (.cond (.t 4) (.seq (.region [qV 2 ql] none [2]) .ret) .skip)) (.seq (.region [qX 5 (.mkSl false 0 3 [] []),qM 6 0,qX 7 (.app 3 40 (.t 5) (.t 6)),qM 2 7] none [2]) .ret))),[(2,none)],false⟩
def ir129:IRF:=⟨[0,1],(.seq (.region [qM 5 0,qX 6 (.len false (.t 5)),qM 4 6] none [0,1,4]) (.region [qM 7 0,qM 8 4,qM 9 4,qX 10 (.cvt .u64 (.t 9)),qC 11 171 [(.t 10)],qM 12 1,qC 13 170 [(.t 7),(qi 0),(.t 8),(.t 11),(.t 12)]] none [])),[],false⟩
def ir131_0:IRC:=(.seq (.tidy [0,3,4,5] []) (.seq (.seq (.region [qM 29 5,qM 30 4,qX 31 (.len false (.t 30)),qB 32 .lss (.t 29) (.t 31)] none [0,3,4,5,32]) (.cond (.t 32) .skip (.exit 2))) (.seq (.block 3 (.seq (.region [qM 35 4,qM 36 5,qX 37 (.idxASl 3 (.t 35) (.t 36)),qT 38 3 37,qM 39 4,qM 40 5,qB 41 .sub (.t 40) (qi 1),qX 42 (.idxASl 3 (.t 39) (.t 41)),qT 43 3 42,qB 44 .neq (.t 38) (.t 43)] (some [0,0,3,7,0,0,32,112,240,511]) [0,3,4,5,44]) (.cond (.t 44) (.seq (.region [qM 45 0,qM 46 3,qM 47 4,qM 48 5,qX 49 (.idxASl 3 (.t 47) (.t 48)),qT 50 3 49,qX 51 (.idxASl 3 (.t 45) (.t 46)),qS 3 51 50] none [0,3,4,5]) (.region [qM 52 3,qB 53 .add (.t 52) (qi 1),qM 3 53] none [0,3,4,5])) .skip))) (.region [qM 33 5,qB 34 .add (.t 33) (qi 1),qM 5 34] none [0,3,4,5]))))
def ir131_1:IRC:=(.seq (.tidy [0,3] []) (.seq (.seq (.region [qM 10 3,qM 11 0,qX 12 (.len false (.t 11)),qB 13 .lss (.t 10) (.t 12)] none [0,3,13]) (.cond (.t 13) .skip (.exit 0))) (.seq (.block 1 (.seq (.region [qM 16 0,qM 17 3,qX 18 (.idxASl 3 (.t 16) (.t 17)),qT 19 3 18,qM 20 0,qM 21 3,qB 22 .sub (.t 21) (qi 1),qX 23 (.idxASl 3 (.t 20) (.t 22)),qT 24 3 23,qB 25 .eql (.t 19) (.t 24)] (some [0,0,3,7,0,0,32,112,240,511]) [0,3,25]) (.cond (.t 25) (.seq (.region [qM 26 0,qM 27 3,qX 28 (.slSl 3 (.t 26) (some (.t 27)) none none),qM 4 28] none [0,3,4]) (.seq (.seq (.region [qV 5 (qi 1)] none [0,3,4,5]) (.block 2 (.loop ir131_0))) (.seq (.region [qM 54 0,qM 55 3,qX 56 (.slSl 3 (.t 54) (some (.t 55)) none none),⟨none,(.clr 3 [zi,zE0,zE0] (.t 56)),none⟩] none [0,3]) (.seq (.region [qM 57 0,qM 58 3,qX 59 (.slSl 3 (.t 57) none (some (.t 58)) none),qM 2 59] none [2]) .ret)))) .skip))) (.region [qM 14 3,qB 15 .add (.t 14) (qi 1),qM 3 15] none [0,3]))))
def ir131:IRF:=⟨[0],(.seq (.region [qV 2 ql] none [0]) (.seq (.seq (.region [qM 6 0,qX 7 (.len false (.t 6)),qB 8 .lss (.t 7) (qi 2)] none [0,8]) (.cond (.t 8) (.seq (.region [qM 9 0,qM 2 9] none [2]) .ret) .skip)) (.seq (.seq (.region [qV 3 (qi 1)] none [0,3]) (.block 0 (.loop ir131_1))) (.seq (.region [qM 60 0,qM 2 60] none [2]) .ret)))),[(2,none)],false⟩
def ir132:IRF:=⟨[0,1],(.seq (.region [qX 3 (.box false (.t 1))] none [0,3]) (.seq (.region [qT 6 2 3,qC 7 175 [(.t 6)],qT 8 2 3,qC 9 176 [(.t 8)],qX 4 (.alloc false [zf,zp]),qX 5 (.alloc false [zf,zp]),qS 2 4 7,qS 2 5 9] (some [0,1,0,7,0,0,63,127]) [0,3,4,5]) (.block 0 (.seq (.region [qT 19 2 3,qC 20 86 [(.t 19)],qM 18 20] none [0,3,4,5,18]) (.cond (.t 18) (.seq (.region [qM 21 0,qC 22 136 [(.t 21),(qu 0),(qi 2)]] none [0]) (.region [qM 23 0,qC 24 136 [(.t 23),(qu 0),(qi 1)]] none [])) (.seq (.region [qT 26 2 3,qC 27 160 [(.t 26)],qM 25 27] none [0,4,5,25]) (.cond (.t 25) (.seq (.region [qM 28 0,qC 29 136 [(.t 28),(qu 0),(qi 2)]] none [0]) (.region [qM 30 0,qC 31 136 [(.t 30),(qu 1),(qi 1)]] none [])) (.seq (.region [qT 33 2 4,qC 34 86 [(.t 33)],qM 32 34] none [0,4,5,32]) (.cond (.t 32) (.seq (.region [qM 35 0,qC 36 136 [(.t 35),(qu 1),(qi 2)]] none [0,5]) (.region [qM 37 0,qT 38 2 5,qC 39 132 [(.t 37),(.t 38)]] none [])) (.seq (.region [qT 41 2 5,qC 42 86 [(.t 41)],qM 40 42] none [0,4,5,40]) (.cond (.t 40) (.seq (.region [qM 43 0,qC 44 136 [(.t 43),(qu 2),(qi 2)]] none [0,4]) (.region [qM 45 0,qT 46 2 4,qC 47 132 [(.t 45),(.t 46)]] none [])) (.seq (.region [qM 10 0,qC 11 136 [(.t 10),(qu 3),(qi 2)]] none [0,4,5]) (.seq (.region [qM 12 0,qT 13 2 4,qC 14 132 [(.t 12),(.t 13)]] none [0,5]) (.region [qM 15 0,qT 16 2 5,qC 17 132 [(.t 15),(.t 16)]] none [])))))))))))))),[],false⟩
def ir133:IRF:=⟨[0],(.seq (.region [qX 1 (.box false (.t 0)),qX 2 (.alloc false [zu,zp])] none [1,2]) (.seq (.seq (.region [qF 3 1 1,qL 4 1 3,qX 5 (.eq false .ptr (.t 4) qp)] none [1,2,5]) (.cond (.t 5) (.seq (.region [qX 6 (.build [zu,zp] []),qS 2 2 6] none [2]) .ret) .skip)) (.seq (.region [qF 7 1 1,qL 8 1 7,qN 9 8,qF 10 0 9,qT 11 2 10,qS 2 2 11] none [2]) .ret))),[(2,some (2,true))],false⟩
def ir134:IRF:=⟨[0],(.seq (.region [qX 1 (.box false (.t 0)),qX 2 (.alloc false [zu,zp])] none [1,2]) (.seq (.seq (.region [qF 3 1 1,qL 4 1 3,qX 5 (.eq false .ptr (.t 4) qp)] none [1,2,5]) (.cond (.t 5) (.seq (.region [qX 6 (.build [zu,zp] []),qS 2 2 6] none [2]) .ret) .skip)) (.seq (.region [qF 7 1 1,qL 8 1 7,qN 9 8,qF 10 2 9,qT 11 2 10,qS 2 2 11] none [2]) .ret))),[(2,some (2,true))],false⟩
def ir135:IRF:=⟨[0],(.seq (.region [qX 1 (.box false (.t 0)),qV 2 qf] none [1]) (.seq (.region [qF 3 1 1,qL 4 1 3,qX 5 (.eq false .ptr (.t 4) qp),qM 2 5] none [2]) .ret)),[(2,none)],false⟩
def ir136_0:IRC:=(.seq (.seq (.region [qM 12 6,qB 13 .geq (.t 12) (qi 0)] none [0,1,6,13]) (.cond (.t 13) .skip (.exit 0))) (.seq (.block 1 (.seq (.seq (.region [qM 16 0,qN 17 16,qF 18 1 17,qL 19 1 18,qB 20 .rem (.t 19) (qi 8),qB 21 .eql (.t 20) (qi 0)] none [0,1,6,21]) (.cond (.t 21) (.region [qM 22 0,qM 23 0,qN 24 23,qF 25 0 24,qL 26 1 25,qX 27 (.mkSl false 1 1 [(.s (.int .u8 0))] [(0,1,(.c (.p (.s (.int .u8 0)))))]),qX 28 (.app 1 1 (.t 26) (.t 27)),qN 29 22,qF 30 0 29,qS 1 30 28] none [0,1,6]) .skip)) (.seq (.seq (.region [qM 31 1,qM 32 6,qB 33 .shr (.t 31) (.t 32),qB 34 .and (.t 33) (qu 1),qB 35 .eql (.t 34) (qu 1)] none [0,1,6,35]) (.cond (.t 35) (.region [qM 36 0,qN 37 36,qF 38 0 37,qL 39 1 38,qM 40 0,qN 41 40,qF 42 1 41,qL 43 1 42,qB 44 .quo (.t 43) (qi 8),qX 45 (.idxASl 1 (.t 39) (.t 44)),qL 46 1 45,qM 47 0,qN 48 47,qF 49 1 48,qL 50 1 49,qB 51 .rem (.t 50) (qi 8),qB 52 .shr (.c (.p (.s (.int .u8 128)))) (.t 51),qB 53 .or (.t 46) (.t 52),qX 54 (.idxASl 1 (.t 39) (.t 44)),qS 1 54 53] (some [0,1,3,7,0,16,48,112,240,511,1023,0,2048,6144,14336,30720,63488,131071,262143,524287]) [0,1,6]) .skip)) (.region [qM 55 0,qN 56 55,qF 57 1 56,qL 58 1 57,qB 59 .add (.t 58) (qi 1),qN 60 55,qF 61 1 60,qS 1 61 59] none [0,1,6])))) (.region [qM 14 6,qB 15 .sub (.t 14) (qi 1),qM 6 15] none [0,1,6])))
def ir136:IRF:=⟨[0,1,2],(.seq (.seq (.region [qM 7 0,qX 8 (.eq false .ptr (.t 7) qp)] none [0,1,2,8]) (.cond (.t 8) .ret .skip)) (.seq (.region [qM 9 2,qC 10 177 [(.t 9)],qB 11 .sub (.t 10) (qi 1),qM 6 11] none [0,1,6]) (.block 0 (.loop ir136_0)))),[],true⟩
def ir137_0:IRC:=(.seq (.seq (.region [qM 5 4,qB 6 .lss (.t 5) (qi 64),qM 7 6,qM 8 1 (qy 7),qM 9 4 (qy 7),qB 10 .shr (.t 8) (.t 9) (qy 7),qB 11 .gtr (.t 10) (qu 0) (qy 7),qA 12 7 11] none [0,1,4,12]) (.cond (.t 12) .skip (.exit 0))) (.block 1 (.seq (.region [qM 13 0,qC 14 136 [(.t 13),(qu 1),(qi 1)]] none [0,1,4]) (.seq (.region [qM 15 1,qM 16 4,qB 17 .shl (qu 1) (.t 16),qB 18 .sub (.t 15) (.t 17),qM 1 18] none [0,1,4]) (.region [qM 19 4,qB 20 .add (.t 19) (qi 1),qM 4 20] none [0,1,4])))))
def ir137:IRF:=⟨[0,1],(.seq (.region [qV 4 (qi 2)] none [0,1,4]) (.seq (.block 0 (.loop ir137_0)) (.seq (.region [qM 21 0,qC 22 136 [(.t 21),(qu 0),(qi 1)]] none [0,1,4]) (.region [qM 23 0,qM 24 1,qM 25 4,qC 26 136 [(.t 23),(.t 24),(.t 25)]] none [])))),[],true⟩
def ir138:IRF:=⟨[0],(.seq (.region [qX 1 (.box false (.t 0)),qV 2 (qu 0)] none [1]) (.seq (.region [qF 3 0 1,qL 4 1 3,qM 2 4] none [2]) .ret)),[(2,none)],false⟩
def ir139:IRF:=⟨[0],(.seq (.region [qX 1 (.box false (.t 0)),qV 2 qf] none [1]) (.seq (.region [qT 3 2 1,qC 4 135 [(.t 3)],qM 5 4,qT 6 2 1 (qy 5),qC 7 138 [(.t 6)] (qy 5),qB 8 .eql (.t 7) (qu 0) (qy 5),qA 9 5 8,qM 2 9] none [2]) .ret)),[(2,none)],false⟩
def ir140:IRF:=⟨[0,1],(.seq (.region [qX 3 (.box false (.t 1)),qV 4 ql] none [0,3]) (.seq (.region [qM 5 0,qT 6 1 3,qC 7 179 [(.t 6)],qC 8 178 [(.t 5),(.t 7)],qM 4 8] none [4]) .ret)),[(4,none)],false⟩
def ir141_0:IRC:=(.seq (.seq (.region [qM 5 4,qM 6 0,qB 7 .lss (.t 5) (.t 6)] none [0,3,4,7]) (.cond (.t 7) .skip (.exit 0))) (.seq (.block 1 (.region [qM 10 3,qB 11 .mul (.t 10) (qu 2),qM 3 11] none [0,3,4])) (.region [qM 8 4,qB 9 .add (.t 8) (qi 1),qM 4 9] none [0,3,4])))
def ir141:IRF:=⟨[0],(.seq (.region [qV 2 (qu 0)] none [0]) (.seq (.region [qV 3 (qu 1)] none [0,3]) (.seq (.seq (.region [qV 4 (qi 0)] none [0,3,4]) (.block 0 (.loop ir141_0))) (.seq (.region [qM 12 3,qM 2 12] none [2]) .ret)))),[(2,none)],false⟩
def ir142:IRF:=⟨[0],(.seq (.region [qV 2 (qi 0)] none [0]) (.seq (.seq (.region [qM 3 0,qB 4 .lss (.t 3) (qi 0)] none [0,4]) (.cond (.t 4) (.seq (.region [qV 2 (qi 0)] none [2]) .ret) .skip)) (.seq (.seq (.region [qM 5 0,qB 6 .gtr (.t 5) (qi 64)] none [0,6]) (.cond (.t 6) (.seq (.region [qV 2 (qi 64)] none [2]) .ret) .skip)) (.seq (.region [qM 7 0,qM 2 7] none [2]) .ret)))),[(2,none)],false⟩
def ir143_0:IRC:=(.seq (.region [qB 13 .lss (.t 12) (.t 11)] none [3,10,11,12,13]) (.seq (.cond (.t 13) .skip (.exit 0)) (.seq (.block 1 (.seq (.region [qX 14 (.idxASl 3 (.t 10) (.t 12)),qT 15 3 14,qX 5 (.alloc false [zi,zE0,zE0]),qS 3 5 15] none [3,5,10,11,12]) (.region [qM 16 3,qF 17 0 5,qL 18 1 17,qX 19 (.cvt .u8 (.t 18)),qX 20 (.mkSl false 1 1 [(.s (.int .u8 0))] [(0,1,(.t 19))]),qF 21 1 5,qL 22 1 21,qC 23 33 [(.t 22)],qF 24 2 5,qL 25 1 24,qC 26 33 [(.t 25)],qX 27 (.mkSl false 4 1 [zs,zs,zs,zs] [(0,1,(.t 16)),(1,1,(.t 20)),(2,1,(.t 23)),(3,1,(.t 26))]),qC 28 36 [(.t 27)],qM 3 28] (some [0,0,2,6,14,0,32,96,0,256,992,2047,4095,8191]) [3,10,11,12]))) (.region [qB 29 .add (.t 12) (qi 1),qM 12 29] none [3,10,11,12]))))
def ir143:IRF:=⟨[0],(.seq (.region [qV 2 ql] none [0]) (.seq (.region [qM 6 0,qX 7 (.len false (.t 6)),qX 8 (.cvt .u64 (.t 7)),qC 9 32 [(.t 8)],qM 3 9] none [0,3]) (.seq (.seq (.region [qM 10 0,qX 11 (.len false (.t 10)),qV 12 (qi 0)] none [3,10,11,12]) (.block 0 (.loop ir143_0))) (.seq (.region [qM 30 3,qM 2 30] none [2]) .ret)))),[(2,none)],false⟩
def ir144_0:IRC:=(.seq (.region [qB 9 .lss (.t 8) (.t 7)] none [0,1,7,8,9]) (.seq (.cond (.t 9) .skip (.exit 0)) (.seq (.block 1 (.seq (.region [qM 10 8,qM 5 10] none [0,1,5,7,8]) (.seq (.region [qM 11 1,qM 12 0,qM 13 5,qX 14 (.idxASl 5 (.t 12) (.t 13)),qT 15 5 14,qX 16 (.callv (.t 11) [(.t 15)])] none [0,1,5,7,8,16]) (.cond (.t 16) (.seq (.region [qM 17 5,qM 4 17] none [4]) .ret) .skip)))) (.region [qB 18 .add (.t 8) (qi 1),qM 8 18] none [0,1,7,8]))))
def ir144:IRF:=⟨[0,1],(.seq (.region [qV 4 (qi 0)] none [0,1]) (.seq (.seq (.region [qM 6 0,qX 7 (.len false (.t 6)),qV 8 (qi 0)] none [0,1,7,8]) (.block 0 (.loop ir144_0))) (.seq (.region [qV 4 (.c (.p (.s (.int .i64 (-1)))))] none [4]) .ret))),[(4,none)],false⟩
def ir145:IRF:=⟨[0,1],(.seq (.region [qX 2 (.box false (.t 0)),qX 4 (.alloc false [zu,zp])] none [1,2,4]) (.seq (.region [qF 5 0 2,qL 6 1 5,qM 7 1,qB 8 .add (.t 6) (.t 7),qF 9 0 2,qS 1 9 8] none [2,4]) (.seq (.region [qT 10 2 2,qS 2 4 10] none [4]) .ret))),[(4,some (2,true))],false⟩
def ir146:IRF:=⟨[0,1],(.seq (.region [qV 4 qp] none [0,1]) (.seq (.region [qM 5 0,qN 6 5,qF 7 0 6,qL 8 1 7,qM 9 1,qB 10 .add (.t 8) (.t 9),qM 11 0,qN 12 11,qF 13 1 12,qL 14 1 13,qM 15 0,qN 16 15,qF 17 2 16,qL 18 1 17,qX 19 (.build [zu,zp,zp] [(0,1,(.t 10)),(1,1,(.t 14)),(2,1,(.t 18))]),qX 20 (.box true (.t 19)),qM 4 20] (some [0,1,3,7,0,31,0,64,192,448,0,1024,3072,7168,16383,32767,65535]) [4]) .ret)),[(4,none)],false⟩
def ir147:IRF:=⟨[0],(.seq (.region [qV 2 (qi 0)] none [0]) (.seq (.region [qM 4 0,qC 5 98 [(.t 4)],qM 3 5] none [0,3]) (.seq (.seq (.region [qM 6 3,qB 7 .geq (.t 6) (qu 2147483648)] none [0,3,7]) (.seq (.cond (.t 7) (.seq (.region [qM 8 0,qC 9 97 [(.t 8),(qi 6)]] none []) (.seq (.region [qV 2 (qi 0)] none [2]) .ret)) .skip) (qR [3]))) (.seq (.region [qM 10 3,qX 11 (.cvt .i64 (.t 10)),qM 2 11] none [2]) .ret)))),[(2,none)],false⟩
def ir148:IRF:=⟨[0],(.seq (.region [qX 2 (.alloc false [zf,zp]),qV 3 (qi 0)] none [0,2]) (.seq (.region [qM 7 0,qC 8 149 [(.t 7)],qM 4 8] none [2,4]) (.seq (.seq (.region [qM 10 4,qC 11 180 [(.t 10)],qM 9 11,qE 12 9 0,qE 13 9 1,qX 5 (.alloc false [zf,zp]),qS 2 5 12,qM 6 13] none [2,4,5,6]) (.tidy [2,4,6] [5])) (.seq (.region [qM 14 4,qT 15 2 5,qM 16 6,qC 17 181 [(.t 14),(.t 15),(.t 16)],qE 18 17 0,qE 19 17 1,qS 2 2 18,qM 3 19] none [2,3]) .ret)))),[(2,some (2,true)),(3,none)],false⟩
def ir149:IRF:=⟨[0],(.seq (.region [qV 2 qp] none [0]) (.seq (.region [qM 3 0,qC 4 95 [(.t 3)],qX 5 (.build [zs,zi,zi] [(0,1,(.t 4))]),qX 6 (.box false (.t 5)),qM 2 6] none [2]) .ret)),[(2,none)],true⟩
def ir150:IRF:=⟨[0],(.seq (.region [qX 2 (.alloc false [zu,zp]),qV 3 (qi 0)] none [0,2]) (.seq (.region [qM 6 0,qX 7 (.build [zp,zi] [(0,1,(.t 6))]),qX 8 (.box false (.t 7)),qM 4 8] none [2,4]) (.seq (.seq (.region [qM 9 4,qC 10 182 [(.t 9),(qi 0)],qX 5 (.alloc false [zu,zp]),qS 2 5 10] none [2,4,5]) (.tidy [2,4] [5])) (.seq (.seq (.region [qM 11 4,qN 12 11,qF 13 1 12,qL 14 1 13,qB 15 .neq (.t 14) (qi 0)] none [2,4,5,15]) (.seq (.cond (.t 15) (.seq (.region [qX 16 (.build [zu,zp] []),qM 17 4,qN 18 17,qF 19 1 18,qL 20 1 19,qS 2 2 16,qM 3 20] (some [0,0,2,6,14,1,63]) [2,3]) .ret) .skip) (qR [2,5]))) (.seq (.region [qT 21 2 5,qS 2 2 21,qV 3 (qi 0)] none [2,3]) .ret))))),[(2,some (2,true)),(3,none)],false⟩
def ir151:IRF:=⟨[0,1,2],(.seq (.region [qX 4 (.box true (.t 1)),qX 6 (.alloc false [zu,zp]),qV 7 (qi 0)] none [0,2,4,6]) (.seq (.region [qX 8 (.alloc false [zu,zp])] none [0,2,4,6,8]) (.seq (.seq (.region [qM 10 2,qB 11 .neq (.t 10) (qi 0)] none [0,2,4,6,8,11]) (.seq (.cond (.t 11) (.seq (.region [qT 12 2 8,qM 13 2,qS 2 6 12,qM 7 13] none [6,7]) .ret) .skip) (qR [0,4,6,8]))) (.seq (.seq (.region [qM 14 0,qC 15 183 [(.t 14)],qM 9 15] none [4,6,8,9]) (.seq (.region [qM 16 9,qB 17 .neq (.t 16) (qi 0)] none [4,6,8,9,17]) (.seq (.cond (.t 17) (.seq (.region [qT 18 2 8,qM 19 9,qS 2 6 18,qM 7 19] none [6,7]) .ret) .skip) (qR [4,6])))) (.seq (.region [qT 20 2 4,qS 2 6 20,qV 7 (qi 0)] none [6,7]) .ret))))),[(6,some (2,true)),(7,none)],false⟩
def ir152:IRF:=⟨[0],(.seq (.region [qX 2 (.alloc false [zu,zp,zs,zf]),qV 3 (qi 0)] none [0,2]) (.seq (.region [qM 10 0,qC 11 46 [(.t 10)],qM 4 11] none [2,4]) (.seq (.region [qM 12 4,qC 13 101 [(.t 12),(qi 4096)],qM 5 13] none [2,4,5]) (.seq (.seq (.region [qM 14 4,qC 15 104 [(.t 14)],qB 16 .neq (.t 15) (qi 0)] none [2,4,5,16]) (.seq (.cond (.t 16) (.seq (.region [qX 17 (.build [zu,zp,zs,zf] []),qM 18 4,qC 19 104 [(.t 18)],qS 4 2 17,qM 3 19] none [2,3]) .ret) .skip) (qR [2,4,5]))) (.seq (.seq (.region [qM 21 5,qX 22 (.s2b true (.t 21)),qC 23 100 [(.t 22)],qM 20 23,qE 24 20 0,qE 25 20 1,qX 6 (.alloc false [zu,zp]),qS 2 6 24,qM 7 25] none [2,4,6,7]) (.tidy [2,4,7] [6])) (.seq (.region [qM 26 4,qM 27 7,qC 28 97 [(.t 26),(.t 27)]] none [2,4,6]) (.seq (.region [qT 29 2 6,qX 30 (.build [zu,zp,zs,zf] [(0,2,(.t 29))]),qX 8 (.alloc false [zu,zp,zs,zf]),qS 4 8 30] none [2,4,8]) (.seq (.seq (.region [qM 31 4,qC 32 96 [(.t 31)]] none [2,4,8,32]) (.block 0 (.seq (.region [qB 36 .eql (.t 32) (.c (.p (.s (.int .u8 0)))),qM 35 36] none [2,4,8,32,35]) (.seq (.cond (.t 35) (.region [qM 37 4,qC 38 184 [(.t 37)],qF 39 2 8,qS 1 39 38] none [2,4,8]) (.seq (.region [qB 41 .eql (.t 32) (.c (.p (.s (.int .u8 1)))),qM 40 41] none [2,4,8,40]) (.seq (.cond (.t 40) (.region [qF 42 3 8,⟨none,(.store 1 (.t 42) qt),none⟩] none [2,4,8]) (.region [qM 33 4,qC 34 97 [(.t 33),(qi 6)]] none [2,4,8])) (qR [2,4,8])))) (qR [2,4,8]))))) (.seq (.seq (.region [qM 43 4,qC 44 48 [(.t 43)],qM 9 44] none [2,8,9]) (.seq (.region [qM 45 9,qB 46 .neq (.t 45) (qi 0)] none [2,8,9,46]) (.seq (.cond (.t 46) (.seq (.region [qX 47 (.build [zu,zp,zs,zf] []),qM 48 9,qS 4 2 47,qM 3 48] none [2,3]) .ret) .skip) (qR [2,8])))) (.seq (.region [qT 49 4 8,qS 4 2 49,qV 3 (qi 0)] none [2,3]) .ret)))))))))),[(2,some (4,true)),(3,none)],false⟩
def ir158:IRF:=⟨[0],(.seq (.region [qX 1 (.box false (.t 0)),qV 2 (qi 0)] none [1]) (.seq (.seq (.region [qF 3 1 1,qL 4 1 3,qX 5 (.eq false .ptr (.t 4) qp)] none [1,5]) (.cond (.t 5) (.seq (.region [qV 2 (qi 0)] none [2]) .ret) .skip)) (.seq (.region [qF 6 1 1,qL 7 1 6,qN 8 7,qF 9 0 8,qT 10 2 9,qC 11 158 [(.t 10)],qF 12 1 1,qL 13 1 12,qN 14 13,qF 15 2 14,qT 16 2 15,qC 17 158 [(.t 16)],qX 18 (.minmax true [(.t 11),(.t 17)]),qB 19 .add (qi 1) (.t 18),qM 2 19] (some [0,1,3,7,15,31,0,64,192,448,960,2047,4095,8191,16383]) [2]) .ret))),[(2,none)],false⟩
def ir159:IRF:=⟨[0],(.seq (.region [qX 1 (.box false (.t 0)),qV 2 (qu 0)] none [1]) (.seq (.seq (.region [qF 3 1 1,qL 4 1 3,qX 5 (.eq false .ptr (.t 4) qp)] none [1,5]) (.cond (.t 5) (.seq (.region [qF 6 0 1,qL 7 1 6,qM 2 7] none [2]) .ret) .skip)) (.seq (.region [qF 8 0 1,qL 9 1 8,qF 10 1 1,qL 11 1 10,qN 12 11,qF 13 0 12,qT 14 2 13,qC 15 159 [(.t 14)],qF 16 1 1,qL 17 1 16,qN 18 17,qF 19 2 18,qT 20 2 19,qC 21 159 [(.t 20)],qX 22 (.minmax true [(.t 15),(.t 21)]),qB 23 .add (.t 9) (.t 22),qM 2 23] (some [0,1,0,4,12,28,60,124,0,256,768,1792,3840,8188,16380,32767,65535]) [2]) .ret))),[(2,none)],false⟩
def ir160:IRF:=⟨[0],(.seq (.region [qX 1 (.box false (.t 0)),qV 2 qf] none [1]) (.seq (.region [qF 3 0 1,qL 4 1 3,qM 2 4] none [2]) .ret)),[(2,none)],false⟩
def ir161_0:IRC:=(.seq (.tidy [0,1,8,9,10,11] []) (.seq (.seq (.region [qM 47 11,qM 48 8,qB 49 .lss (.t 47) (.t 48)] none [0,1,8,9,10,11,49]) (.seq (.cond (.t 49) .skip (.seq (qR [8,9,10]) (.exit 1))) (qR [0,1,8,9,10,11]))) (.seq (.block 2 (.seq (.seq (.region [qM 52 1,qM 53 11,qB 54 .add (.t 52) (.t 53),qM 55 0,qX 56 (.len true (.t 55)),qB 57 .geq (.t 54) (.t 56),qM 58 57,qM 59 0 (qn 58),qM 60 1 (qn 58),qM 61 11 (qn 58),qB 62 .add (.t 60) (.t 61) (qn 58),qX 63 (.idxStr (.t 59) (.t 62)) (qn 58),qB 64 .lss (.t 63) (.c (.p (.s (.int .u8 128)))) (qn 58),qO 65 58 64,qM 66 65,qM 67 0 (qn 66),qM 68 1 (qn 66),qM 69 11 (qn 66),qB 70 .add (.t 68) (.t 69) (qn 66),qX 71 (.idxStr (.t 67) (.t 70)) (qn 66),qB 72 .gtr (.t 71) (.c (.p (.s (.int .u8 191)))) (qn 66),qO 73 66 72] none [0,1,8,9,10,11,73]) (.seq (.cond (.t 73) (.seq (.region [qV 4 (qi 0),qV 5 (qi 1),qV 6 qf] none [4,5,6]) .ret) .skip) (qR [0,1,8,9,10,11]))) (.region [qM 74 10,qB 75 .mul (qi 64) (.t 74),qM 76 0,qM 77 1,qM 78 11,qB 79 .add (.t 77) (.t 78),qX 80 (.idxStr (.t 76) (.t 79)),qX 81 (.cvt .i64 (.t 80)),qB 82 .add (.t 75) (.t 81),qB 83 .sub (.t 82) (qi 128),qM 10 83] none [0,1,8,9,10,11]))) (.region [qM 50 11,qB 51 .add (.t 50) (qi 1),qM 11 51] none [0,1,8,9,10,11]))))
def ir161:IRF:=⟨[0,1],(.seq (.region [qV 4 (qi 0),qV 5 (qi 0),qV 6 qf] none [0,1]) (.seq (.region [qM 12 0,qM 13 1,qX 14 (.idxStr (.t 12) (.t 13)),qX 15 (.cvt .i64 (.t 14)),qM 7 15] none [0,1,7]) (.seq (.region [qV 8 (qi 0),qV 9 (qi 0),qV 10 (qi 0)] none [0,1,7]) (.seq (.block 0 (.seq (.region [qM 17 7,qB 18 .lss (.t 17) (qi 128),qM 16 18] none [0,1,7,16]) (.seq (.cond (.t 16) (.seq (.region [qM 19 7,qM 4 19,qV 5 (qi 1),qV 6 qt] none [4,5,6]) .ret) (.seq (.region [qM 21 7,qB 22 .geq (.t 21) (qi 192),qM 23 22,qM 24 7 (qy 23),qB 25 .lss (.t 24) (qi 224) (qy 23),qA 26 23 25,qM 20 26] none [0,1,7,20]) (.seq (.cond (.t 20) (.region [qM 27 7,qB 28 .sub (.t 27) (qi 192),qV 8 (qi 2),qV 9 (qi 128),qM 10 28] none [0,1,8,9,10]) (.seq (.region [qM 30 7,qB 31 .geq (.t 30) (qi 224),qM 32 31,qM 33 7 (qy 32),qB 34 .lss (.t 33) (qi 240) (qy 32),qA 35 32 34,qM 29 35] none [0,1,7,29]) (.seq (.cond (.t 29) (.region [qM 36 7,qB 37 .sub (.t 36) (qi 224),qV 8 (qi 3),qV 9 (qi 2048),qM 10 37] none [0,1,8,9,10]) (.seq (.region [qM 39 7,qB 40 .geq (.t 39) (qi 240),qM 41 40,qM 42 7 (qy 41),qB 43 .lss (.t 42) (qi 248) (qy 41),qA 44 41 43,qM 38 44] none [0,1,7,38]) (.seq (.cond (.t 38) (.region [qM 45 7,qB 46 .sub (.t 45) (qi 240),qV 8 (qi 4),qV 9 (qi 65536),qM 10 46] none [0,1,8,9,10]) (.seq (.region [qV 4 (qi 0),qV 5 (qi 1),qV 6 qf] none [4,5,6]) .ret)) (qR [0,1,8,9,10])))) (qR [0,1,8,9,10])))) (qR [0,1,8,9,10])))) (qR [0,1,8,9,10])))) (.seq (.seq (.region [qV 11 (qi 1)] none [0,1,8,9,10,11]) (.block 1 (.loop ir161_0))) (.seq (.seq (.region [qM 84 10,qM 85 9,qB 86 .lss (.t 84) (.t 85),qM 87 86,qM 88 10 (qn 87),qB 89 .gtr (.t 88) (qi 1114111) (qn 87),qO 90 87 89,qM 91 90,qM 92 10 (qn 91),qB 93 .geq (.t 92) (qi 55296) (qn 91),qM 94 93 (qn 91),qM 95 10 (qy 94),qB 96 .lss (.t 95) (qi 57344) (qy 94),qA 97 94 96 (qn 91),qO 98 91 97] none [8,10,98]) (.seq (.cond (.t 98) (.seq (.region [qV 4 (qi 0),qV 5 (qi 1),qV 6 qf] none [4,5,6]) .ret) .skip) (qR [8,10]))) (.seq (.region [qM 99 10,qM 100 8,qM 4 99,qM 5 100,qV 6 qt] none [4,5,6]) .ret))))))),[(4,none),(5,none),(6,none)],false⟩
def ir162_0:IRC:=(.seq (.tidy [0] []) (.seq (.seq (.regq true [qM 42 0,qX 43 (.len true (.t 42)),qB 44 .gtr (.t 43) (qi 32),qM 45 44,qM 46 0 (qy 45),qC 47 187 [(.t 46)] (qy 45),qM 48 0 (qy 45),qX 49 (.slStr (.t 48) (some (qi 8)) none) (qy 45),qC 50 187 [(.t 49)] (qy 45),qB 51 .or (.t 47) (.t 50) (qy 45),qM 52 0 (qy 45),qX 53 (.slStr (.t 52) (some (qi 16)) none) (qy 45),qC 54 187 [(.t 53)] (qy 45),qM 55 0 (qy 45),qX 56 (.slStr (.t 55) (some (qi 24)) none) (qy 45),qC 57 187 [(.t 56)] (qy 45),qB 58 .or (.t 54) (.t 57) (qy 45),qB 59 .or (.t 51) (.t 58) (qy 45),qB 60 .and (.t 59) (qu 9259542123273814144) (qy 45),qB 61 .eql (.t 60) (qu 0) (qy 45),qA 62 45 61] [0,62]) (.seq (.cond (.t 62) .skip (.seq (qR [0]) (.exit 2))) (qR [0]))) (.block 3 (.region [qM 63 0,qX 64 (.slStr (.t 63) (some (qi 32)) none),qM 0 64] none [0]))))
def ir162_1:IRC:=(.seq (.tidy [0] []) (.seq (.seq (.region [qM 7 0,qX 8 (.len true (.t 7)),qB 9 .gtr (.t 8) (qi 0)] none [0,9]) (.seq (.cond (.t 9) .skip (.seq (qR []) (.exit 0))) (qR [0]))) (.block 1 (.seq (.region [qM 10 0,qX 11 (.idxStr (.t 10) (qi 0)),qM 3 11] none [0,3]) (.seq (.seq (.region [qM 12 3,qB 13 .lss (.t 12) (.c (.p (.s (.int .u8 128))))] none [0,3,13]) (.seq (.cond (.t 13) (.seq (.region [qM 14 0,qX 15 (.slStr (.t 14) (some (qi 1)) none),qM 0 15] none [0]) (.seq (.seq (.region [qM 16 0,qX 17 (.len true (.t 16)),qB 18 .gtr (.t 17) (qi 8),qM 19 18,qM 20 0 (qy 19),qC 21 187 [(.t 20)] (qy 19),qB 22 .and (.t 21) (qu 9259542123273814144) (qy 19),qB 23 .eql (.t 22) (qu 0) (qy 19),qA 24 19 23] none [0,24]) (.seq (.cond (.t 24) (.seq (.region [qM 25 0,qX 26 (.slStr (.t 25) (some (qi 8)) none),qM 0 26] none [0]) (.seq (.regq true [qM 27 0,qX 28 (.len true (.t 27)),qB 29 .gtr (.t 28) (qi 16),qM 30 29,qM 31 0 (qy 30),qC 32 187 [(.t 31)] (qy 30),qM 33 0 (qy 30),qX 34 (.slStr (.t 33) (some (qi 8)) none) (qy 30),qC 35 187 [(.t 34)] (qy 30),qB 36 .or (.t 32) (.t 35) (qy 30),qB 37 .and (.t 36) (qu 9259542123273814144) (qy 30),qB 38 .eql (.t 37) (qu 0) (qy 30),qA 39 30 38] [0,39]) (.seq (.cond (.t 39) (.seq (.region [qM 40 0,qX 41 (.slStr (.t 40) (some (qi 16)) none),qM 0 41] none [0]) (.block 2 (.loop ir162_0))) .skip) (qR [0])))) .skip) (qR [0]))) (.seq (qR [0]) (.exit 1)))) .skip) (qR [0,3]))) (.seq (.region [qM 65 3,qX 66 (.idxAArr 256 1 (.g 0) (.t 65)),qL 67 1 66,qM 4 67] none [0,4]) (.seq (.region [qM 68 4,qB 69 .and (.t 68) (.c (.p (.s (.int .u8 7)))),qX 70 (.cvt .i64 (.t 69)),qM 5 70] none [0,4,5]) (.seq (.seq (.region [qM 71 4,qB 72 .shr (.t 71) (qu 4),qX 73 (.idxAArr 16 2 (.g 1) (.t 72)),qT 74 2 73,qX 6 (.alloc false [(.s (.int .u8 0)),(.s (.int .u8 0))]),qS 2 6 74] none [0,5,6]) (.tidy [0,5] [6])) (.seq (.region [qM 75 5] none [0,6,75]) (.block 4 (.seq (.region [qB 77 .eql (.t 75) (qi 2),qM 76 77] none [0,6,75,76]) (.seq (.cond (.t 76) (.seq (.seq (.regq true [qM 78 0,qX 79 (.len true (.t 78)),qB 80 .lss (.t 79) (qi 2),qM 81 80,qM 82 0 (qn 81),qX 83 (.idxStr (.t 82) (qi 1)) (qn 81),qF 84 0 6 (qn 81),qL 85 1 84 (qn 81),qB 86 .lss (.t 83) (.t 85) (qn 81),qO 87 81 86,qM 88 87,qF 89 1 6 (qn 88),qL 90 1 89 (qn 88),qM 91 0 (qn 88),qX 92 (.idxStr (.t 91) (qi 1)) (qn 88),qB 93 .lss (.t 90) (.t 92) (qn 88),qO 94 88 93] [0,94]) (.seq (.cond (.t 94) (.seq (.region [qV 2 qf] none [2]) .ret) .skip) (qR [0]))) (.region [qM 95 0,qX 96 (.slStr (.t 95) (some (qi 2)) none),qM 0 96] none [0])) (.seq (.region [qB 98 .eql (.t 75) (qi 3),qM 97 98] none [0,6,75,97]) (.seq (.cond (.t 97) (.seq (.seq (.regq true [qM 99 0,qX 100 (.len true (.t 99)),qB 101 .lss (.t 100) (qi 3),qM 102 101,qM 103 0 (qn 102),qX 104 (.idxStr (.t 103) (qi 1)) (qn 102),qF 105 0 6 (qn 102),qL 106 1 105 (qn 102),qB 107 .lss (.t 104) (.t 106) (qn 102),qO 108 102 107,qM 109 108,qF 110 1 6 (qn 109),qL 111 1 110 (qn 109),qM 112 0 (qn 109),qX 113 (.idxStr (.t 112) (qi 1)) (qn 109),qB 114 .lss (.t 111) (.t 113) (qn 109),qO 115 109 114,qM 116 115,qM 117 0 (qn 116),qX 118 (.idxStr (.t 117) (qi 2)) (qn 116),qB 119 .lss (.t 118) (.c (.p (.s (.int .u8 128)))) (qn 116),qO 120 116 119,qM 121 120,qM 122 0 (qn 121),qX 123 (.idxStr (.t 122) (qi 2)) (qn 121),qB 124 .lss (.c (.p (.s (.int .u8 191)))) (.t 123) (qn 121),qO 125 121 124] [0,125]) (.seq (.cond (.t 125) (.seq (.region [qV 2 qf] none [2]) .ret) .skip) (qR [0]))) (.region [qM 126 0,qX 127 (.slStr (.t 126) (some (qi 3)) none),qM 0 127] none [0])) (.seq (.region [qB 129 .eql (.t 75) (qi 4),qM 128 129] none [0,6,128]) (.seq (.cond (.t 128) (.seq (.seq (.regq true [qM 130 0,qX 131 (.len true (.t 130)),qB 132 .lss (.t 131) (qi 4),qM 133 132,qM 134 0 (qn 133),qX 135 (.idxStr (.t 134) (qi 1)) (qn 133),qF 136 0 6 (qn 133),qL 137 1 136 (qn 133),qB 138 .lss (.t 135) (.t 137) (qn 133),qO 139 133 138,qM 140 139,qF 141 1 6 (qn 140),qL 142 1 141 (qn 140),qM 143 0 (qn 140),qX 144 (.idxStr (.t 143) (qi 1)) (qn 140),qB 145 .lss (.t 142) (.t 144) (qn 140),qO 146 140 145,qM 147 146,qM 148 0 (qn 147),qX 149 (.idxStr (.t 148) (qi 2)) (qn 147),qB 150 .lss (.t 149) (.c (.p (.s (.int .u8 128)))) (qn 147),qO 151 147 150,qM 152 151,qM 153 0 (qn 152),qX 154 (.idxStr (.t 153) (qi 2)) (qn 152),qB 155 .lss (.c (.p (.s (.int .u8 191)))) (.t 154) (qn 152),qO 156 152 155,qM 157 156,qM 158 0 (qn 157),qX 159 (.idxStr (.t 158) (qi 3)) (qn 157),qB 160 .lss (.t 159) (.c (.p (.s (.int .u8 128)))) (qn 157),qO 161 157 160,qM 162 161,qM 163 0 (qn 162),qX 164 (.idxStr (.t 163) (qi 3)) (qn 162),qB 165 .lss (.c (.p (.s (.int .u8 191)))) (.t 164) (qn 162),qO 166 162 165] [0,166]) (.seq (.cond (.t 166) (.seq (.region [qV 2 qf] none [2]) .ret) .skip) (qR [0]))) (.region [qM 167 0,qX 168 (.slStr (.t 167) (some (qi 4)) none),qM 0 168] none [0])) (.seq (.region [qV 2 qf] none [2]) .ret)) (qR [0])))) (qR [0])))) (qR [0])))))))))))))
def ir162:IRF:=⟨[0],(.seq (.region [qV 2 qf] none [0]) (.seq (.block 0 (.loop ir162_1)) (.seq (.region [qV 2 qt] none [2]) .ret))),[(2,none)],false⟩
def ir163:IRF:=⟨[0,1],(.seq (.region [qV 4 qf] none [0,1]) (.seq (.region [qM 5 0,qM 6 1,qC 7 188 [(.t 5),(.t 6)],qB 8 .geq (.t 7) (qi 0),qM 4 8] none [4]) .ret)),[(4,none)],false⟩
def ir164:IRF:=⟨[0],(.seq (.region [qV 2 qf] none [0]) (.seq (.region [qM 3 0,qC 4 165 [(.t 3)],qX 5 (.un .not (.t 4)),qM 2 5] none [2]) .ret)),[(2,none)],false⟩
def ir165:IRF:=⟨[0],(.seq (.region [qV 2 qf] none [0]) (.seq (.region [qM 3 0,qB 4 .geq (.t 3) (.c (.p (.s (.int .i32 32)))),qM 5 4,qM 6 0 (qy 5),qB 7 .neq (.t 6) (.c (.p (.s (.int .i32 127)))) (qy 5),qA 8 5 7,qM 2 8] none [2]) .ret)),[(2,none)],false⟩
def ir166:IRF:=⟨[0,1],(.seq (.region [qV 4 (.c (.p zE0))] none [0,1]) (.seq (.region [qM 5 0,qM 6 1,qC 7 189 [(.t 5),(.t 6)],qM 4 7] none [4]) .ret)),[(4,none)],false⟩
def ir170_0:IRC:=(.seq (.tidy [0,1,2,3,4,10,11] []) (.block 1 (.seq (.region [qM 21 2,qM 22 1,qB 23 .sub (.t 21) (.t 22),qM 12 23] none [0,1,2,3,4,10,11,12]) (.seq (.seq (.region [qM 24 12,qB 25 .leq (.t 24) (qi 12)] none [0,1,2,3,4,10,11,12,25]) (.cond (.t 25) (.seq (.region [qM 26 0,qM 27 1,qM 28 2,qM 29 4,qC 30 199 [(.t 26),(.t 27),(.t 28),(.t 29)]] none []) .ret) .skip)) (.seq (.seq (.region [qM 31 3,qB 32 .eql (.t 31) (qi 0)] none [0,1,2,3,4,10,11,12,32]) (.cond (.t 32) (.seq (.region [qM 33 0,qM 34 1,qM 35 2,qM 36 4,qC 37 200 [(.t 33),(.t 34),(.t 35),(.t 36)]] none []) .ret) .skip)) (.seq (.seq (.region [qM 38 10,qX 39 (.un .not (.t 38))] none [0,1,2,3,4,10,11,12,39]) (.cond (.t 39) (.seq (.region [qM 40 0,qM 41 1,qM 42 2,qM 43 4,qC 44 201 [(.t 40),(.t 41),(.t 42),(.t 43)]] none [0,1,2,3,4,10,11,12]) (.region [qM 45 3,qB 46 .sub (.t 45) (qi 1),qM 3 46] none [0,1,2,3,4,10,11,12])) .skip)) (.seq (.region [qM 48 0,qM 49 1,qM 50 2,qM 51 4,qC 52 202 [(.t 48),(.t 49),(.t 50),(.t 51)],qM 47 52,qE 53 47 0,qE 54 47 1,qM 13 53,qM 14 54] none [0,1,2,3,4,10,11,12,13,14]) (.seq (.seq (.region [qM 55 14,qB 56 .eql (.t 55) (qi 2)] none [0,1,2,3,4,10,11,12,13,14,56]) (.cond (.t 56) (.seq (.region [qM 57 0,qM 58 1,qM 59 2,qM 60 4,qC 61 203 [(.t 57),(.t 58),(.t 59),(.t 60)]] none [0,1,2,3,4,10,11,12,13]) (.seq (.region [qM 62 2,qB 63 .sub (.t 62) (qi 1),qM 64 13,qM 65 1,qB 66 .sub (.t 64) (.t 65),qB 67 .sub (.t 63) (.t 66),qM 13 67] none [0,1,2,3,4,10,11,12,13]) (.region [qV 14 (qi 1)] none [0,1,2,3,4,10,11,12,13,14]))) .skip)) (.seq (.seq (.region [qM 68 10,qM 69 68,qM 70 11 (qy 69),qA 71 69 70,qM 72 71,qM 73 14 (qy 72),qB 74 .eql (.t 73) (qi 1) (qy 72),qA 75 72 74] none [0,1,2,3,4,10,11,12,13,75]) (.cond (.t 75) (.seq (.region [qM 76 0,qM 77 1,qM 78 2,qM 79 4,qC 80 204 [(.t 76),(.t 77),(.t 78),(.t 79)]] none [0,1,2,3,4,10,11,12,13,80]) (.cond (.t 80) .ret .skip)) .skip)) (.seq (.seq (.region [qM 81 1,qB 82 .gtr (.t 81) (qi 0),qM 83 82,qM 84 4 (qy 83),qM 85 0 (qy 83),qM 86 1 (qy 83),qB 87 .sub (.t 86) (qi 1) (qy 83),qX 88 (.idxASl 3 (.t 85) (.t 87)) (qy 83),qT 89 3 88 (qy 83),qM 90 0 (qy 83),qM 91 13 (qy 83),qX 92 (.idxASl 3 (.t 90) (.t 91)) (qy 83),qT 93 3 92 (qy 83),qX 94 (.callv (.t 84) [(.t 89),(.t 93)]) (qy 83),qB 95 .lss (.t 94) (qi 0) (qy 83),qX 96 (.un .not (.t 95)) (qy 83),qA 97 83 96] (some [0,1,3,7,7,7,39,119,247,7,7,1543,3591,8191,16383,32767,65535]) [0,1,2,3,4,10,11,12,13,97]) (.cond (.t 97) (.seq (.region [qM 98 0,qM 99 1,qM 100 2,qM 101 13,qM 102 4,qC 103 205 [(.t 98),(.t 99),(.t 100),(.t 101),(.t 102)],qM 15 103] none [0,2,3,4,10,11,15]) (.seq (.region [qM 104 15,qM 1 104] none [0,1,2,3,4,10,11]) (.exit 1))) .skip)) (.seq (.region [qM 106 0,qM 107 1,qM 108 2,qM 109 13,qM 110 4,qC 111 206 [(.t 106),(.t 107),(.t 108),(.t 109),(.t 110)],qM 105 111,qE 112 105 0,qE 113 105 1,qM 16 112,qM 17 113] none [0,1,2,3,4,12,16,17]) (.seq (.region [qM 114 17,qM 11 114] none [0,1,2,3,4,11,12,16]) (.seq (.region [qM 115 16,qM 116 1,qB 117 .sub (.t 115) (.t 116),qM 118 2,qM 119 16,qB 120 .sub (.t 118) (.t 119),qM 18 117,qM 19 120] none [0,1,2,3,4,11,12,16,18,19]) (.seq (.region [qM 121 12,qB 122 .quo (.t 121) (qi 8),qM 20 122] none [0,1,2,3,4,11,16,18,19,20]) (.seq (.region [qM 123 18,qM 124 19,qB 125 .lss (.t 123) (.t 124)] none [0,1,2,3,4,11,16,18,19,20,125]) (.cond (.t 125) (.seq (.region [qM 126 18,qM 127 20,qB 128 .geq (.t 126) (.t 127),qM 10 128] none [0,1,2,3,4,10,11,16]) (.seq (.region [qM 129 0,qM 130 1,qM 131 16,qM 132 3,qM 133 4,qC 134 170 [(.t 129),(.t 130),(.t 131),(.t 132),(.t 133)]] none [0,2,3,4,10,11,16]) (.region [qM 135 16,qB 136 .add (.t 135) (qi 1),qM 1 136] none [0,1,2,3,4,10,11]))) (.seq (.region [qM 137 19,qM 138 20,qB 139 .geq (.t 137) (.t 138),qM 10 139] none [0,1,2,3,4,10,11,16]) (.seq (.region [qM 140 0,qM 141 16,qB 142 .add (.t 141) (qi 1),qM 143 2,qM 144 3,qM 145 4,qC 146 170 [(.t 140),(.t 142),(.t 143),(.t 144),(.t 145)]] none [0,1,3,4,10,11,16]) (.region [qM 147 16,qM 2 147] none [0,1,2,3,4,10,11])))))))))))))))))))
def ir170:IRF:=⟨[0,1,2,3,4],(.seq (.region [qV 10 qt] none [0,1,2,3,4,10]) (.seq (.region [qV 11 qt] none [0,1,2,3,4,10,11]) (.block 0 (.loop ir170_0)))),[],false⟩
def ir171:IRF:=⟨[0],(.seq (.region [qV 2 (qi 0)] none [0]) (.seq (.cond qf (.seq (.region [qM 3 0,qX 4 (.cvt .u32 (.t 3)),qC 5 207 [(.t 4)],qM 2 5] none [2]) .ret) .skip) (.seq (.region [qM 6 0,qC 7 208 [(.t 6)],qM 2 7] none [2]) .ret))),[(2,none)],false⟩
def ir175:IRF:=⟨[0],(.seq (.region [qX 1 (.box false (.t 0)),qX 2 (.alloc false [zf,zp])] none [1,2]) (.seq (.seq (.region [qF 3 1 1,qL 4 1 3,qX 5 (.eq false .ptr (.t 4) qp)] none [1,2,5]) (.cond (.t 5) (.seq (.region [qT 6 2 1,qS 2 2 6] none [2]) .ret) .skip)) (.seq (.region [qF 7 1 1,qL 8 1 7,qN 9 8,qF 10 0 9,qT 11 2 10,qS 2 2 11] none [2]) .ret))),[(2,some (2,true))],false⟩
def ir176:IRF:=⟨[0],(.seq (.region [qX 1 (.box false (.t 0)),qX 2 (.alloc false [zf,zp])] none [1,2]) (.seq (.seq (.region [qF 3 1 1,qL 4 1 3,qX 5 (.eq false .ptr (.t 4) qp)] none [1,2,5]) (.cond (.t 5) (.seq (.region [qT 6 2 1,qS 2 2 6] none [2]) .ret) .skip)) (.seq (.region [qF 7 1 1,qL 8 1 7,qN 9 8,qF 10 2 9,qT 11 2 10,qS 2 2 11] none [2]) .ret))),[(2,some (2,true))],false⟩
def ir177:IRF:=⟨[0],(.seq (.region [qV 2 (qi 0)] none [0]) (.seq (.region [qM 3 0,qX 4 (.minmax true [(.t 3),(qi 0)]),qX 5 (.minmax false [(.t 4),(qi 64)]),qM 2 5] none [2]) .ret)),[(2,none)],false⟩
def ir178_0:IRC:=(.seq (.region [qB 15 .lss (.t 14) (.t 13)] none [0,12,13,14,15]) (.seq (.cond (.t 15) .skip (.exit 0)) (.seq (.block 1 (.seq (.region [qX 16 (.idxASl 3 (.t 12) (.t 14)),qT 17 3 16,qX 6 (.alloc false [zi,zE0,zE0]),qS 3 6 17] none [0,6,12,13,14]) (.region [qM 18 0,qF 19 0 6,qL 20 1 19,qX 21 (.cvt .u8 (.t 20)),qX 22 (.mkSl false 1 1 [(.s (.int .u8 0))] [(0,1,(.t 21))]),qX 23 (.app 1 1 (.t 18) (.t 22)),qF 24 1 6,qL 25 1 24,qC 26 28 [(.t 23),(.t 25)],qF 27 2 6,qL 28 1 27,qC 29 28 [(.t 26),(.t 28)],qM 0 29] (some [0,0,2,6,14,31,0,64,255,0,512,2047,4095]) [0,12,13,14]))) (.region [qB 30 .add (.t 14) (qi 1),qM 14 30] none [0,12,13,14]))))
def ir178:IRF:=⟨[0,1],(.seq (.region [qV 4 ql] none [0,1]) (.seq (.region [qM 7 0,qM 8 1,qX 9 (.len false (.t 8)),qX 10 (.cvt .u64 (.t 9)),qC 11 26 [(.t 7),(.t 10)],qM 0 11] none [0,1]) (.seq (.seq (.region [qM 12 1,qX 13 (.len false (.t 12)),qV 14 (qi 0)] none [0,12,13,14]) (.block 0 (.loop ir178_0))) (.seq (.region [qM 31 0,qM 4 31] none [4]) .ret)))),[(4,none)],false⟩
def ir179:IRF:=⟨[0],(.seq (.region [qX 1 (.box false (.t 0)),qV 2 ql] none [1]) (.seq (.region [qF 3 0 1,qL 4 1 3,qC 5 128 [(.t 4)],qM 2 5] none [2]) .ret)),[(2,none)],false⟩
def ir180:IRF:=⟨[0],(.seq (.region [qX 2 (.alloc false [zf,zp]),qV 3 (qi 0)] none [0,2]) (.seq (.region [qM 6 0,qX 7 (.build [zp,zi] [(0,1,(.t 6))]),qX 8 (.box false (.t 7)),qM 4 8] none [2,4]) (.seq (.seq (.region [qM 9 4,qC 10 211 [(.t 9),(qi 0)],qX 5 (.alloc false [zf,zp]),qS 2 5 10] none [2,4,5]) (.tidy [2,4] [5])) (.seq (.seq (.region [qM 11 4,qN 12 11,qF 13 1 12,qL 14 1 13,qB 15 .neq (.t 14) (qi 0)] none [2,4,5,15]) (.seq (.cond (.t 15) (.seq (.region [qC 16 65 [],qM 17 4,qN 18 17,qF 19 1 18,qL 20 1 19,qS 2 2 16,qM 3 20] (some [0,0,2,6,14,1,63]) [2,3]) .ret) .skip) (qR [2,5]))) (.seq (.region [qT 21 2 5,qS 2 2 21,qV 3 (qi 0)] none [2,3]) .ret))))),[(2,some (2,true)),(3,none)],false⟩
def ir181:IRF:=⟨[0,1,2],(.seq (.region [qX 4 (.box true (.t 1)),qX 6 (.alloc false [zf,zp]),qV 7 (qi 0)] none [0,2,4,6]) (.seq (.region [qX 8 (.alloc false [zf,zp])] none [0,2,4,6,8]) (.seq (.seq (.region [qM 10 2,qB 11 .neq (.t 10) (qi 0)] none [0,2,4,6,8,11]) (.seq (.cond (.t 11) (.seq (.region [qT 12 2 8,qM 13 2,qS 2 6 12,qM 7 13] none [6,7]) .ret) .skip) (qR [0,4,6,8]))) (.seq (.seq (.region [qM 14 0,qC 15 183 [(.t 14)],qM 9 15] none [4,6,8,9]) (.seq (.region [qM 16 9,qB 17 .neq (.t 16) (qi 0)] none [4,6,8,9,17]) (.seq (.cond (.t 17) (.seq (.region [qT 18 2 8,qM 19 9,qS 2 6 18,qM 7 19] none [6,7]) .ret) .skip) (qR [4,6])))) (.seq (.region [qT 20 2 4,qS 2 6 20,qV 7 (qi 0)] none [6,7]) .ret))))),[(6,some (2,true)),(7,none)],false⟩
def ir182:IRF:=⟨[0,1],(.seq (.region [qX 4 (.alloc false [zu,zp])] none [0,1,4]) (.seq (.seq (.region [qM 13 0,qC 14 212 [(.t 13),(qi 1)],qB 15 .eql (.t 14) (qu 1)] none [0,1,4,15]) (.seq (.cond (.t 15) (.seq (.seq (.region [qM 17 0,qC 18 213 [(.t 17)],qC 19 62 [(.t 18)],qM 16 19,qE 20 16 0,qE 21 16 1,qX 5 (.alloc false [zu,zp]),qS 2 5 20,qM 6 21] none [4,5]) (.tidy [4] [5])) (.seq (.region [qT 22 2 5,qS 2 4 22] none [4]) .ret)) .skip) (qR [0,1,4]))) (.seq (.seq (.region [qM 23 1,qB 24 .eql (.t 23) (qi 16)] none [0,1,4,24]) (.seq (.cond (.t 24) (.region [qM 25 0,qC 26 214 [(.t 25),(qi 3)]] none [0,1,4]) .skip) (qR [0,1,4]))) (.seq (.region [qX 7 (.alloc false [zu,zp]),qX 8 (.alloc false [zu,zp])] none [0,1,4,7,8]) (.seq (.region [qV 9 (qu 0)] none [0,1,4,7,8,9]) (.seq (.region [qM 27 0,qC 28 212 [(.t 27),(qi 2)],qM 10 28] none [0,1,4,7,8,9,10]) (.seq (.region [qM 29 10,qB 30 .neq (.t 29) (qu 0),qM 31 10,qB 32 .neq (.t 31) (qu 1),qM 11 30,qM 12 32] none [0,1,4,7,8,9,10,11,12]) (.seq (.seq (.region [qM 33 10,qB 34 .eql (.t 33) (qu 3)] none [0,1,4,7,8,9,11,12,34]) (.seq (.cond (.t 34) (.seq (.seq (.region [qM 35 0,qC 36 212 [(.t 35),(qi 1)],qB 37 .eql (.t 36) (qu 0)] none [0,1,4,7,8,11,12,37]) (.seq (.cond (.t 37) (.seq (.region [qM 38 0,qC 39 212 [(.t 38),(qi 1)],qB 40 .eql (.t 39) (qu 0),qM 12 40] none [0,1,4,7,8,12]) (.region [qM 41 12,qX 42 (.un .not (.t 41)),qM 11 42] none [0,1,4,7,8,11,12])) .skip) (qR [0,1,4,7,8,11,12]))) (.seq (.region [qM 43 0,qC 44 213 [(.t 43)],qM 9 44] none [0,1,4,7,8,9,11,12]) (.region [qM 45 0,qM 46 9,qB 47 .gtr (.t 46) (qu 0),qC 48 215 [(.t 45),(.t 47)]] none [0,1,4,7,8,9,11,12]))) .skip) (qR [0,1,4,7,8,9,11,12]))) (.seq (.seq (.region [qM 49 0,qC 50 216 [(.t 49)],qM 51 50,qM 52 11 (qy 51),qA 53 51 52] none [0,1,4,7,8,9,11,12,53]) (.seq (.cond (.t 53) (.region [qM 54 0,qM 55 1,qB 56 .add (.t 55) (qi 1),qC 57 182 [(.t 54),(.t 56)],qS 2 7 57] none [0,1,4,7,8,9,11,12]) .skip) (qR [0,1,4,7,8,9,11,12]))) (.seq (.seq (.region [qM 58 0,qC 59 216 [(.t 58)],qM 60 59,qM 61 12 (qy 60),qA 62 60 61] none [0,1,4,7,8,9,11,12,62]) (.seq (.cond (.t 62) (.region [qM 63 0,qM 64 1,qB 65 .add (.t 64) (qi 1),qC 66 182 [(.t 63),(.t 65)],qS 2 8 66] none [0,4,7,8,9,11,12]) .skip) (qR [0,4,7,8,9,11,12]))) (.seq (.regq true [qM 67 0,qT 68 2 7,qC 69 139 [(.t 68)],qM 70 11,qX 71 (.un .not (.t 70)),qX 72 (.eq false .bool (.t 69) (.t 71)),qM 73 72,qT 74 2 8 (qy 73),qC 75 139 [(.t 74)] (qy 73),qM 76 12 (qy 73),qX 77 (.un .not (.t 76)) (qy 73),qX 78 (.eq false .bool (.t 75) (.t 77)) (qy 73),qA 79 73 78,qM 80 79,qT 81 2 7 (qy 80),qC 82 138 [(.t 81)] (qy 80),qT 83 2 8 (qy 80),qC 84 138 [(.t 83)] (qy 80),qX 85 (.minmax false [(.t 82),(.t 84)]) (qy 80),qB 86 .eql (.t 85) (qu 0) (qy 80),qA 87 80 86,qM 88 87,qT 89 2 7 (qy 88),qC 90 135 [(.t 89)] (qy 88),qM 91 90 (qy 88),qT 92 2 8 (qy 91),qC 93 135 [(.t 92)] (qy 91),qA 94 91 93 (qy 88),qM 95 94 (qy 88),qT 96 2 7 (qy 95),qC 97 138 [(.t 96)] (qy 95),qT 98 2 8 (qy 95),qC 99 138 [(.t 98)] (qy 95),qB 100 .eql (.t 97) (.t 99) (qy 95),qA 101 95 100 (qy 88),qX 102 (.un .not (.t 101)) (qy 88),qA 103 88 102,qC 104 215 [(.t 67),(.t 103)]] [0,4,7,8,9]) (.seq (.seq (.region [qM 105 0,qC 106 216 [(.t 105)],qX 107 (.un .not (.t 106))] none [0,4,7,8,9,107]) (.seq (.cond (.t 107) (.seq (.region [qX 108 (.build [zu,zp] []),qS 2 4 108] none [4]) .ret) .skip) (qR [0,4,7,8,9]))) (.seq (.region [qM 109 0,qM 110 9,qT 111 2 7,qT 112 2 8,qC 113 217 [(.t 109),(.t 110),(.t 111),(.t 112)],qS 2 4 113] none [4]) .ret))))))))))))),[(4,some (2,true))],false⟩
def ir183:IRF:=⟨[0],(.seq (.region [qV 2 (qi 0)] none [0]) (.seq (.seq (.region [qM 5 0,qC 6 218 [(.t 5)],qB 7 .neq (.t 6) (qi 0)] none [0,7]) (.seq (.cond (.t 7) (.seq (.region [qM 8 0,qC 9 218 [(.t 8)],qM 2 9] none [2]) .ret) .skip) (qR [0]))) (.seq (.regq true [qM 10 0,qN 11 10,qF 12 1 11,qL 13 1 12,qM 14 0,qC 15 219 [(.t 14)],qM 3 13,qM 4 15] [0,3,4]) (.seq (.seq (.region [qM 16 4,qB 17 .geq (.t 16) (qi 8),qM 18 17,qM 19 0 (qn 18),qM 20 4 (qn 18),qC 21 220 [(.t 19),(.t 20)] (qn 18),qB 22 .neq (.t 21) (qu 0) (qn 18),qO 23 18 22] none [0,3,23]) (.seq (.cond (.t 23) (.seq (.region [qM 24 0,qM 25 3,qN 26 24,qF 27 1 26,qS 1 27 25] none [0]) (.seq (.region [qM 28 0,qC 29 221 [(.t 28)]] none [0]) (.seq (.region [qM 30 0,qN 31 30,qF 32 2 31,qL 33 1 32,qM 2 33] none [2]) .ret))) .skip) (qR [0,3]))) (.seq (.region [qM 34 0,qM 35 3,qN 36 34,qF 37 1 36,qS 1 37 35] none []) (.seq (.region [qV 2 (qi 0)] none [2]) .ret)))))),[(2,none)],false⟩
def ir184_0:IRC:=(.seq (.tidy [0,2,3,4] []) (.seq (.seq (.region [qM 15 0,qC 16 104 [(.t 15)],qB 17 .eql (.t 16) (qi 0),qM 18 17,qM 19 4 (qy 18),qX 20 (.len false (.t 19)) (qy 18),qX 21 (.cvt .u64 (.t 20)) (qy 18),qM 22 3 (qy 18),qB 23 .lss (.t 21) (.t 22) (qy 18),qA 24 18 23] none [0,2,3,4,24]) (.seq (.cond (.t 24) .skip (.seq (qR [0,2,4]) (.exit 0))) (qR [0,2,3,4]))) (.block 1 (.seq (.seq (.region [qM 25 0,qC 26 96 [(.t 25)],qX 27 (.cvt .i64 (.t 26)),qM 28 0,qC 29 101 [(.t 28),(qi 12)],qM 30 0,qC 31 101 [(.t 30),(qi 40)],qX 32 (.build [zi,zE0,zE0] [(0,1,(.t 27)),(1,1,(.t 29)),(2,1,(.t 31))]),qX 5 (.alloc false [zi,zE0,zE0]),qS 3 5 32] none [0,2,3,4,5]) (.tidy [0,2,3,4] [5])) (.seq (.seq (.region [qM 33 0,qC 34 104 [(.t 33)],qB 35 .neq (.t 34) (qi 0)] none [0,2,3,4,5,35]) (.seq (.cond (.t 35) (.seq (qR [0,2,4]) (.exit 0)) .skip) (qR [0,2,3,4,5]))) (.seq (.seq (.region [qT 36 3 5,qC 37 69 [(.t 36)],qM 6 37] none [0,2,3,4,5,6]) (.seq (.region [qM 38 6,qB 39 .neq (.t 38) (qi 0)] none [0,2,3,4,5,6,39]) (.seq (.cond (.t 39) (.region [qM 40 0,qM 41 6,qC 42 97 [(.t 40),(.t 41)]] none [0,2,3,4,5]) .skip) (qR [0,2,3,4,5])))) (.seq (.seq (.regq true [qM 43 4,qX 44 (.len false (.t 43)),qB 45 .gtr (.t 44) (qi 0),qM 46 45,qM 47 4 (qy 46),qM 48 4 (qy 46),qX 49 (.len false (.t 48)) (qy 46),qB 50 .sub (.t 49) (qi 1) (qy 46),qX 51 (.idxASl 3 (.t 47) (.t 50)) (qy 46),qT 52 3 51 (qy 46),qT 53 3 5 (qy 46),qC 54 222 [(.t 52),(.t 53)] (qy 46),qX 55 (.un .not (.t 54)) (qy 46),qA 56 46 55] [0,2,3,4,5,56]) (.seq (.cond (.t 56) (.region [qM 57 0,qC 58 97 [(.t 57),(qi 6)]] none [0,2,3,4,5]) .skip) (qR [0,2,3,4,5]))) (.region [qM 59 4,qT 60 3 5,qX 61 (.mkSl true 1 3 [zi,zE0,zE0] [(0,3,(.t 60))]),qX 62 (.app 3 40 (.t 59) (.t 61)),qM 4 62] none [0,2,3,4]))))))))
def ir184:IRF:=⟨[0],(.seq (.region [qX 2 (.alloc false [zs])] none [0,2]) (.seq (.region [qM 9 0,qC 10 98 [(.t 9)],qM 3 10] none [0,2,3]) (.seq (.seq (.region [qM 11 3,qB 12 .gtr (.t 11) (qu 8)] none [0,2,3,12]) (.seq (.cond (.t 12) (.region [qM 13 0,qC 14 97 [(.t 13),(qi 8)]] none [0,2,3]) .skip) (qR [0,2,3]))) (.seq (.region [qV 4 ql] none [0,2,3,4]) (.seq (.seq (.block 0 (.loop ir184_0)) (.tidy [0,2] [4])) (.seq (.seq (.region [qM 63 0,qC 64 104 [(.t 63)],qB 65 .neq (.t 64) (qi 0)] none [2,4,65]) (.seq (.cond (.t 65) (.seq (.region [qX 66 (.build [zs] []),qS 1 2 66] none [2]) .ret) .skip) (qR [2,4]))) (.seq (.seq (.region [qM 68 4,qC 69 24 [(.t 68)],qM 67 69,qE 70 67 0,qE 71 67 1,qX 7 (.alloc false [zs]),qS 1 7 70,qM 8 71] none [2,7]) (.tidy [2] [7])) (.seq (.region [qT 72 1 7,qS 1 2 72] none [2]) .ret)))))))),[(2,some (1,true))],false⟩
def ir188:IRF:=⟨[0,1],(.seq (.region [qV 4 (qi 0)] none [0,1]) (.seq (.region [qM 5 0,qM 6 1,qC 7 224 [(.t 5),(.t 6),qt],qM 4 7] none [4]) .ret)),[(4,none)],false⟩
def ir189:IRF:=⟨[0,1],(.seq (.region [qV 4 (.c (.p zE0))] none [0,1]) (.seq (.seq (.region [qM 5 0,qM 6 1,qC 7 225 [(.t 5),(.t 6)]] none [0,1,7]) (.seq (.cond (.t 7) (.seq (.region [qM 8 0,qM 9 0,qX 10 (.len true (.t 9)),qM 11 1,qX 12 (.len true (.t 11)),qB 13 .sub (.t 10) (.t 12),qX 14 (.slStr (.t 8) none (some (.t 13))),qM 4 14] none [4]) .ret) .skip) (qR [0]))) (.seq (.region [qM 15 0,qM 4 15] none [4]) .ret))),[(4,none)],false⟩
def ir199_0:IRC:=(.seq (.tidy [0,1,2,3,8,9] []) (.seq (.seq (.region [qM 18 9,qM 19 1,qB 20 .gtr (.t 18) (.t 19),qM 21 20,qM 22 3 (qy 21),qM 23 0 (qy 21),qM 24 9 (qy 21),qX 25 (.idxASl 3 (.t 23) (.t 24)) (qy 21),qT 26 3 25 (qy 21),qM 27 0 (qy 21),qM 28 9 (qy 21),qB 29 .sub (.t 28) (qi 1) (qy 21),qX 30 (.idxASl 3 (.t 27) (.t 29)) (qy 21),qT 31 3 30 (qy 21),qX 32 (.callv (.t 22) [(.t 26),(.t 31)]) (qy 21),qB 33 .lss (.t 32) (qi 0) (qy 21),qA 34 21 33] (some [0,0,3,7,15,15,15,111,239,15,15,1039,3599,7695,16383,32767,65535]) [0,1,2,3,8,9,34]) (.cond (.t 34) .skip (.exit 2))) (.seq (.block 3 (.region [qM 37 0,qM 38 9,qM 39 0,qM 40 9,qB 41 .sub (.t 40) (qi 1),qM 42 0,qM 43 9,qB 44 .sub (.t 43) (qi 1),qX 45 (.idxASl 3 (.t 42) (.t 44)),qT 46 3 45,qM 47 0,qM 48 9,qX 49 (.idxASl 3 (.t 47) (.t 48)),qT 50 3 49,qX 51 (.idxASl 3 (.t 37) (.t 38)),qS 3 51 46,qX 52 (.idxASl 3 (.t 39) (.t 41)),qS 3 52 50] (some [0,0,0,0,8,0,0,64,224,480,0,0,3072,7168,16355,32739,65535,131071]) [0,1,2,3,8,9])) (.region [qM 35 9,qB 36 .sub (.t 35) (qi 1),qM 9 36] none [0,1,2,3,8,9]))))
def ir199_1:IRC:=(.seq (.tidy [0,1,2,3,8] []) (.seq (.seq (.region [qM 12 8,qM 13 2,qB 14 .lss (.t 12) (.t 13)] none [0,1,2,3,8,14]) (.cond (.t 14) .skip (.exit 0))) (.seq (.block 1 (.seq (.region [qM 17 8,qM 9 17] none [0,1,2,3,8,9]) (.block 2 (.loop ir199_0)))) (.region [qM 15 8,qB 16 .add (.t 15) (qi 1),qM 8 16] none [0,1,2,3,8]))))
def ir199:IRF:=⟨[0,1,2,3],(.seq (.region [qM 10 1,qB 11 .add (.t 10) (qi 1),qM 8 11] none [0,1,2,3,8]) (.block 0 (.loop ir199_1))),[],false⟩
def ir208:IRF:=⟨[0],(.seq (.region [qV 2 (qi 0)] none [0,2]) (.seq (.seq (.region [qM 3 0,qB 4 .geq (.t 3) (qu 4294967296)] none [0,2,4]) (.cond (.t 4) (.seq (.region [qM 5 0,qB 6 .shr (.t 5) (qu 32),qM 0 6] none [0]) (.region [qV 2 (qi 32)] none [0,2])) .skip)) (.seq (.seq (.region [qM 7 0,qB 8 .geq (.t 7) (qu 65536)] none [0,2,8]) (.cond (.t 8) (.seq (.region [qM 9 0,qB 10 .shr (.t 9) (qu 16),qM 0 10] none [0,2]) (.region [qM 11 2,qB 12 .add (.t 11) (qi 16),qM 2 12] none [0,2])) .skip)) (.seq (.seq (.region [qM 13 0,qB 14 .geq (.t 13) (qu 256)] none [0,2,14]) (.cond (.t 14) (.seq (.region [qM 15 0,qB 16 .shr (.t 15) (qu 8),qM 0 16] none [0,2]) (.region [qM 17 2,qB 18 .add (.t 17) (qi 8),qM 2 18] none [0,2])) .skip)) (.seq (.region [qM 19 2,qM 20 0,qX 21 (.cvt .u8 (.t 20)),qX 22 (.idxStr (.c (.p (.s (.string ⟨#[0,1,2,2,3,3,3,3,4,4,4,4,4,4,4,4,5,5,5,5,5,5,5,5,5,5,5,5,5,5,5,5,6,6,6,6,6,6,6,6,6,6,6,6,6,6,6,6,6,6,6,6,6,6,6,6,6,6,6,6,6,6,6,6,7,7,7,7,7,7,7,7,7,7,7,7,7,7,7,7,7,7,7,7,7,7,7,7,7,7,7,7,7,7,7,7,7,7,7,7,7,7,7,7,7,7,7,7,7,7,7,7,7,7,7,7,7,7,7,7,7,7,7,7,7,7,7,7,8,8,8,8,8,8,8,8,8,8,8,8,8,8,8,8,8,8,8,8,8,8,8,8,8,8,8,8,8,8,8,8,8,8,8,8,8,8,8,8,8,8,8,8,8,8,8,8,8,8,8,8,8,8,8,8,8,8,8,8,8,8,8,8,8,8,8,8,8,8,8,8,8,8,8,8,8,8,8,8,8,8,8,8,8,8,8,8,8,8,8,8,8,8,8,8,8,8,8,8,8,8,8,8,8,8,8,8,8,8,8,8,8,8,8,8,8,8,8,8,8,8,8,8,8,8,8,8]⟩)))) (.t 21)),qX 23 (.cvt .i64 (.t 22)),qB 24 .add (.t 19) (.t 23),qM 2 24] none [2]) .ret))))),[(2,none)],false⟩
def ir211:IRF:=⟨[0,1],(.seq (.region [qX 4 (.alloc false [zf,zp])] none [0,1,4]) (.seq (.region [qC 10 65 [],qC 11 65 [],qX 5 (.alloc false [zf,zp]),qX 6 (.alloc false [zf,zp]),qS 2 5 10,qS 2 6 11] none [0,1,4,5,6]) (.seq (.region [qM 12 0,qC 13 212 [(.t 12),(qi 2)],qM 7 13] none [0,1,4,5,6,7]) (.seq (.seq (.region [qM 14 7,qB 15 .eql (.t 14) (qu 0)] none [0,1,4,5,6,7,15]) (.seq (.cond (.t 15) (.seq (.seq (.region [qM 16 0,qC 17 212 [(.t 16),(qi 1)],qB 18 .eql (.t 17) (qu 1)] none [4,18]) (.seq (.cond (.t 18) (.seq (.region [qC 19 66 [],qS 2 4 19] none [4]) .ret) .skip) (qR [4]))) (.seq (.region [qC 20 65 [],qS 2 4 20] none [4]) .ret)) .skip) (qR [0,1,4,5,6,7]))) (.seq (.seq (.region [qM 21 1,qB 22 .eql (.t 21) (qi 16)] none [0,1,4,5,6,7,22]) (.seq (.cond (.t 22) (.region [qM 23 0,qC 24 214 [(.t 23),(qi 3)]] none [0,1,4,5,6,7]) .skip) (qR [0,1,4,5,6,7]))) (.seq (.seq (.region [qM 25 0,qC 26 216 [(.t 25)],qM 27 26,qM 28 7 (qy 27),qB 29 .neq (.t 28) (qu 1) (qy 27),qA 30 27 29] none [0,1,4,5,6,7,30]) (.seq (.cond (.t 30) (.region [qM 31 0,qM 32 1,qB 33 .add (.t 32) (qi 1),qC 34 211 [(.t 31),(.t 33)],qS 2 5 34] none [0,1,4,5,6,7]) .skip) (qR [0,1,4,5,6,7]))) (.seq (.seq (.region [qM 35 0,qC 36 216 [(.t 35)],qM 37 36,qM 38 7 (qy 37),qB 39 .neq (.t 38) (qu 2) (qy 37),qA 40 37 39] none [0,1,4,5,6,7,40]) (.seq (.cond (.t 40) (.region [qM 41 0,qM 42 1,qB 43 .add (.t 42) (qi 1),qC 44 211 [(.t 41),(.t 43)],qS 2 6 44] none [0,4,5,6,7]) .skip) (qR [0,4,5,6,7]))) (.seq (.region [qM 45 0,qT 46 2 5,qC 47 86 [(.t 46)],qM 48 7,qB 49 .eql (.t 48) (qu 1),qX 50 (.eq false .bool (.t 47) (.t 49)),qM 51 50,qT 52 2 6 (qy 51),qC 53 86 [(.t 52)] (qy 51),qM 54 7 (qy 51),qB 55 .eql (.t 54) (qu 2) (qy 51),qX 56 (.eq false .bool (.t 53) (.t 55)) (qy 51),qA 57 51 56,qM 58 57,qT 59 2 5 (qy 58),qC 60 160 [(.t 59)] (qy 58),qM 61 60 (qy 58),qT 62 2 6 (qy 61),qC 63 160 [(.t 62)] (qy 61),qA 64 61 63 (qy 58),qX 65 (.un .not (.t 64)) (qy 58),qA 66 58 65,qC 67 215 [(.t 45),(.t 66)]] none [4,5,6]) (.seq (.seq (.region [qT 69 2 5,qT 70 2 6,qC 71 67 [(.t 69),(.t 70)],qM 68 71,qE 72 68 0,qE 73 68 1,qX 8 (.alloc false [zf,zp]),qS 2 8 72,qM 9 73] none [4,8]) (.tidy [4] [8])) (.seq (.region [qT 74 2 8,qS 2 4 74] none [4]) .ret)))))))))),[(4,some (2,true))],false⟩
def ir212:IRF:=⟨[0,1],(.seq (.region [qV 4 (qu 0)] none [0,1]) (.seq (.seq (.region [qM 6 0,qC 7 216 [(.t 6)],qX 8 (.un .not (.t 7))] none [0,1,8]) (.seq (.cond (.t 8) (.seq (.region [qV 4 (qu 0)] none [4]) .ret) .skip) (qR [0,1]))) (.seq (.region [qM 9 0,qN 10 9,qF 11 0 10,qL 12 1 11,qM 13 1,qC 14 220 [(.t 12),(.t 13)],qM 5 14] none [0,5]) (.seq (.region [qM 15 0,qC 16 216 [(.t 15)]] none [5]) (.seq (.region [qM 17 5,qM 4 17] none [4]) .ret))))),[(4,none)],false⟩
def ir213:IRF:=⟨[0],(.seq (.region [qV 2 (qu 0)] none [0]) (.seq (.seq (.region [qM 4 0,qC 5 216 [(.t 4)],qX 6 (.un .not (.t 5))] none [0,6]) (.seq (.cond (.t 6) (.seq (.region [qV 2 (qu 0)] none [2]) .ret) .skip) (qR [0]))) (.seq (.region [qM 7 0,qN 8 7,qF 9 0 8,qL 10 1 9,qC 11 236 [(.t 10)],qM 3 11] none [0,3]) (.seq (.seq (.region [qM 12 0,qC 13 216 [(.t 12)],qM 14 13,qM 15 3 (qy 14),qB 16 .gtr (.t 15) (qu 1048576) (qy 14),qA 17 14 16] none [0,3,17]) (.seq (.cond (.t 17) (.region [qM 18 0,qC 19 214 [(.t 18),(qi 4)]] none [3]) .skip) (qR [3]))) (.seq (.region [qM 20 3,qM 2 20] none [2]) .ret))))),[(2,none)],false⟩
def ir214:IRF:=⟨[0,1],(.seq (.region [qM 4 0,qN 5 4,qF 6 1 5,qL 7 1 6,qB 8 .eql (.t 7) (qi 0)] none [0,1,8]) (.seq (.cond (.t 8) (.region [qM 9 0,qM 10 1,qN 11 9,qF 12 1 11,qS 1 12 10] none []) .skip) (qR []))),[],false⟩
def ir215:IRF:=⟨[0,1],(.seq (.region [qM 4 1,qX 5 (.un .not (.t 4))] none [0,5]) (.seq (.cond (.t 5) (.region [qM 6 0,qC 7 214 [(.t 6),(qi 6)]] none []) .skip) (qR []))),[],false⟩
def ir216:IRF:=⟨[0],(.seq (.region [qV 2 qf] none [0]) (.seq (.seq (.region [qM 3 0,qN 4 3,qF 5 0 4,qL 6 1 5,qC 7 218 [(.t 6)],qB 8 .neq (.t 7) (qi 0)] none [0,8]) (.seq (.cond (.t 8) (.region [qM 9 0,qC 10 214 [(.t 9),(qi 6)]] none [0]) .skip) (qR [0]))) (.seq (.region [qM 11 0,qN 12 11,qF 13 1 12,qL 14 1 13,qB 15 .eql (.t 14) (qi 0),qM 2 15] none [2]) .ret))),[(2,none)],false⟩
def ir217:IRF:=⟨[0,1,2,3],(.seq (.region [qX 6 (.box true (.t 2)),qX 7 (.box true (.t 3)),qX 8 (.alloc false [zu,zp])] none [0,1,6,7,8]) (.seq (.seq (.region [qM 12 1,qT 13 2 6,qT 14 2 7,qC 15 63 [(.t 12),(.t 13),(.t 14)],qM 11 15,qE 16 11 0,qE 17 11 1,qX 9 (.alloc false [zu,zp]),qS 2 9 16,qM 10 17] none [0,8,9,10]) (.tidy [0,8,10] [9])) (.seq (.seq (.region [qM 18 10,qB 19 .neq (.t 18) (qi 0)] none [0,8,9,10,19]) (.seq (.cond (.t 19) (.region [qM 20 0,qM 21 10,qC 22 214 [(.t 20),(.t 21)]] none [8,9]) .skip) (qR [8,9]))) (.seq (.region [qT 23 2 9,qS 2 8 23] none [8]) .ret)))),[(8,some (2,true))],false⟩
def ir218:IRF:=⟨[0],(.seq (.region [qV 2 (qi 0)] none [0]) (.seq (.seq (.region [qM 3 0,qX 4 (.eq false .ptr (.t 3) qp)] none [0,4]) (.seq (.cond (.t 4) (.seq (.region [qV 2 (qi 2)] none [2]) .ret) .skip) (qR [0]))) (.seq (.region [qM 5 0,qN 6 5,qF 7 2 6,qL 8 1 7,qM 2 8] none [2]) .ret))),[(2,none)],false⟩
def ir219:IRF:=⟨[0],(.seq (.region [qV 2 (qi 0)] none [0]) (.seq (.seq (.region [qM 3 0,qX 4 (.eq false .ptr (.t 3) qp)] none [0,4]) (.seq (.cond (.t 4) (.seq (.region [qV 2 (qi 0)] none [2]) .ret) .skip) (qR [0]))) (.seq (.regq true [qM 5 0,qN 6 5,qF 7 0 6,qL 8 1 7,qX 9 (.len false (.t 8)),qB 10 .mul (qi 8) (.t 9),qM 11 0,qN 12 11,qF 13 1 12,qL 14 1 13,qB 15 .sub (.t 10) (.t 14),qM 2 15] [2]) .ret))),[(2,none)],false⟩
def ir220_0:IRC:=(.seq (.tidy [0,5,20,21] []) (.seq (.region [qB 22 .lss (.t 21) (.t 20)] none [0,5,20,21,22]) (.seq (.seq (.cond (.t 22) .skip (.seq (qR [5]) (.exit 0))) (qR [0,5,20,21])) (.seq (.block 1 (.seq (.regq true [qM 23 0,qN 24 23,qF 25 0 24,qL 26 1 25,qM 27 0,qN 28 27,qF 29 1 28,qL 30 1 29,qB 31 .quo (.t 30) (qi 8),qX 32 (.idxASl 1 (.t 26) (.t 31)),qL 33 1 32,qM 34 0,qN 35 34,qF 36 1 35,qL 37 1 36,qB 38 .rem (.t 37) (qi 8),qB 39 .sub (qi 7) (.t 38),qB 40 .shr (.t 33) (.t 39),qB 41 .and (.t 40) (.c (.p (.s (.int .u8 1)))),qM 6 41] [0,5,6,20,21]) (.seq (.region [qM 42 5,qB 43 .shl (.t 42) (qu 1),qM 44 6,qX 45 (.cvt .u64 (.t 44)),qB 46 .or (.t 43) (.t 45),qM 5 46] none [0,5,20,21]) (.region [qM 47 0,qN 48 47,qF 49 1 48,qL 50 1 49,qB 51 .add (.t 50) (qi 1),qN 52 47,qF 53 1 52,qS 1 53 51] none [0,5,20,21])))) (.region [qB 54 .add (.t 21) (qi 1),qM 21 54] none [0,5,20,21])))))
def ir220:IRF:=⟨[0,1],(.seq (.region [qV 4 (qu 0)] none [0,1]) (.seq (.region [qM 7 1,qC 8 177 [(.t 7)],qM 1 8] none [0,1]) (.seq (.seq (.region [qM 9 0,qC 10 218 [(.t 9)],qB 11 .neq (.t 10) (qi 0),qM 12 11,qM 13 0 (qn 12),qC 14 219 [(.t 13)] (qn 12),qM 15 1 (qn 12),qB 16 .lss (.t 14) (.t 15) (qn 12),qO 17 12 16] none [0,1,17]) (.seq (.cond (.t 17) (.seq (.region [qM 18 0,qC 19 221 [(.t 18)],qM 4 19] none [4]) .ret) .skip) (qR [0,1]))) (.seq (.region [qV 5 (qu 0)] none [0,1,5]) (.seq (.seq (.region [qM 20 1,qV 21 (qi 0)] none [0,5,20,21]) (.block 0 (.loop ir220_0))) (.seq (.region [qM 55 5,qM 4 55] none [4]) .ret)))))),[(4,none)],false⟩
def ir221:IRF:=⟨[0],(.seq (.region [qV 2 (qu 0)] none [0]) (.seq (.seq (.region [qM 3 0,qX 4 (.eq true .ptr (.t 3) qp),qM 5 4,qM 6 0 (qy 5),qN 7 6 (qy 5),qF 8 2 7 (qy 5),qL 9 1 8 (qy 5),qB 10 .eql (.t 9) (qi 0) (qy 5),qA 11 5 10] none [0,11]) (.seq (.cond (.t 11) (.region [qM 12 0,qN 13 12,qF 14 2 13,⟨none,(.store 1 (.t 14) (qi 6)),none⟩] none []) .skip) (qR []))) (.seq (.region [qV 2 (qu 0)] none [2]) .ret))),[(2,none)],false⟩
def ir224_0:IRC:=(.seq (.tidy [1,2,10] []) (.seq (.region [qX 11 (.nxt (.t 10)),qE 12 11 0] none [1,2,10,11,12]) (.seq (.seq (.cond (.t 12) .skip (.seq (qR []) (.exit 0))) (qR [1,2,10,11])) (.block 1 (.seq (.region [qE 13 11 1,qE 14 11 2,qM 7 13,qM 8 14] none [1,2,7,8,10]) (.seq (.region [qM 15 1,qM 16 8,qX 17 (.callv (.t 15) [(.t 16)]),qM 18 2,qX 19 (.eq false .bool (.t 17) (.t 18))] none [1,2,7,10,19]) (.seq (.cond (.t 19) (.seq (.region [qM 20 7,qM 6 20] none [6]) .ret) .skip) (qR [1,2,10]))))))))
def ir224:IRF:=⟨[0,1,2],(.seq (.region [qV 6 (qi 0)] none [0,1,2]) (.seq (.seq (.region [qM 9 0,qX 10 (.rng (.t 9))] none [1,2,10]) (.block 0 (.loop ir224_0))) (.seq (.region [qV 6 (.c (.p (.s (.int .i64 (-1)))))] none [6]) .ret))),[(6,none)],false⟩
def ir225:IRF:=⟨[0,1],(.seq (.region [qV 4 qf] none [0,1]) (.seq (.region [qM 5 0,qX 6 (.len true (.t 5)),qM 7 1,qX 8 (.len true (.t 7)),qB 9 .geq (.t 6) (.t 8),qM 10 9,qM 11 0 (qy 10),qM 12 0 (qy 10),qX 13 (.len true (.t 12)) (qy 10),qM 14 1 (qy 10),qX 15 (.len true (.t 14)) (qy 10),qB 16 .sub (.t 13) (.t 15) (qy 10),qX 17 (.slStr (.t 11) (some (.t 16)) none) (qy 10),qM 18 1 (qy 10),qB 19 .eql (.t 17) (.t 18) (qy 10),qA 20 10 19,qM 4 20] none [4]) .ret)),[(4,none)],false⟩
def ir236:IRF:=⟨[0],(.seq (.region [qV 2 (qu 0)] none [0]) (.scope (.seq (.seq (.region [qM 7 0,qX 8 (.eq false .ptr (.t 7) qp)] none [0,8]) (.seq (.cond (.t 8) (.seq (.region [qV 2 (qu 0)] none [2]) .ret) .skip) (qR [0]))) (.seq (.region [qM 9 0,qN 10 9,qF 11 1 10,qL 12 1 11,qM 3 12] none [0,3]) (.seq (.region [qV 4 (qi 2),qV 5 (qu 0)] none [0,3,4,5]) .skip))) 0 (.seq .skip (.seq (.seq (.region [qM 13 0,qC 14 220 [(.t 13),(qi 1)],qB 15 .eql (.t 14) (qu 1)] none [0,3,4,5,15]) (.seq (.cond (.t 15) (.seq (.region [qM 16 5,qM 17 4,qB 18 .shl (qu 1) (.t 17),qB 19 .add (.t 16) (.t 18),qM 5 19] none [0,3,4,5]) (.seq (.region [qM 20 4,qB 21 .add (.t 20) (qi 1),qM 4 21] none [0,3,4,5]) (.seq (.seq (.region [qM 22 4,qB 23 .lss (.t 22) (qi 64)] none [0,3,4,5,23]) (.seq (.cond (.t 23) (.seq (qR [0,3,4,5]) (.goto 0)) .skip) (qR [0,3,4,5]))) (.seq (.region [qM 24 0,qC 25 220 [(.t 24),(qi 1)],qB 26 .eql (.t 25) (qu 1)] none [0,3,4,5,26]) (.seq (.cond (.t 26) (.region [qM 27 0,qC 28 221 [(.t 27)]] none [0,3,4,5]) .skip) (qR [0,3,4,5])))))) .skip) (qR [0,3,4,5]))) (.seq (.region [qM 29 0,qM 30 4,qC 31 220 [(.t 29),(.t 30)],qM 6 31] none [0,3,5,6]) (.seq (.seq (.region [qM 32 0,qN 33 32,qF 34 2 33,qL 35 1 34,qB 36 .neq (.t 35) (qi 0),qM 37 36,qM 38 6 (qn 37),qM 39 5 (qn 37),qB 40 .sub (qu 18446744073709551615) (.t 39) (qn 37),qB 41 .gtr (.t 38) (.t 40) (qn 37),qO 42 37 41] none [0,3,5,6,42]) (.seq (.cond (.t 42) (.seq (.region [qM 43 0,qM 44 3,qN 45 43,qF 46 1 45,qS 1 46 44] none [0]) (.seq (.region [qM 47 0,qC 48 221 [(.t 47)],qM 2 48] none [2]) .ret)) .skip) (qR [5,6]))) (.seq (.region [qM 49 5,qM 50 6,qB 51 .add (.t 49) (.t 50),qM 2 51] none [2]) .ret))))))),[(2,none)],false⟩
end Go.Proofs.YtppeggedcaabkaaGreatDoor
end

section
namespace Go.Proofs.YtppeggedcaabkaaGreatDoor
open Go Go.Sx
def imT (t:TypeId):Bool:=[108,111,210,226].contains t
def anL:List (Nat × Bool × List Nat × Bool × List (Nat × List Nat) × List (Nat × List Nat) × List Nat × Bool):=[(4,false,[1],false,[],[(3,[3,4]),(10,[9])],[],false),(6,false,[74],false,[],[(4,[9,10]),(10,[14]),(11,[16]),(12,[18])],[],false),(7,false,[12],false,[],[],[],false),(8,false,[188,209,221],true,[],[(25,[10]),(29,[12])],[],false),(9,false,[1,37,46],false,[],[],[],false),(10,false,[1,20,50,64],false,[],[(4,[5]),(5,[6])],[],false),(12,false,[1],false,[],[],[],false),(13,false,[1],true,[],[(16,[6])],[],false),(14,false,[],false,[],[(5,[8])],[],true),(15,true,[],false,[],[],[],false),(23,false,[34],false,[],[(5,[10])],[],false),(24,false,[],true,[],[(3,[5]),(8,[7])],[],true),(26,true,[],false,[],[],[],false),(28,true,[],false,[],[],[],false),(31,true,[],false,[],[],[],false),(32,true,[],false,[],[],[],false),(33,true,[],false,[],[],[],false),(40,false,[1],false,[],[(1,[3])],[],false),(45,false,[],false,[],[],[],true),(46,true,[],false,[],[],[],true),(47,false,[63],false,[],[(18,[6])],[],true),(48,false,[],false,[],[],[],true),(68,false,[1],false,[],[],[9],true),(69,false,[1],false,[],[],[10],true),(70,false,[],false,[],[],[],true),(73,true,[],false,[],[],[],false),(77,true,[],false,[],[],[],false),(95,false,[],false,[],[],[],true),(96,false,[],false,[],[],[],true),(97,false,[],false,[],[],[],true),(98,false,[],true,[],[],[],true),(99,false,[22],false,[],[(5,[5])],[],true),(100,false,[],false,[],[(2,[5])],[],true),(101,false,[],false,[],[],[],true),(102,false,[33,45],true,[(0,[46,3,40])],[(10,[7])],[],true),(103,false,[],false,[],[],[],true),(104,false,[],false,[],[],[],true),(119,false,[],true,[],[],[],true),(120,false,[],true,[],[],[9],true),(123,false,[],false,[],[(1,[3])],[],true),(124,false,[],false,[],[],[],true),(125,false,[8,22],true,[(0,[23,3,20])],[],[],true),(131,false,[],true,[],[],[],false),(136,true,[],false,[],[],[],false),(137,true,[],false,[],[],[],false),(147,false,[],false,[],[],[],true),(148,false,[],false,[],[(2,[5])],[],true),(149,true,[],false,[],[],[],true),(150,false,[],false,[],[(2,[5])],[],true),(151,false,[4],false,[],[],[],true),(152,false,[22],false,[],[(5,[6])],[],true),(161,false,[],true,[],[],[],true),(162,false,[],true,[],[(13,[6])],[7,9,17,21,25],true),(163,false,[],false,[],[],[],true),(164,false,[],false,[],[],[],true),(165,false,[],false,[],[],[],true),(166,false,[],false,[],[],[],true),(170,false,[],true,[],[],[],false),(180,false,[],false,[],[(2,[5])],[],true),(181,false,[4],false,[],[],[],true),(182,false,[],false,[],[(2,[5])],[20],true),(183,false,[],false,[],[],[3],true),(184,false,[61],true,[(0,[62,4,59])],[(6,[5]),(16,[7])],[11],true),(188,false,[],false,[],[],[],true),(189,false,[],false,[],[],[],true),(199,false,[],true,[],[],[],false),(211,false,[],false,[],[(14,[8])],[],true),(212,false,[],false,[],[],[],true),(213,false,[],false,[],[],[],true),(214,false,[],false,[],[],[],true),(215,false,[],false,[],[],[],true),(216,false,[],false,[],[],[],true),(217,false,[6,7],false,[],[(1,[9])],[],true),(218,false,[],false,[],[],[],true),(219,false,[],false,[],[],[3],true),(220,false,[],true,[],[],[7],true),(221,false,[],false,[],[],[],true),(224,false,[],true,[],[],[],true),(225,false,[],false,[],[],[],true),(236,false,[],false,[],[],[],true)]
def an (f:FuncId):An:=match anL.lookup f with
 | some (o,i,l,b,r,q,k)=>⟨o,imT,i,l,b,r,q,k⟩
 | none=>⟨false,imT,[],false,[],[],[],false⟩
def cls (f:Nat):Nat:=if [46,47,48,96,97,98,99,101,102,147,149,150,151,180,181,182,183,184,211,212,213,214,215,216,217,220,221,236].contains f then 1 else if [14,24,45,68,69,70,95,100,103,104,119,120,123,124,125,148,152,161,162,163,164,165,166,188,189,218,219,224,225].contains f then 2 else 0
def irs0_:List (FuncId × IRF):=[(4,ir4),(6,ir6),(7,ir7),(8,ir8),(9,ir9),(10,ir10),(11,ir11),(12,ir12),(13,ir13),(14,ir14),(15,ir15),(17,ir17),(18,ir18),(19,ir19),(20,ir20),(21,ir21),(22,ir22),(23,ir23),(24,ir24),(25,ir25),(26,ir26),(27,ir27),(28,ir28),(29,ir29),(30,ir30),(31,ir31),(32,ir32),(33,ir33),(34,ir34),(35,ir35),(36,ir36),(37,ir37),(38,ir38),(39,ir39),(40,ir40),(41,ir41),(42,ir42),(43,ir43),(44,ir44),(45,ir45)]
theorem uF : ∀ p∈irs0_,∃ fn,Tryz.prog.funcs[p.1]?=some fn∧cF Tryz.prog (an p.1) fn=some p.2∧fn.name ≠ "runtime.NumGoroutine":=by
 unfold irs0_
 simp only [List.forall_mem_cons]
 refine ⟨⟨Tryz.f4,Tryz.func4,by kernel_rfl,by decide⟩,⟨Tryz.f6,Tryz.func6,by kernel_rfl,by decide⟩,⟨Tryz.f7,Tryz.func7,by kernel_rfl,by decide⟩,⟨Tryz.f8,Tryz.func8,by kernel_rfl,by decide⟩,⟨Tryz.f9,Tryz.func9,by kernel_rfl,by decide⟩,⟨Tryz.f10,Tryz.func10,by kernel_rfl,by decide⟩,⟨Tryz.f11,Tryz.func11,by kernel_rfl,by decide⟩,⟨Tryz.f12,Tryz.func12,by kernel_rfl,by decide⟩,⟨Tryz.f13,Tryz.func13,by kernel_rfl,by decide⟩,⟨Tryz.f14,Tryz.func14,by kernel_rfl,by decide⟩,⟨Tryz.f15,Tryz.func15,by kernel_rfl,by decide⟩,⟨Tryz.f17,Tryz.func17,by kernel_rfl,by decide⟩,⟨Tryz.f18,Tryz.func18,by kernel_rfl,by decide⟩,⟨Tryz.f19,Tryz.func19,by kernel_rfl,by decide⟩,⟨Tryz.f20,Tryz.func20,by kernel_rfl,by decide⟩,⟨Tryz.f21,Tryz.func21,by kernel_rfl,by decide⟩,⟨Tryz.f22,Tryz.func22,by kernel_rfl,by decide⟩,⟨Tryz.f23,Tryz.func23,by kernel_rfl,by decide⟩,⟨Tryz.f24,Tryz.func24,by kernel_rfl,by decide⟩,⟨Tryz.f25,Tryz.func25,by kernel_rfl,by decide⟩,⟨Tryz.f26,Tryz.func26,by kernel_rfl,by decide⟩,⟨Tryz.f27,Tryz.func27,by kernel_rfl,by decide⟩,⟨Tryz.f28,Tryz.func28,by kernel_rfl,by decide⟩,⟨Tryz.f29,Tryz.func29,by kernel_rfl,by decide⟩,⟨Tryz.f30,Tryz.func30,by kernel_rfl,by decide⟩,⟨Tryz.f31,Tryz.func31,by kernel_rfl,by decide⟩,⟨Tryz.f32,Tryz.func32,by kernel_rfl,by decide⟩,⟨Tryz.f33,Tryz.func33,by kernel_rfl,by decide⟩,⟨Tryz.f34,Tryz.func34,by kernel_rfl,by decide⟩,⟨Tryz.f35,Tryz.func35,by kernel_rfl,by decide⟩,⟨Tryz.f36,Tryz.func36,by kernel_rfl,by decide⟩,⟨Tryz.f37,Tryz.func37,by kernel_rfl,by decide⟩,⟨Tryz.f38,Tryz.func38,by kernel_rfl,by decide⟩,⟨Tryz.f39,Tryz.func39,by kernel_rfl,by decide⟩,⟨Tryz.f40,Tryz.func40,by kernel_rfl,by decide⟩,⟨Tryz.f41,Tryz.func41,by kernel_rfl,by decide⟩,⟨Tryz.f42,Tryz.func42,by kernel_rfl,by decide⟩,⟨Tryz.f43,Tryz.func43,by kernel_rfl,by decide⟩,⟨Tryz.f44,Tryz.func44,by kernel_rfl,by decide⟩,⟨Tryz.f45,Tryz.func45,by kernel_rfl,by decide⟩,fun _ h=>by cases h⟩
def irs1_:List (FuncId × IRF):=[(46,ir46),(47,ir47),(48,ir48),(57,ir57),(58,ir58),(59,ir59),(60,ir60),(61,ir61),(62,ir62),(63,ir63),(64,ir64),(65,ir65),(66,ir66),(67,ir67),(68,ir68),(69,ir69),(70,ir70),(71,ir71),(72,ir72),(73,ir73),(74,ir74),(75,ir75),(76,ir76),(77,ir77),(78,ir78),(79,ir79),(80,ir80),(81,ir81),(82,ir82),(83,ir83),(84,ir84),(85,ir85),(86,ir86),(87,ir87),(88,ir88),(89,ir89),(90,ir90),(91,ir91),(92,ir92),(93,ir93)]
theorem uG : ∀ p∈irs1_,∃ fn,Tryz.prog.funcs[p.1]?=some fn∧cF Tryz.prog (an p.1) fn=some p.2∧fn.name ≠ "runtime.NumGoroutine":=by
 unfold irs1_
 simp only [List.forall_mem_cons]
 refine ⟨⟨Tryz.f46,Tryz.func46,by kernel_rfl,by decide⟩,⟨Tryz.f47,Tryz.func47,by kernel_rfl,by decide⟩,⟨Tryz.f48,Tryz.func48,by kernel_rfl,by decide⟩,⟨Tryz.f57,Tryz.func57,by kernel_rfl,by decide⟩,⟨Tryz.f58,Tryz.func58,by kernel_rfl,by decide⟩,⟨Tryz.f59,Tryz.func59,by kernel_rfl,by decide⟩,⟨Tryz.f60,Tryz.func60,by kernel_rfl,by decide⟩,⟨Tryz.f61,Tryz.func61,by kernel_rfl,by decide⟩,⟨Tryz.f62,Tryz.func62,by kernel_rfl,by decide⟩,⟨Tryz.f63,Tryz.func63,by kernel_rfl,by decide⟩,⟨Tryz.f64,Tryz.func64,by kernel_rfl,by decide⟩,⟨Tryz.f65,Tryz.func65,by kernel_rfl,by decide⟩,⟨Tryz.f66,Tryz.func66,by kernel_rfl,by decide⟩,⟨Tryz.f67,Tryz.func67,by kernel_rfl,by decide⟩,⟨Tryz.f68,Tryz.func68,by kernel_rfl,by decide⟩,⟨Tryz.f69,Tryz.func69,by kernel_rfl,by decide⟩,⟨Tryz.f70,Tryz.func70,by kernel_rfl,by decide⟩,⟨Tryz.f71,Tryz.func71,by kernel_rfl,by decide⟩,⟨Tryz.f72,Tryz.func72,by kernel_rfl,by decide⟩,⟨Tryz.f73,Tryz.func73,by kernel_rfl,by decide⟩,⟨Tryz.f74,Tryz.func74,by kernel_rfl,by decide⟩,⟨Tryz.f75,Tryz.func75,by kernel_rfl,by decide⟩,⟨Tryz.f76,Tryz.func76,by kernel_rfl,by decide⟩,⟨Tryz.f77,Tryz.func77,by kernel_rfl,by decide⟩,⟨Tryz.f78,Tryz.func78,by kernel_rfl,by decide⟩,⟨Tryz.f79,Tryz.func79,by kernel_rfl,by decide⟩,⟨Tryz.f80,Tryz.func80,by kernel_rfl,by decide⟩,⟨Tryz.f81,Tryz.func81,by kernel_rfl,by decide⟩,⟨Tryz.f82,Tryz.func82,by kernel_rfl,by decide⟩,⟨Tryz.f83,Tryz.func83,by kernel_rfl,by decide⟩,⟨Tryz.f84,Tryz.func84,by kernel_rfl,by decide⟩,⟨Tryz.f85,Tryz.func85,by kernel_rfl,by decide⟩,⟨Tryz.f86,Tryz.func86,by kernel_rfl,by decide⟩,⟨Tryz.f87,Tryz.func87,by kernel_rfl,by decide⟩,⟨Tryz.f88,Tryz.func88,by kernel_rfl,by decide⟩,⟨Tryz.f89,Tryz.func89,by kernel_rfl,by decide⟩,⟨Tryz.f90,Tryz.func90,by kernel_rfl,by decide⟩,⟨Tryz.f91,Tryz.func91,by kernel_rfl,by decide⟩,⟨Tryz.f92,Tryz.func92,by kernel_rfl,by decide⟩,⟨Tryz.f93,Tryz.func93,by kernel_rfl,by decide⟩,fun _ h=>by cases h⟩
def irs2_:List (FuncId × IRF):=[(94,ir94),(95,ir95),(96,ir96),(97,ir97),(98,ir98),(99,ir99),(100,ir100),(101,ir101),(102,ir102),(103,ir103),(104,ir104),(114,ir114),(115,ir115),(116,ir116),(117,ir117),(118,ir118),(119,ir119),(120,ir120),(123,ir123),(124,ir124),(125,ir125),(128,ir128),(129,ir129),(131,ir131),(132,ir132),(133,ir133),(134,ir134),(135,ir135),(136,ir136),(137,ir137),(138,ir138),(139,ir139),(140,ir140),(141,ir141),(142,ir142),(143,ir143),(144,ir144),(145,ir145),(146,ir146),(147,ir147)]
theorem uH : ∀ p∈irs2_,∃ fn,Tryz.prog.funcs[p.1]?=some fn∧cF Tryz.prog (an p.1) fn=some p.2∧fn.name ≠ "runtime.NumGoroutine":=by
 unfold irs2_
 simp only [List.forall_mem_cons]
 refine ⟨⟨Tryz.f94,Tryz.func94,by kernel_rfl,by decide⟩,⟨Tryz.f95,Tryz.func95,by kernel_rfl,by decide⟩,⟨Tryz.f96,Tryz.func96,by kernel_rfl,by decide⟩,⟨Tryz.f97,Tryz.func97,by kernel_rfl,by decide⟩,⟨Tryz.f98,Tryz.func98,by kernel_rfl,by decide⟩,⟨Tryz.f99,Tryz.func99,by kernel_rfl,by decide⟩,⟨Tryz.f100,Tryz.func100,by kernel_rfl,by decide⟩,⟨Tryz.f101,Tryz.func101,by kernel_rfl,by decide⟩,⟨Tryz.f102,Tryz.func102,by kernel_rfl,by decide⟩,⟨Tryz.f103,Tryz.func103,by kernel_rfl,by decide⟩,⟨Tryz.f104,Tryz.func104,by kernel_rfl,by decide⟩,⟨Tryz.f114,Tryz.func114,by kernel_rfl,by decide⟩,⟨Tryz.f115,Tryz.func115,by kernel_rfl,by decide⟩,⟨Tryz.f116,Tryz.func116,by kernel_rfl,by decide⟩,⟨Tryz.f117,Tryz.func117,by kernel_rfl,by decide⟩,⟨Tryz.f118,Tryz.func118,by kernel_rfl,by decide⟩,⟨Tryz.f119,Tryz.func119,by kernel_rfl,by decide⟩,⟨Tryz.f120,Tryz.func120,by kernel_rfl,by decide⟩,⟨Tryz.f123,Tryz.func123,by kernel_rfl,by decide⟩,⟨Tryz.f124,Tryz.func124,by kernel_rfl,by decide⟩,⟨Tryz.f125,Tryz.func125,by kernel_rfl,by decide⟩,⟨Tryz.f128,Tryz.func128,by kernel_rfl,by decide⟩,⟨Tryz.f129,Tryz.func129,by kernel_rfl,by decide⟩,⟨Tryz.f131,Tryz.func131,by kernel_rfl,by decide⟩,⟨Tryz.f132,Tryz.func132,by kernel_rfl,by decide⟩,⟨Tryz.f133,Tryz.func133,by kernel_rfl,by decide⟩,⟨Tryz.f134,Tryz.func134,by kernel_rfl,by decide⟩,⟨Tryz.f135,Tryz.func135,by kernel_rfl,by decide⟩,⟨Tryz.f136,Tryz.func136,by kernel_rfl,by decide⟩,⟨Tryz.f137,Tryz.func137,by kernel_rfl,by decide⟩,⟨Tryz.f138,Tryz.func138,by kernel_rfl,by decide⟩,⟨Tryz.f139,Tryz.func139,by kernel_rfl,by decide⟩,⟨Tryz.f140,Tryz.func140,by kernel_rfl,by decide⟩,⟨Tryz.f141,Tryz.func141,by kernel_rfl,by decide⟩,⟨Tryz.f142,Tryz.func142,by kernel_rfl,by decide⟩,⟨Tryz.f143,Tryz.func143,by kernel_rfl,by decide⟩,⟨Tryz.f144,Tryz.func144,by kernel_rfl,by decide⟩,⟨Tryz.f145,Tryz.func145,by kernel_rfl,by decide⟩,⟨Tryz.f146,Tryz.func146,by kernel_rfl,by decide⟩,⟨Tryz.f147,Tryz.func147,by kernel_rfl,by decide⟩,fun _ h=>by cases h⟩
def irs3_:List (FuncId × IRF):=[(148,ir148),(149,ir149),(150,ir150),(151,ir151),(152,ir152),(158,ir158),(159,ir159),(160,ir160),(161,ir161),(162,ir162),(163,ir163),(164,ir164),(165,ir165),(166,ir166),(170,ir170),(171,ir171),(175,ir175),(176,ir176),(177,ir177),(178,ir178),(179,ir179),(180,ir180),(181,ir181),(182,ir182),(183,ir183),(184,ir184),(188,ir188),(189,ir189),(199,ir199),(208,ir208),(211,ir211),(212,ir212),(213,ir213),(214,ir214),(215,ir215),(216,ir216),(217,ir217),(218,ir218),(219,ir219),(220,ir220)]
theorem uI : ∀ p∈irs3_,∃ fn,Tryz.prog.funcs[p.1]?=some fn∧cF Tryz.prog (an p.1) fn=some p.2∧fn.name ≠ "runtime.NumGoroutine":=by
 unfold irs3_
 simp only [List.forall_mem_cons]
 refine ⟨⟨Tryz.f148,Tryz.func148,by kernel_rfl,by decide⟩,⟨Tryz.f149,Tryz.func149,by kernel_rfl,by decide⟩,⟨Tryz.f150,Tryz.func150,by kernel_rfl,by decide⟩,⟨Tryz.f151,Tryz.func151,by kernel_rfl,by decide⟩,⟨Tryz.f152,Tryz.func152,by kernel_rfl,by decide⟩,⟨Tryz.f158,Tryz.func158,by kernel_rfl,by decide⟩,⟨Tryz.f159,Tryz.func159,by kernel_rfl,by decide⟩,⟨Tryz.f160,Tryz.func160,by kernel_rfl,by decide⟩,⟨Tryz.f161,Tryz.func161,by kernel_rfl,by decide⟩,⟨Tryz.f162,Tryz.func162,by kernel_rfl,by decide⟩,⟨Tryz.f163,Tryz.func163,by kernel_rfl,by decide⟩,⟨Tryz.f164,Tryz.func164,by kernel_rfl,by decide⟩,⟨Tryz.f165,Tryz.func165,by kernel_rfl,by decide⟩,⟨Tryz.f166,Tryz.func166,by kernel_rfl,by decide⟩,⟨Tryz.f170,Tryz.func170,by kernel_rfl,by decide⟩,⟨Tryz.f171,Tryz.func171,by kernel_rfl,by decide⟩,⟨Tryz.f175,Tryz.func175,by kernel_rfl,by decide⟩,⟨Tryz.f176,Tryz.func176,by kernel_rfl,by decide⟩,⟨Tryz.f177,Tryz.func177,by kernel_rfl,by decide⟩,⟨Tryz.f178,Tryz.func178,by kernel_rfl,by decide⟩,⟨Tryz.f179,Tryz.func179,by kernel_rfl,by decide⟩,⟨Tryz.f180,Tryz.func180,by kernel_rfl,by decide⟩,⟨Tryz.f181,Tryz.func181,by kernel_rfl,by decide⟩,⟨Tryz.f182,Tryz.func182,by kernel_rfl,by decide⟩,⟨Tryz.f183,Tryz.func183,by kernel_rfl,by decide⟩,⟨Tryz.f184,Tryz.func184,by kernel_rfl,by decide⟩,⟨Tryz.f188,Tryz.func188,by kernel_rfl,by decide⟩,⟨Tryz.f189,Tryz.func189,by kernel_rfl,by decide⟩,⟨Tryz.f199,Tryz.func199,by kernel_rfl,by decide⟩,⟨Tryz.f208,Tryz.func208,by kernel_rfl,by decide⟩,⟨Tryz.f211,Tryz.func211,by kernel_rfl,by decide⟩,⟨Tryz.f212,Tryz.func212,by kernel_rfl,by decide⟩,⟨Tryz.f213,Tryz.func213,by kernel_rfl,by decide⟩,⟨Tryz.f214,Tryz.func214,by kernel_rfl,by decide⟩,⟨Tryz.f215,Tryz.func215,by kernel_rfl,by decide⟩,⟨Tryz.f216,Tryz.func216,by kernel_rfl,by decide⟩,⟨Tryz.f217,Tryz.func217,by kernel_rfl,by decide⟩,⟨Tryz.f218,Tryz.func218,by kernel_rfl,by decide⟩,⟨Tryz.f219,Tryz.func219,by kernel_rfl,by decide⟩,⟨Tryz.f220,Tryz.func220,by kernel_rfl,by decide⟩,fun _ h=>by cases h⟩
def irs4_:List (FuncId × IRF):=[(221,ir221),(224,ir224),(225,ir225),(236,ir236)]
theorem uJ : ∀ p∈irs4_,∃ fn,Tryz.prog.funcs[p.1]?=some fn∧cF Tryz.prog (an p.1) fn=some p.2∧fn.name ≠ "runtime.NumGoroutine":=by
 unfold irs4_
 simp only [List.forall_mem_cons]
 refine ⟨⟨Tryz.f221,Tryz.func221,by kernel_rfl,by decide⟩,⟨Tryz.f224,Tryz.func224,by kernel_rfl,by decide⟩,⟨Tryz.f225,Tryz.func225,by kernel_rfl,by decide⟩,⟨Tryz.f236,Tryz.func236,by kernel_rfl,by decide⟩,fun _ h=>by cases h⟩
def irs:List (FuncId × IRF):=irs0_++irs1_++irs2_++irs3_++irs4_
theorem wD : ∀ p∈irs,∃ fn,Tryz.prog.funcs[p.1]?=some fn∧cF Tryz.prog (an p.1) fn=some p.2∧fn.name ≠ "runtime.NumGoroutine":=by
 intro p hp
 simp only [irs,List.mem_append] at hp
 rcases hp with ((((h0|h1)|h2)|h3)|h4)
 ·exact uF p h0
 ·exact uG p h1
 ·exact uH p h2
 ·exact uI p h3
 ·exact uJ p h4
end Go.Proofs.YtppeggedcaabkaaGreatDoor
end

section
namespace Go.Proofs.YtppeggedcaabkaaGreatDoor
open Go Go.Sx
theorem am (x:Int) (h1 : -(2^63)≤x) (h2:x<2^63):IntKind.i64.wrap x=x:=by
 simp only [IntKind.wrap,IntKind.signed,IntKind.bits]
 simp
 omega
theorem ltF (n k:Nat):(n+k<n)↔False:=⟨fun h=>absurd h (Nat.not_lt.2 (Nat.le_add_right n k)),False.elim⟩
theorem ssP:(type_of% @Go.Sx.callO.eq_1)∧(type_of% @Go.Sx.splice.eq_1)∧(type_of% @Go.Sx.finish.eq_1)∧(type_of% @Go.Sx.look.eq_1)∧(type_of% @Go.Sx.push.eq_1)∧(type_of% @Go.Sx.setObj.eq_1)∧(type_of% @Go.Sx.setU.eq_1)∧(type_of% @Go.Sx.setU.eq_2)∧(type_of% @Go.Sx.setAll.eq_1)∧(type_of% @Go.Sx.setAll.eq_2)∧(type_of% @Go.Sx.leI_eq)∧(type_of% @ltF):=⟨@Go.Sx.callO.eq_1,@Go.Sx.splice.eq_1,@Go.Sx.finish.eq_1,@Go.Sx.look.eq_1,@Go.Sx.push.eq_1,@Go.Sx.setObj.eq_1,@Go.Sx.setU.eq_1,@Go.Sx.setU.eq_2,@Go.Sx.setAll.eq_1,@Go.Sx.setAll.eq_2,@Go.Sx.leI_eq,@ltF⟩
theorem ssR:(type_of% @Go.Sx.splice.eq_1)∧(type_of% @Go.Sx.push.eq_1)∧(type_of% @Go.Sx.setObj.eq_1)∧(type_of% @Go.Sx.setU.eq_1)∧(type_of% @Go.Sx.setU.eq_2)∧(type_of% @Go.Sx.setAll.eq_1)∧(type_of% @Go.Sx.setAll.eq_2)∧(type_of% @Go.Sx.leI_eq)∧(type_of% @ltF):=⟨@Go.Sx.splice.eq_1,@Go.Sx.push.eq_1,@Go.Sx.setObj.eq_1,@Go.Sx.setU.eq_1,@Go.Sx.setU.eq_2,@Go.Sx.setAll.eq_1,@Go.Sx.setAll.eq_2,@Go.Sx.leI_eq,@ltF⟩
theorem ssU:(type_of% @List.idxOf?_cons)∧(type_of% @Go.Sx.LV.undef.eq_1)∧(type_of% @Go.undef.eq_1):=⟨@List.idxOf?_cons,@Go.Sx.LV.undef.eq_1,@Go.undef.eq_1⟩
abbrev Ob:=Option Go.Sx.Obj
theorem dl (k:IntKind) (x y:Int):binI .add k x y=some (.int k (k.wrap (x+y))):=rfl
theorem du (k:IntKind) (x y:Int):binI .sub k x y=some (.int k (k.wrap (x-y))):=rfl
theorem dt (k:IntKind) (x y:Int):binI .mul k x y=some (.int k (k.wrap (x*y))):=rfl
theorem iY (k:IntKind) (x y:Int):binI .eql k x y=some (.bool (x==y)):=rfl
theorem iZ (k:IntKind) (x y:Int):binI .neq k x y=some (.bool (x != y)):=rfl
theorem dq (k:IntKind) (x y:Int):binI .lss k x y=some (.bool (!leI y x)):=rfl
theorem dp (k:IntKind) (x y:Int):binI .leq k x y=some (.bool (leI x y)):=rfl
theorem dn (k:IntKind) (x y:Int):binI .gtr k x y=some (.bool (!leI x y)):=rfl
theorem dm (k:IntKind) (x y:Int):binI .geq k x y=some (.bool (leI y x)):=rfl
theorem fq (b:Bool):unL .not (.p (.s (.bool b)))=some (.bool (!b)):=rfl
theorem fp (k:IntKind) (n:Int):unL .neg (.p (.s (.int k n)))=some (.int k (k.wrap (0-n))):=rfl
theorem ssB:((((((((type_of% @Go.Sx.runF_S)∧((type_of% @dW)∧(type_of% @g8)))∧((type_of% @fO)∧((type_of% @aL)∧(type_of% @fN))))∧(((type_of% @cK)∧((type_of% @cA)∧(type_of% @dU)))∧((type_of% @da)∧((type_of% @dV)∧(type_of% @db)))))∧((((type_of% @dX)∧((type_of% @Go.Sx.tidyR.eq_1)∧(type_of% @fh)))∧((type_of% @cn)∧((type_of% @dY)∧(type_of% @bQ))))∧(((type_of% @dh)∧((type_of% @Go.Sx.wants.eq_1)∧(type_of% @Go.Sx.wants.eq_2)))∧(((type_of% @Go.Sx.evOp.eq_def)∧(type_of% @Go.Sx.opd.eq_1))∧((type_of% @Go.Sx.opd.eq_2)∧(type_of% @Go.Sx.opd.eq_3))))))∧(((((type_of% @Go.Sx.get.eq_1)∧((type_of% @Go.Sx.get.eq_2)∧(type_of% @Go.Sx.putD.eq_1)))∧((type_of% @Go.Sx.putD.eq_2)∧((type_of% @Go.Sx.keep.eq_1)∧(type_of% @Go.Sx.binL.eq_1))))∧(((type_of% @Go.Sx.binL.eq_2)∧((type_of% @Go.Sx.binL.eq_3)∧(type_of% @Go.Sx.isSh.eq_1)))∧((type_of% @Go.Sx.isSh.eq_2)∧((type_of% @Go.Sx.isSh.eq_3)∧(type_of% @dl)))))∧((((type_of% @du)∧((type_of% @dt)∧(type_of% @iY)))∧((type_of% @iZ)∧((type_of% @dq)∧(type_of% @dp))))∧(((type_of% @dn)∧((type_of% @dm)∧(type_of% @Go.Sx.eqL.eq_1)))∧(((type_of% @Go.Sx.eqL.eq_2)∧(type_of% @Go.Sx.eqL.eq_3))∧((type_of% @Go.Sx.eqL.eq_4)∧(type_of% @Go.Sx.eqL.eq_5)))))))∧((((((type_of% @Go.Sx.eqL.eq_6)∧((type_of% @Go.Sx.eqL.eq_7)∧(type_of% @Go.Sx.eqL.eq_8)))∧((type_of% @Go.Sx.eqL.eq_9)∧((type_of% @Go.Sx.eqL.eq_10)∧(type_of% @Go.Sx.eqL.eq_11))))∧(((type_of% @Go.Sx.eqL.eq_12)∧((type_of% @Go.Sx.eqL.eq_13)∧(type_of% @Go.Sx.eqL.eq_14)))∧((type_of% @Go.Sx.eqL.eq_15)∧((type_of% @fq)∧(type_of% @fp)))))∧((((type_of% @Go.Sx.resVs.eq_1)∧((type_of% @Go.Sx.resVs.eq_2)∧(type_of% @Go.Sx.resV.eq_1)))∧((type_of% @Go.Sx.resV.eq_2)∧((type_of% @Go.Sx.oneL.eq_1)∧(type_of% @Go.Sx.oneL.eq_2))))∧(((type_of% @Go.Sx.frz.eq_1)∧((type_of% @Go.Sx.frz.eq_2)∧(type_of% @Go.Sx.frz.go.eq_1)))∧(((type_of% @Go.Sx.frz.go.eq_2)∧(type_of% @Go.Sx.frzL.eq_1))∧((type_of% @Go.Sx.frzL.eq_2)∧(type_of% @Go.Sx.frzL.eq_3))))))∧(((((type_of% @Go.Sx.frzL.eq_4)∧((type_of% @Go.Sx.frzL.eq_5)∧(type_of% @Go.Sx.frzL.eq_6)))∧((type_of% @Go.Sx.frzL.go.eq_1)∧((type_of% @Go.Sx.frzL.go.eq_2)∧(type_of% @Go.Sx.ids.eq_1))))∧(((type_of% @Go.Sx.ids.eq_2)∧((type_of% @Go.Sx.ids.eq_3)∧(type_of% @Go.Sx.ids.eq_4)))∧(((type_of% @Go.Sx.ids.eq_5)∧(type_of% @Go.Sx.ids.eq_6))∧((type_of% @Go.Sx.ids.idsL.eq_1)∧(type_of% @Go.Sx.ids.idsL.eq_2)))))∧((((type_of% @Go.Sx.updIds.eq_1)∧((type_of% @Go.Sx.updIds.eq_2)∧(type_of% @Go.Sx.updIds.eq_3)))∧((type_of% @Go.Sx.reach.eq_1)∧((type_of% @Go.Sx.reach.eq_2)∧(type_of% @Go.Sx.reach.eq_3))))∧(((type_of% @Go.Sx.ren.eq_1)∧((type_of% @Go.Sx.ren.eq_2)∧(type_of% @Go.Sx.ren.eq_3)))∧(((type_of% @Go.Sx.ren.eq_4)∧(type_of% @Go.Sx.ren.eq_5))∧((type_of% @Go.Sx.ren.eq_6)∧(type_of% @Go.Sx.ren.eq_7))))))))∧(((((((type_of% @Go.Sx.ren.go.eq_1)∧((type_of% @Go.Sx.ren.go.eq_2)∧(type_of% @Go.Sx.renU.eq_1)))∧((type_of% @Go.Sx.renU.eq_2)∧((type_of% @Go.Sx.renN.eq_1)∧(type_of% @Go.Sx.renN.eq_2))))∧(((type_of% @Go.Sx.renO.eq_1)∧((type_of% @Go.Sx.renO.eq_2)∧(type_of% @Go.Sx.renO.eq_3)))∧((type_of% @Go.Sx.renId.eq_1)∧((type_of% @Go.Sx.fillP.eq_1)∧(type_of% @Go.Sx.fillP.eq_2)))))∧((((type_of% @Go.Sx.mkAgg.eq_1)∧((type_of% @Go.Sx.allP.eq_1)∧(type_of% @Go.Sx.allP.eq_2)))∧((type_of% @Go.Sx.allP.eq_3)∧((type_of% @Go.Sx.LV.cells.eq_1)∧(type_of% @Go.Sx.LV.cells.eq_2))))∧(((type_of% @Go.Sx.LV.cells.eq_3)∧((type_of% @Go.Sx.LV.cells.eq_4)∧(type_of% @Go.Sx.LV.cells.eq_5)))∧(((type_of% @Go.Sx.LV.cells.eq_6)∧(type_of% @Go.Sx.rd.eq_1))∧((type_of% @Go.Sx.findU.eq_1)∧(type_of% @Go.Sx.findU.eq_2))))))∧(((((type_of% @Go.Sx.slCells.eq_1)∧((type_of% @Go.Sx.slCells.eq_2)∧(type_of% @Go.Sx.slCells.eq_3)))∧((type_of% @Go.Sx.slCells.eq_4)∧((type_of% @Go.Sx.slCells.eq_5)∧(type_of% @Go.Sx.sliceO.eq_1))))∧(((type_of% @Go.Sx.sliceO.eq_2)∧((type_of% @Go.Sx.sliceO.eq_3)∧(type_of% @Go.Sx.sliceO.eq_4)))∧((type_of% @Go.Value.oneCell'.eq_1)∧((type_of% @Go.Value.oneCell'.eq_2)∧(type_of% @Go.Value.oneCell'.eq_3)))))∧((((type_of% @Go.Sx.mmL.eq_1)∧((type_of% @Go.Sx.mmL.eq_2)∧(type_of% @Go.Sx.mm2.eq_1)))∧((type_of% @Go.Sx.mm2.eq_2)∧((type_of% @Go.Sx.gslot.eq_1)∧(type_of% @Go.Sx.gslot.eq_2))))∧(((type_of% @Go.Sx.IROp.slots.eq_1)∧((type_of% @Go.Sx.IROp.slots.eq_2)∧(type_of% @Go.Sx.IROp.slots.eq_3)))∧(((type_of% @Go.Sx.IROp.slots.eq_4)∧(type_of% @Go.Sx.IROp.slots.eq_5))∧((type_of% @Go.Sx.IROp.slots.eq_6)∧(type_of% @Go.Sx.IROp.slots.eq_7)))))))∧((((((type_of% @Go.Sx.IROp.slots.eq_8)∧((type_of% @Go.Sx.IROp.slots.eq_9)∧(type_of% @Go.Sx.IROp.slots.eq_10)))∧((type_of% @Go.Sx.IROp.slots.eq_11)∧((type_of% @Go.Sx.IROp.slots.eq_12)∧(type_of% @Go.Sx.IROp.slots.eq_13))))∧(((type_of% @Go.Sx.IROp.slots.eq_14)∧((type_of% @Go.Sx.IROp.slots.eq_15)∧(type_of% @Go.Sx.IROp.slots.eq_16)))∧((type_of% @Go.Sx.IROp.slots.eq_17)∧((type_of% @Go.Sx.IROp.slots.eq_18)∧(type_of% @Go.Sx.IROp.slots.eq_19)))))∧((((type_of% @Go.Sx.IROp.slots.eq_20)∧((type_of% @Go.Sx.IROp.slots.eq_21)∧(type_of% @Go.Sx.IROp.slots.eq_22)))∧((type_of% @Go.Sx.IROp.slots.eq_23)∧((type_of% @Go.Sx.IROp.slots.eq_24)∧(type_of% @Go.Sx.IROp.slots.eq_25))))∧(((type_of% @Go.Sx.IROp.slots.eq_26)∧((type_of% @Go.Sx.IROp.slots.eq_27)∧(type_of% @Go.Sx.IROp.slots.eq_28)))∧(((type_of% @Go.Sx.IROp.slots.eq_29)∧(type_of% @Go.Sx.IROp.slots.eq_30))∧((type_of% @Go.Sx.IROp.slots.eq_31)∧(type_of% @Go.Sx.IROp.slots.eq_32))))))∧(((((type_of% @Go.Sx.IROp.slots.eq_33)∧((type_of% @Go.Sx.IROp.slots.eq_34)∧(type_of% @Go.Sx.IROp.slots.eq_35)))∧((type_of% @Go.Sx.IROp.slots.eq_36)∧((type_of% @Go.Sx.IROp.slots.eq_37)∧(type_of% @Go.Sx.IROp.slots.eq_38))))∧(((type_of% @Go.Sx.Opd.slots.eq_1)∧((type_of% @Go.Sx.Opd.slots.eq_2)∧(type_of% @Go.Sx.indepD.eq_1)))∧(((type_of% @Go.Sx.quickD.eq_1)∧(type_of% @Go.Sx.quickD.eq_2))∧((type_of% @Go.Sx.indepR.eq_1)∧(type_of% @Go.Sx.indepR.eq_2)))))∧((((type_of% @Go.Sx.indepR.eq_3)∧((type_of% @Go.Sx.pairsD.eq_1)∧(type_of% @Go.Sx.pairsD.eq_2)))∧((type_of% @Go.Sx.apartD.eq_1)∧((type_of% @Nat.testBit.eq_1)∧(type_of% @Go.Sx.Obj.ids.eq_1))))∧(((type_of% @Go.Sx.Obj.ids.eq_2)∧((type_of% @Go.Sx.natL.eq_1)∧(type_of% @Go.Sx.natL.eq_2)))∧(((type_of% @Go.Sx.optMap.eq_1)∧(type_of% @Go.Sx.optMap.eq_2))∧((type_of% @Go.undef.eq_1)∧(type_of% @ltF))))))))):=
 ⟨⟨⟨⟨⟨⟨⟨@Go.Sx.runF_S,⟨@dW,@g8⟩⟩,⟨@fO,⟨@aL,@fN⟩⟩⟩,⟨⟨@cK,⟨@cA,@dU⟩⟩,⟨@da,⟨@dV,@db⟩⟩⟩⟩,⟨⟨⟨@dX,⟨@Go.Sx.tidyR.eq_1,@fh⟩⟩,⟨@cn,⟨@dY,@bQ⟩⟩⟩,⟨⟨@dh,⟨@Go.Sx.wants.eq_1,@Go.Sx.wants.eq_2⟩⟩,⟨⟨@Go.Sx.evOp.eq_def,@Go.Sx.opd.eq_1⟩,⟨@Go.Sx.opd.eq_2,@Go.Sx.opd.eq_3⟩⟩⟩⟩⟩,⟨⟨⟨⟨@Go.Sx.get.eq_1,⟨@Go.Sx.get.eq_2,@Go.Sx.putD.eq_1⟩⟩,⟨@Go.Sx.putD.eq_2,⟨@Go.Sx.keep.eq_1,@Go.Sx.binL.eq_1⟩⟩⟩,⟨⟨@Go.Sx.binL.eq_2,⟨@Go.Sx.binL.eq_3,@Go.Sx.isSh.eq_1⟩⟩,⟨@Go.Sx.isSh.eq_2,⟨@Go.Sx.isSh.eq_3,@dl⟩⟩⟩⟩,⟨⟨⟨@du,⟨@dt,@iY⟩⟩,⟨@iZ,⟨@dq,@dp⟩⟩⟩,⟨⟨@dn,⟨@dm,@Go.Sx.eqL.eq_1⟩⟩,⟨⟨@Go.Sx.eqL.eq_2,@Go.Sx.eqL.eq_3⟩,⟨@Go.Sx.eqL.eq_4,@Go.Sx.eqL.eq_5⟩⟩⟩⟩⟩⟩,⟨⟨⟨⟨⟨@Go.Sx.eqL.eq_6,⟨@Go.Sx.eqL.eq_7,@Go.Sx.eqL.eq_8⟩⟩,⟨@Go.Sx.eqL.eq_9,⟨@Go.Sx.eqL.eq_10,@Go.Sx.eqL.eq_11⟩⟩⟩,⟨⟨@Go.Sx.eqL.eq_12,⟨@Go.Sx.eqL.eq_13,@Go.Sx.eqL.eq_14⟩⟩,⟨@Go.Sx.eqL.eq_15,⟨@fq,@fp⟩⟩⟩⟩,⟨⟨⟨@Go.Sx.resVs.eq_1,⟨@Go.Sx.resVs.eq_2,@Go.Sx.resV.eq_1⟩⟩,⟨@Go.Sx.resV.eq_2,⟨@Go.Sx.oneL.eq_1,@Go.Sx.oneL.eq_2⟩⟩⟩,⟨⟨@Go.Sx.frz.eq_1,⟨@Go.Sx.frz.eq_2,@Go.Sx.frz.go.eq_1⟩⟩,⟨⟨@Go.Sx.frz.go.eq_2,@Go.Sx.frzL.eq_1⟩,⟨@Go.Sx.frzL.eq_2,@Go.Sx.frzL.eq_3⟩⟩⟩⟩⟩,⟨⟨⟨⟨@Go.Sx.frzL.eq_4,⟨@Go.Sx.frzL.eq_5,@Go.Sx.frzL.eq_6⟩⟩,⟨@Go.Sx.frzL.go.eq_1,⟨@Go.Sx.frzL.go.eq_2,@Go.Sx.ids.eq_1⟩⟩⟩,⟨⟨@Go.Sx.ids.eq_2,⟨@Go.Sx.ids.eq_3,@Go.Sx.ids.eq_4⟩⟩,⟨⟨@Go.Sx.ids.eq_5,@Go.Sx.ids.eq_6⟩,⟨@Go.Sx.ids.idsL.eq_1,@Go.Sx.ids.idsL.eq_2⟩⟩⟩⟩,⟨⟨⟨@Go.Sx.updIds.eq_1,⟨@Go.Sx.updIds.eq_2,@Go.Sx.updIds.eq_3⟩⟩,⟨@Go.Sx.reach.eq_1,⟨@Go.Sx.reach.eq_2,@Go.Sx.reach.eq_3⟩⟩⟩,⟨⟨@Go.Sx.ren.eq_1,⟨@Go.Sx.ren.eq_2,@Go.Sx.ren.eq_3⟩⟩,⟨⟨@Go.Sx.ren.eq_4,@Go.Sx.ren.eq_5⟩,⟨@Go.Sx.ren.eq_6,@Go.Sx.ren.eq_7⟩⟩⟩⟩⟩⟩⟩,⟨⟨⟨⟨⟨⟨@Go.Sx.ren.go.eq_1,⟨@Go.Sx.ren.go.eq_2,@Go.Sx.renU.eq_1⟩⟩,⟨@Go.Sx.renU.eq_2,⟨@Go.Sx.renN.eq_1,@Go.Sx.renN.eq_2⟩⟩⟩,⟨⟨@Go.Sx.renO.eq_1,⟨@Go.Sx.renO.eq_2,@Go.Sx.renO.eq_3⟩⟩,⟨@Go.Sx.renId.eq_1,⟨@Go.Sx.fillP.eq_1,@Go.Sx.fillP.eq_2⟩⟩⟩⟩,⟨⟨⟨@Go.Sx.mkAgg.eq_1,⟨@Go.Sx.allP.eq_1,@Go.Sx.allP.eq_2⟩⟩,⟨@Go.Sx.allP.eq_3,⟨@Go.Sx.LV.cells.eq_1,@Go.Sx.LV.cells.eq_2⟩⟩⟩,⟨⟨@Go.Sx.LV.cells.eq_3,⟨@Go.Sx.LV.cells.eq_4,@Go.Sx.LV.cells.eq_5⟩⟩,⟨⟨@Go.Sx.LV.cells.eq_6,@Go.Sx.rd.eq_1⟩,⟨@Go.Sx.findU.eq_1,@Go.Sx.findU.eq_2⟩⟩⟩⟩⟩,⟨⟨⟨⟨@Go.Sx.slCells.eq_1,⟨@Go.Sx.slCells.eq_2,@Go.Sx.slCells.eq_3⟩⟩,⟨@Go.Sx.slCells.eq_4,⟨@Go.Sx.slCells.eq_5,@Go.Sx.sliceO.eq_1⟩⟩⟩,⟨⟨@Go.Sx.sliceO.eq_2,⟨@Go.Sx.sliceO.eq_3,@Go.Sx.sliceO.eq_4⟩⟩,⟨@Go.Value.oneCell'.eq_1,⟨@Go.Value.oneCell'.eq_2,@Go.Value.oneCell'.eq_3⟩⟩⟩⟩,⟨⟨⟨@Go.Sx.mmL.eq_1,⟨@Go.Sx.mmL.eq_2,@Go.Sx.mm2.eq_1⟩⟩,⟨@Go.Sx.mm2.eq_2,⟨@Go.Sx.gslot.eq_1,@Go.Sx.gslot.eq_2⟩⟩⟩,⟨⟨@Go.Sx.IROp.slots.eq_1,⟨@Go.Sx.IROp.slots.eq_2,@Go.Sx.IROp.slots.eq_3⟩⟩,⟨⟨@Go.Sx.IROp.slots.eq_4,@Go.Sx.IROp.slots.eq_5⟩,⟨@Go.Sx.IROp.slots.eq_6,@Go.Sx.IROp.slots.eq_7⟩⟩⟩⟩⟩⟩,⟨⟨⟨⟨⟨@Go.Sx.IROp.slots.eq_8,⟨@Go.Sx.IROp.slots.eq_9,@Go.Sx.IROp.slots.eq_10⟩⟩,⟨@Go.Sx.IROp.slots.eq_11,⟨@Go.Sx.IROp.slots.eq_12,@Go.Sx.IROp.slots.eq_13⟩⟩⟩,⟨⟨@Go.Sx.IROp.slots.eq_14,⟨@Go.Sx.IROp.slots.eq_15,@Go.Sx.IROp.slots.eq_16⟩⟩,⟨@Go.Sx.IROp.slots.eq_17,⟨@Go.Sx.IROp.slots.eq_18,@Go.Sx.IROp.slots.eq_19⟩⟩⟩⟩,⟨⟨⟨@Go.Sx.IROp.slots.eq_20,⟨@Go.Sx.IROp.slots.eq_21,@Go.Sx.IROp.slots.eq_22⟩⟩,⟨@Go.Sx.IROp.slots.eq_23,⟨@Go.Sx.IROp.slots.eq_24,@Go.Sx.IROp.slots.eq_25⟩⟩⟩,⟨⟨@Go.Sx.IROp.slots.eq_26,⟨@Go.Sx.IROp.slots.eq_27,@Go.Sx.IROp.slots.eq_28⟩⟩,⟨⟨@Go.Sx.IROp.slots.eq_29,@Go.Sx.IROp.slots.eq_30⟩,⟨@Go.Sx.IROp.slots.eq_31,@Go.Sx.IROp.slots.eq_32⟩⟩⟩⟩⟩,⟨⟨⟨⟨@Go.Sx.IROp.slots.eq_33,⟨@Go.Sx.IROp.slots.eq_34,@Go.Sx.IROp.slots.eq_35⟩⟩,⟨@Go.Sx.IROp.slots.eq_36,⟨@Go.Sx.IROp.slots.eq_37,@Go.Sx.IROp.slots.eq_38⟩⟩⟩,⟨⟨@Go.Sx.Opd.slots.eq_1,⟨@Go.Sx.Opd.slots.eq_2,@Go.Sx.indepD.eq_1⟩⟩,⟨⟨@Go.Sx.quickD.eq_1,@Go.Sx.quickD.eq_2⟩,⟨@Go.Sx.indepR.eq_1,@Go.Sx.indepR.eq_2⟩⟩⟩⟩,⟨⟨⟨@Go.Sx.indepR.eq_3,⟨@Go.Sx.pairsD.eq_1,@Go.Sx.pairsD.eq_2⟩⟩,⟨@Go.Sx.apartD.eq_1,⟨@Nat.testBit.eq_1,@Go.Sx.Obj.ids.eq_1⟩⟩⟩,⟨⟨@Go.Sx.Obj.ids.eq_2,⟨@Go.Sx.natL.eq_1,@Go.Sx.natL.eq_2⟩⟩,⟨⟨@Go.Sx.optMap.eq_1,@Go.Sx.optMap.eq_2⟩,⟨@Go.undef.eq_1,@ltF⟩⟩⟩⟩⟩⟩⟩⟩
noncomputable abbrev Ω:Oracle:=om cls (findF irs) noG noX
end Go.Proofs.YtppeggedcaabkaaGreatDoor
end

section
namespace Go.Sx
open Go
def bindK {α β:Type} (o:Option α) (f:α→Option β):Option β:=match o with
 | some x=>f x
 | none=>none
@[congr] theorem bindK_congr {α β:Type} {o o':Option α} {f:α→Option β} (h:o=o'):bindK o f=bindK o' f:=by rw [h]
theorem bj {α β:Type} (x:α) (f:α→Option β):bindK (some x) f=f x:=rfl
theorem dI {α β:Type} (f:α→Option β):bindK none f=none:=rfl
theorem eN {α β:Type} (p:Prop) [Decidable p] (a b:Option α) (f:α→Option β):bindK (if p then a else b) f=if p then bindK a f else bindK b f:=by split<;>rfl
def wsel {α:Type} (o:Option Bool) (a b:Option α):Option α:=match o with
 | some true=>a
 | some false=>b
 | none=>none
@[congr] theorem wsel_congr {α:Type} {o o':Option Bool} {a b:Option α} (h:o=o'):wsel o a b=wsel o' a b:=by rw [h]
theorem fv {α:Type} (a b:Option α):wsel (some true) a b=a:=rfl
theorem ec {α:Type} (a b:Option α):wsel (some false) a b=b:=rfl
theorem fu {α:Type} (a b:Option α):wsel none a b=none:=rfl
theorem ft {α:Type} (x:Bool) (a b:Option α):wsel (some x) a b=if x=true then a else b:=by cases x<;>rfl
def seqK (p:Ex × St) (k:St→Option (Ex × St)):Option (Ex × St):=match p with
 | (.normal,st)=>k st
 | r=>some r
@[congr] theorem seqK_congr {p p':Ex × St} {k:St→Option (Ex × St)} (h:p=p'):seqK p k=seqK p' k:=by rw [h]
theorem bc (st:St) (k:St→Option (Ex × St)):seqK (.normal,st) k=k st:=rfl
theorem fm (j:Nat) (st:St) (k:St→Option (Ex × St)):seqK (.exit j,st) k=some (.exit j,st):=rfl
theorem gD (st:St) (k:St→Option (Ex × St)):seqK (.ret,st) k=some (.ret,st):=rfl
theorem fo (j:Nat) (st:St) (k:St→Option (Ex × St)):seqK (.goto j,st) k=some (.goto j,st):=rfl
def blkK (id:Nat) (p:Ex × St):Option (Ex × St):=match p with
 | (.exit j,st)=>if j=id then some (.normal,st) else some (.exit j,st)
 | r=>some r
theorem c5 (id:Nat) (st:St):blkK id (.normal,st)=some (.normal,st):=rfl
theorem eO (id j:Nat) (st:St):blkK id (.exit j,st)=if j=id then some (.normal,st) else some (.exit j,st):=rfl
theorem fZ (id:Nat) (st:St):blkK id (.ret,st)=some (.ret,st):=rfl
theorem eP (id j:Nat) (st:St):blkK id (.goto j,st)=some (.goto j,st):=rfl
def finK (f:IRF) (H:Heap) (nx:Nat) (p:Ex × St):Option (LV × Upd × List (Option Obj)):=match p with
 | (.exit _,_)=>none
 | (.goto _,_)=>none
 | (_,st)=>match resVs H nx st f.results with
  | some l=>finish f.own H nx (oneL l) st.h
  | none=>none
theorem ej (f:IRF) (H:Heap) (nx:Nat) (st:St):finK f H nx (.normal,st)=match resVs H nx st f.results with
  | some l=>finish f.own H nx (oneL l) st.h
  | none=>none:=rfl
theorem jh (f:IRF) (H:Heap) (nx:Nat) (st:St):finK f H nx (.ret,st)=match resVs H nx st f.results with
  | some l=>finish f.own H nx (oneL l) st.h
  | none=>none:=rfl
theorem gp (env:Env):keep [] env=[]:=rfl
theorem eY (t:Nat) (l:List Nat) (env:Env):keep (t::l) env=(t,get env t)::keep l env:=rfl
def condU (x:Bool) (v:LV):LV:=if x then v else .undef
theorem dL (v:LV):condU true v=v:=rfl
theorem c7 (v:LV):condU false v = .undef:=rfl
def gd (b x:Bool):Bool:=x==b
theorem o3:gd true true=true:=rfl
theorem oZ:gd true false=false:=rfl
theorem oY:gd false true=false:=rfl
theorem oX:gd false false=true:=rfl
section
variable {β:Type}
def wselV (v:LV) (b:Bool) (E:Option Res) (K:LV→Hp→Option β) (h:Hp):Option β:=match v with
 | .p (.s (.bool x))=>if x==b then bindK E fun x=>K x.v x.h else K .undef h
 | .p (.s (.tuple _))=>K .undef h
 | _=>none
@[congr] theorem wselV_congr {v v':LV} {b:Bool} {E:Option Res} {K:LV→Hp→Option β} {h:Hp} (e:v=v'):wselV v b E K h=wselV v' b E K h:=by rw [e]
def wselG (g:Option (Nat × Bool)) (env:Env) (E:Option Res) (K:LV→Hp→Option β) (h:Hp):Option β:=match g with
 | none=>bindK E fun x=>K x.v x.h
 | some (t,b)=>wselV (get env t) b E K h
def wsel1 (x:Bool) (E:Option Res) (K:LV→Hp→Option β) (h:Hp):Option β:=if x then bindK E fun x=>K x.v x.h else K .undef h
def wsel2 (x y:Bool) (E:Option Res) (K:LV→Hp→Option β) (h:Hp):Option β:=if x&&y then bindK E fun x=>K x.v x.h else K .undef h
def wsel3 (x y z:Bool) (E:Option Res) (K:LV→Hp→Option β) (h:Hp):Option β:=if x&&(y&&z) then bindK E fun x=>K x.v x.h else K .undef h
@[congr] theorem wsel1_congr {x x':Bool} {E E':Option Res} {K:LV→Hp→Option β} {h:Hp} (hx:x=x') (hE:x'=true→E=E'):wsel1 x E K h=wsel1 x' E' K h:=by
 subst hx
 cases x with
 | false=>rfl
 | true=>rw [hE rfl]
@[congr] theorem wsel2_congr {x x' y y':Bool} {E E':Option Res} {K:LV→Hp→Option β} {h:Hp} (hx:x=x') (hy:y=y') (hE:x'=true→y'=true→E=E'):wsel2 x y E K h=wsel2 x' y' E' K h:=by
 subst hx hy
 cases x
 ·rfl
 ·cases y
  ·rfl
  ·rw [hE rfl rfl]
@[congr] theorem wsel3_congr {x x' y y' z z':Bool} {E E':Option Res} {K:LV→Hp→Option β} {h:Hp} (hx:x=x') (hy:y=y') (hz:z=z') (hE:x'=true→y'=true→z'=true→E=E'):wsel3 x y z E K h=wsel3 x' y' z' E' K h:=by
 subst hx hy hz
 cases x
 ·rfl
 ·cases y
  ·rfl
  ·cases z
   ·rfl
   ·rw [hE rfl rfl rfl]
theorem d7 (env:Env) (E:Option Res) (K:LV→Hp→Option β) (h:Hp):wselG none env E K h=bindK E fun x=>K x.v x.h:=rfl
theorem d8 (t:Nat) (b:Bool) (env:Env) (E:Option Res) (K:LV→Hp→Option β) (h:Hp):wselG (some (t,b)) env E K h=wselV (get env t) b E K h:=rfl
theorem d9 (x b:Bool) (E:Option Res) (K:LV→Hp→Option β) (h:Hp):wselV (.p (.s (.bool x))) b E K h=wsel1 (gd b x) E K h:=rfl
theorem df (a:Array Value) (b:Bool) (E:Option Res) (K:LV→Hp→Option β) (h:Hp):wselV (.p (.s (.tuple a))) b E K h=K .undef h:=rfl
theorem ea (y x b:Bool) (E:Option Res) (K:LV→Hp→Option β) (h:Hp):wselV (condU y (.p (.s (.bool x)))) b E K h=wsel2 y (gd b x) E K h:=by cases y<;>rfl
theorem de (y z x b:Bool) (E:Option Res) (K:LV→Hp→Option β) (h:Hp):wselV (condU y (condU z (.p (.s (.bool x))))) b E K h=wsel3 y z (gd b x) E K h:=by cases y<;>cases z<;>rfl
theorem d4 (E:Option Res) (K:LV→Hp→Option β) (h:Hp):wsel1 true E K h=bindK E fun x=>K x.v x.h:=rfl
theorem dd (E:Option Res) (K:LV→Hp→Option β) (h:Hp):wsel1 false E K h=K .undef h:=rfl
theorem iP (x:Bool) (E:Option Res) (K:LV→Hp→Option β) (h:Hp):wsel2 true x E K h=wsel1 x E K h:=rfl
theorem iQ (x:Bool) (E:Option Res) (K:LV→Hp→Option β) (h:Hp):wsel2 x true E K h=wsel1 x E K h:=by cases x<;>rfl
theorem gN (x:Bool) (E:Option Res) (K:LV→Hp→Option β) (h:Hp):wsel2 false x E K h=K .undef h:=rfl
theorem gO (x:Bool) (E:Option Res) (K:LV→Hp→Option β) (h:Hp):wsel2 x false E K h=K .undef h:=by cases x<;>rfl
theorem iR (x y:Bool) (E:Option Res) (K:LV→Hp→Option β) (h:Hp):wsel3 true x y E K h=wsel2 x y E K h:=rfl
theorem iS (x y:Bool) (E:Option Res) (K:LV→Hp→Option β) (h:Hp):wsel3 x true y E K h=wsel2 x y E K h:=by cases x<;>cases y<;>rfl
theorem iT (x y:Bool) (E:Option Res) (K:LV→Hp→Option β) (h:Hp):wsel3 x y true E K h=wsel2 x y E K h:=by cases x<;>cases y<;>rfl
theorem iU (x y:Bool) (E:Option Res) (K:LV→Hp→Option β) (h:Hp):wsel3 x y false E K h=K .undef h:=by cases x<;>cases y<;>rfl
theorem dZ (x:Bool) (v:LV) (t:List Nat) (m:Bool) (K:LV→Hp→Option β) (h:Hp):wsel1 x (some ⟨v,h,t,m⟩) K h=K (condU x v) h:=by cases x<;>rfl
theorem d5 (x y:Bool) (v:LV) (t:List Nat) (m:Bool) (K:LV→Hp→Option β) (h:Hp):wsel2 x y (some ⟨v,h,t,m⟩) K h=K (condU x (condU y v)) h:=by cases x<;>cases y<;>rfl
theorem d6 (x y z:Bool) (v:LV) (t:List Nat) (m:Bool) (K:LV→Hp→Option β) (h:Hp):wsel3 x y z (some ⟨v,h,t,m⟩) K h=K (condU x (condU y (condU z v))) h:=by cases x<;>cases y<;>cases z<;>rfl
end
def pickV (t:Bool) (x y:LV):LV:=if t then x else y
theorem dS (x y:LV):pickV true x y=x:=rfl
theorem c9 (x y:LV):pickV false x y=y:=rfl
theorem gw (t a b:Bool):pickV t (.p (.s (.bool a))) (.p (.s (.bool b))) = .p (.s (.bool (bif t then a else b))):=by cases t<;>rfl
theorem fe (t a b:Bool):pickV t (condU (gd true t) (.p (.s (.bool a)))) (.p (.s (.bool b))) = .p (.s (.bool (bif t then a else b))):=by cases t<;>rfl
theorem gx (t a b:Bool):pickV t (.p (.s (.bool a))) (condU (gd false t) (.p (.s (.bool b)))) = .p (.s (.bool (bif t then a else b))):=by cases t<;>rfl
def pickO (c x y:LV) (h:Hp):Option Res:=match c with
 | .p (.s (.bool t))=>some ⟨pickV t x y,h,[],false⟩
 | _=>none
theorem dR (t:Bool) (x y:LV) (h:Hp):pickO (.p (.s (.bool t))) x y h=some ⟨pickV t x y,h,[],false⟩:=rfl
theorem eR (c:Ctx) (dr:Bool) (env:Env) (h:Hp) (b x y:Opd):evOp c dr env h (.pick b x y)=pickO (opd c env b) (opd c env x) (opd c env y) h:=by
 simp only [evOp]
 rfl
theorem uN (p:Prop) [Decidable p] (a b:Bool) (u:Upd) (n:List (Option Obj)):(if p then some ((.p (.s (.bool a)):LV),u,n) else some (.p (.s (.bool b)),u,n))=some (.p (.s (.bool (if p then a else b))),u,n):=by split<;>rfl
theorem jH (c:Ctx) (o:IROper) (r:List IROper) (env:Env) (h:Hp):runOpsS c (o::r) env h=
  wselG o.guard env (evOp c false env h o.op) (fun v h'=>runOpsS c r (putD env o.dst v) h') h:=by
 rw [dY]
 cases hg:o.guard with
 | none=>simp only [wants,wselG,bindK];cases evOp c false env h o.op<;>rfl
 | some q=>
  obtain ⟨t,b⟩:=q
  simp only [wants,wselG,wselV]
  generalize get env t=v
  cases v with
  | p x=>
   cases x with
   | s w=>
    cases w with
    | bool x=>cases x<;>cases b<;>first|rfl|(cases evOp c false env h o.op<;>rfl)
    | _=>rfl
   | _=>rfl
  | _=>rfl
theorem cD (c:Ctx) (d:Option Nat) (op:IROp) (g:Option (Nat × Bool)) (r:List IROper) (env:Env) (h:Hp):runOpsS c (⟨d,op,g⟩::r) env h=
  wselG g env (evOp c false env h op) (fun v h'=>runOpsS c r (putD env d v) h') h:=jH c ⟨d,op,g⟩ r env h
theorem cr (c:Ctx) (o:IROper) (r:List IROper) (env:Env) (h:Hp):runOpsTS c (o::r) env h=
  wsel (wants env o.guard) (bindK (evOp c true env h o.op) fun x=>bindK (runOpsTS c r (putD env o.dst x.v) x.h) fun q=>some (⟨x.tch,x.md,c.nx+h.new.length,c.nx+x.h.new.length,o.op.slots++gslot o.guard,o.dst⟩::q.1,q.2))
   (bindK (runOpsTS c r (putD env o.dst .undef) h) fun q=>some (⟨[],false,c.nx+h.new.length,c.nx+h.new.length,gslot o.guard,o.dst⟩::q.1,q.2)):=by
 rw [dh]
 cases wants env o.guard with
 | none=>rfl
 | some b=>
  cases b with
  | false=>
   simp only [wsel,bindK]
   cases runOpsTS c r (putD env o.dst .undef) h with
   | none=>rfl
   | some q=>obtain ⟨a,b,d⟩:=q;rfl
  | true=>
   simp only [wsel]
   cases evOp c true env h o.op with
   | none=>rfl
   | some x=>
    simp only [bindK]
    cases runOpsTS c r (putD env o.dst x.v) x.h with
    | none=>rfl
    | some q=>obtain ⟨a,b,d⟩:=q;rfl
section
variable (c:Ctx) (n:Nat) (st:St)
theorem fP (ops:List IROper) (live:List Nat):runCS c n (.region ops none live) st=bindK (runOpsS c ops st.env st.h) fun p=>some (.normal,⟨keep live p.1,p.2⟩):=by
 rw [g8]
 unfold bindK
 cases runOpsS c ops st.env st.h with
 | none=>rfl
 | some p=>rfl
theorem ey (ops:List IROper) (before live:List Nat):runCS c n (.region ops (some before) live) st=bindK (runOpsTS c ops st.env st.h) fun q=>if indepD q.1 before then some (.normal,⟨keep live q.2.1,q.2.2⟩) else none:=by
 rw [fO]
 unfold bindK
 cases runOpsTS c ops st.env st.h with
 | none=>rfl
 | some p=>rfl
theorem jA (a b:IRC):runCS c n (.seq a b) st=bindK (runCS c n a st) fun p=>seqK p fun st'=>runCS c n b st':=by
 rw [aL]
 unfold bindK seqK
 cases runCS c n a st with
 | none=>rfl
 | some p=>obtain ⟨e,s⟩:=p;cases e<;>rfl
theorem cO (id:Nat) (a:IRC):runCS c n (.block id a) st=bindK (runCS c n a st) (blkK id):=by
 rw [cK]
 unfold bindK blkK
 cases runCS c n a st with
 | none=>rfl
 | some p=>obtain ⟨e,s⟩:=p;cases e<;>rfl
end
def condK (v:LV) (a b:Option (Ex × St)):Option (Ex × St):=match v with
 | .p (.s (.bool t))=>if t then a else b
 | _=>none
@[congr] theorem condK_congr {v v':LV} {a b:Option (Ex × St)} (h:v=v'):condK v a b=condK v' a b:=by rw [h]
theorem dK (a b:Option (Ex × St)):condK (.p (.s (.bool true))) a b=a:=rfl
theorem c6 (a b:Option (Ex × St)):condK (.p (.s (.bool false))) a b=b:=rfl
def iteK {α:Type} (t:Bool) (a b:α):α:=if t then a else b
@[congr] theorem iteK_congr {α:Type} {t t':Bool} {a a' b b':α} (h:t=t') (ha:a=a') (hb:b=b'):iteK t a b=iteK t' a' b':=by rw [h,ha,hb]
theorem cT {α:Type} (a b:α):iteK true a b=a:=rfl
theorem cy {α:Type} (a b:α):iteK false a b=b:=rfl
theorem kC (t a b:Bool) (u:Upd) (n:List (Option Obj)):iteK t (some ((.p (.s (.bool a)):LV),u,n)) (some (.p (.s (.bool b)),u,n))=some (.p (.s (.bool (bif t then a else b))),u,n):=by cases t<;>rfl
theorem eX {α:Type} (t:Bool) (a:α):iteK t a a=a:=by cases t<;>rfl
theorem dH {α β:Type} (t:Bool) (a b:Option α) (f:α→Option β):bindK (iteK t a b) f=iteK t (bindK a f) (bindK b f):=by cases t<;>rfl
theorem dJ (t:Bool) (a b:Option (Ex × St)):condK (.p (.s (.bool t))) a b=iteK t a b:=rfl
theorem ew (c:Ctx) (n:Nat) (st:St) (x:Opd) (a b:IRC):runCS c n (.cond x a b) st=condK (opd c st.env x) (runCS c n a st) (runCS c n b st):=by rw [fN];rfl
theorem runF_I (O:Oracle) (G:Nat→Option (List PV)) (n:Nat) (f:IRF) (args:List LV) (H:Heap) (nx:Nat):runF O G n f args H nx=
  if args.length=f.params.length then bindK (runCS ⟨O,G,H,nx⟩ n f.body ⟨f.params.zip args,⟨[],[]⟩⟩) (finK f H nx) else none:=by
 rw [runF_S]
 unfold bindK finK
 split
 ·cases runCS ⟨O,G,H,nx⟩ n f.body ⟨f.params.zip args,⟨[],[]⟩⟩ with
  | none=>rfl
  | some p=>obtain ⟨e,s⟩:=p;cases e<;>rfl
 ·rfl
def hdC:IRC→IRC
 | .seq a _=>a
 | a=>a
def tlC:IRC→IRC
 | .seq _ b=>b
 | a=>a
theorem qJ {c:Ctx} {N:Nat} {B:IRC} (hB:B = .seq (hdC B) (tlC B)) {T:Nat→St} {n:Nat} {r:Ex × St} {s0:St} (h0:runCS c N (hdC B) s0=some (.normal,T 0))
  (hs : ∀ j,j<n→runCS c N (.seq (tlC B) (hdC B)) (T j)=some (.normal,T (j+1))) (he:runCS c N (tlC B) (T n)=some r) (hr:r.1 ≠ .normal) {m:Nat} (hm:n<m):iter (runCS c N B) m s0=some r:=by
 have f : ∀ s t,runCS c N (hdC B) s=some (.normal,t)→runCS c N B s=runCS c N (tlC B) t:=fun s t h=>by
  conv=>lhs;rw [hB]
  rw [aL,h]
 have key : ∀ (d j m:Nat) (s:St),j+d=n→d<m→runCS c N (hdC B) s=some (.normal,T j)→iter (runCS c N B) m s=some r:=by
  intro d
  induction d with
  | zero=>
   intro j m s hj hm h
   obtain ⟨m,rfl⟩ : ∃ q,m=q+1:=⟨m-1,by omega⟩
   obtain rfl:j=n:=by omega
   simp only [iter,f s _ h,he]
   obtain ⟨e,s⟩:=r
   cases e<;>first|rfl|exact absurd rfl hr
  | succ d ih=>
   intro j m s hj hm h
   obtain ⟨m,rfl⟩ : ∃ q,m=q+1:=⟨m-1,by omega⟩
   have e:=hs j (by omega)
   rw [aL] at e
   cases q:runCS c N (tlC B) (T j) with
   | none=>rw [q] at e;cases e
   | some y=>
    obtain ⟨x,s'⟩:=y
    rw [q] at e
    cases x with
    | normal=>
     simp only [iter,f s _ h,q]
     exact ih (j+1) m s' (by omega) (by omega) e
    | exit i=>simp at e
    | ret=>simp at e
    | goto i=>simp at e
 exact key n 0 m s0 (by omega) hm h0
def stC:Nat→IRC→IRC
 | 0,.seq a _=>a
 | n+1,.seq _ b=>stC n b
 | _,a=>a
def rsC:Nat→IRC→IRC
 | 0,a=>a
 | n+1,.seq _ b=>rsC n b
 | _,a=>a
theorem bn {c:Ctx} {n:Nat} {a r:IRC} {st st':St} (h:runCS c n a st=some (.normal,st')):runCS c n (.seq a r) st=runCS c n r st':=by
 rw [aL,h]
theorem dc {c:Ctx} {n:Nat} {a b r:IRC} {st st':St} (h:runCS c n (.seq a b) st=some (.normal,st')):runCS c n (.seq a (.seq b r)) st=runCS c n r st':=by
 rw [aL] at h ⊢
 cases q:runCS c n a st with
 | none=>rw [q] at h;cases h
 | some y=>
  obtain ⟨e,s⟩:=y
  rw [q] at h
  cases e with
  | normal=>exact bn h
  | exit i=>simp at h
  | ret=>simp at h
  | goto i=>simp at h
theorem eA {c:Ctx} {n:Nat} {a b d r:IRC} {st st':St} (h:runCS c n (.seq a (.seq b d)) st=some (.normal,st')):runCS c n (.seq a (.seq b (.seq d r))) st=runCS c n r st':=by
 rw [aL] at h ⊢
 cases q:runCS c n a st with
 | none=>rw [q] at h;cases h
 | some y=>
  obtain ⟨e,s⟩:=y
  rw [q] at h
  cases e with
  | normal=>exact dc h
  | exit i=>simp at h
  | ret=>simp at h
  | goto i=>simp at h
theorem mP {c:Ctx} {n:Nat} {a b r:IRC} {st:St} : runCS c n (.seq (.seq a b) r) st=runCS c n (.seq a (.seq b r)) st:=by
 rw [aL,aL,aL]
 cases runCS c n a st with
 | none=>rfl
 | some y=>
  obtain ⟨e,s⟩:=y
  cases e with
  | normal=>simp only [];rw [aL]
  | _=>rfl
end Go.Sx
end

section
namespace Go.Proofs.YtppeggedcaabkaaGreatDoor
open Go Go.Sx
theorem eK (k:IntKind) (x y:Int):binI .eql k x y=some (.bool (decide (x=y))):=by rw [iY,show (x==y)=decide (x=y) from by rw [Bool.eq_iff_iff];simp]
theorem eL (k:IntKind) (x y:Int):binI .neq k x y=some (.bool (!decide (x=y))):=by rw [iZ,bne,show (x==y)=decide (x=y) from by rw [Bool.eq_iff_iff];simp]
theorem ssI:((((((((type_of% @Go.Sx.runF_I)∧((type_of% @dW)∧(type_of% @fP)))∧((type_of% @ey)∧((type_of% @jA)∧(type_of% @ew))))∧(((type_of% @cO)∧((type_of% @cA)∧(type_of% @dU)))∧(((type_of% @da)∧(type_of% @dV))∧((type_of% @db)∧(type_of% @dX)))))∧((((type_of% @Go.Sx.tidyR.eq_1)∧((type_of% @fh)∧(type_of% @cn)))∧((type_of% @cD)∧((type_of% @bQ)∧(type_of% @cr))))∧(((type_of% @Go.Sx.wants.eq_1)∧((type_of% @Go.Sx.wants.eq_2)∧(type_of% @Go.Sx.evOp.eq_def)))∧(((type_of% @Go.Sx.opd.eq_1)∧(type_of% @Go.Sx.opd.eq_2))∧((type_of% @Go.Sx.opd.eq_3)∧(type_of% @Go.Sx.get.eq_1))))))∧(((((type_of% @Go.Sx.get.eq_2)∧((type_of% @Go.Sx.putD.eq_1)∧(type_of% @Go.Sx.putD.eq_2)))∧((type_of% @Go.Sx.binL.eq_1)∧((type_of% @Go.Sx.binL.eq_2)∧(type_of% @Go.Sx.isSh.eq_1))))∧(((type_of% @Go.Sx.isSh.eq_2)∧((type_of% @Go.Sx.isSh.eq_3)∧(type_of% @dl)))∧(((type_of% @du)∧(type_of% @dt))∧((type_of% @eK)∧(type_of% @eL)))))∧((((type_of% @dq)∧((type_of% @dp)∧(type_of% @dn)))∧((type_of% @dm)∧((type_of% @Go.Sx.eqL.eq_1)∧(type_of% @Go.Sx.eqL.eq_2))))∧(((type_of% @Go.Sx.eqL.eq_3)∧((type_of% @Go.Sx.eqL.eq_4)∧(type_of% @Go.Sx.eqL.eq_5)))∧(((type_of% @Go.Sx.eqL.eq_6)∧(type_of% @Go.Sx.eqL.eq_7))∧((type_of% @Go.Sx.eqL.eq_8)∧(type_of% @Go.Sx.eqL.eq_9)))))))∧((((((type_of% @Go.Sx.eqL.eq_10)∧((type_of% @Go.Sx.eqL.eq_11)∧(type_of% @Go.Sx.eqL.eq_12)))∧((type_of% @Go.Sx.eqL.eq_13)∧((type_of% @Go.Sx.eqL.eq_14)∧(type_of% @fq))))∧(((type_of% @fp)∧((type_of% @Go.Sx.resVs.eq_1)∧(type_of% @Go.Sx.resVs.eq_2)))∧(((type_of% @Go.Sx.resV.eq_1)∧(type_of% @Go.Sx.resV.eq_2))∧((type_of% @Go.Sx.oneL.eq_1)∧(type_of% @Go.Sx.oneL.eq_2)))))∧((((type_of% @Go.Sx.frz.eq_1)∧((type_of% @Go.Sx.frz.eq_2)∧(type_of% @Go.Sx.frz.go.eq_1)))∧((type_of% @Go.Sx.frz.go.eq_2)∧((type_of% @frzL.eq_1)∧(type_of% @frzL.eq_2))))∧(((type_of% @frzL.eq_3)∧((type_of% @frzL.eq_4)∧(type_of% @frzL.eq_5)))∧(((type_of% @frzL.eq_6)∧(type_of% @frzL.go.eq_1))∧((type_of% @frzL.go.eq_2)∧(type_of% @Go.Sx.ids.eq_1))))))∧(((((type_of% @Go.Sx.ids.eq_2)∧((type_of% @Go.Sx.ids.eq_3)∧(type_of% @Go.Sx.ids.eq_4)))∧((type_of% @Go.Sx.ids.eq_5)∧((type_of% @Go.Sx.ids.eq_6)∧(type_of% @Go.Sx.ids.idsL.eq_1))))∧(((type_of% @Go.Sx.ids.idsL.eq_2)∧((type_of% @Go.Sx.updIds.eq_1)∧(type_of% @Go.Sx.updIds.eq_2)))∧(((type_of% @Go.Sx.updIds.eq_3)∧(type_of% @Go.Sx.reach.eq_1))∧((type_of% @Go.Sx.reach.eq_2)∧(type_of% @Go.Sx.reach.eq_3)))))∧((((type_of% @Go.Sx.ren.eq_1)∧((type_of% @Go.Sx.ren.eq_2)∧(type_of% @Go.Sx.ren.eq_3)))∧((type_of% @Go.Sx.ren.eq_4)∧((type_of% @Go.Sx.ren.eq_5)∧(type_of% @Go.Sx.ren.eq_6))))∧(((type_of% @Go.Sx.ren.eq_7)∧((type_of% @Go.Sx.ren.go.eq_1)∧(type_of% @Go.Sx.ren.go.eq_2)))∧(((type_of% @Go.Sx.renU.eq_1)∧(type_of% @Go.Sx.renU.eq_2))∧((type_of% @Go.Sx.renN.eq_1)∧(type_of% @Go.Sx.renN.eq_2))))))))∧(((((((type_of% @Go.Sx.renO.eq_1)∧((type_of% @Go.Sx.renO.eq_2)∧(type_of% @Go.Sx.renO.eq_3)))∧((type_of% @Go.Sx.renId.eq_1)∧((type_of% @Go.Sx.fillP.eq_1)∧(type_of% @Go.Sx.fillP.eq_2))))∧(((type_of% @Go.Sx.mkAgg.eq_1)∧((type_of% @Go.Sx.allP.eq_1)∧(type_of% @Go.Sx.allP.eq_2)))∧(((type_of% @Go.Sx.allP.eq_3)∧(type_of% @Go.Sx.LV.cells.eq_1))∧((type_of% @Go.Sx.LV.cells.eq_2)∧(type_of% @Go.Sx.LV.cells.eq_3)))))∧((((type_of% @Go.Sx.LV.cells.eq_4)∧((type_of% @Go.Sx.LV.cells.eq_5)∧(type_of% @Go.Sx.LV.cells.eq_6)))∧((type_of% @Go.Sx.rd.eq_1)∧((type_of% @Go.Sx.findU.eq_1)∧(type_of% @Go.Sx.findU.eq_2))))∧(((type_of% @slCells.eq_1)∧((type_of% @slCells.eq_2)∧(type_of% @slCells.eq_3)))∧(((type_of% @slCells.eq_4)∧(type_of% @sliceO.eq_1))∧((type_of% @sliceO.eq_2)∧(type_of% @sliceO.eq_3))))))∧(((((type_of% @Go.Value.oneCell'.eq_1)∧((type_of% @Go.Value.oneCell'.eq_2)∧(type_of% @Go.Value.oneCell'.eq_3)))∧((type_of% @Go.Sx.mmL.eq_1)∧((type_of% @Go.Sx.mmL.eq_2)∧(type_of% @Go.Sx.mm2.eq_1))))∧(((type_of% @Go.Sx.gslot.eq_1)∧((type_of% @Go.Sx.gslot.eq_2)∧(type_of% @IROp.slots.eq_1)))∧(((type_of% @IROp.slots.eq_2)∧(type_of% @IROp.slots.eq_3))∧((type_of% @IROp.slots.eq_4)∧(type_of% @IROp.slots.eq_5)))))∧((((type_of% @IROp.slots.eq_6)∧((type_of% @IROp.slots.eq_7)∧(type_of% @IROp.slots.eq_8)))∧((type_of% @IROp.slots.eq_9)∧((type_of% @IROp.slots.eq_10)∧(type_of% @IROp.slots.eq_11))))∧(((type_of% @IROp.slots.eq_12)∧((type_of% @IROp.slots.eq_13)∧(type_of% @IROp.slots.eq_14)))∧(((type_of% @IROp.slots.eq_15)∧(type_of% @IROp.slots.eq_16))∧((type_of% @IROp.slots.eq_17)∧(type_of% @IROp.slots.eq_18)))))))∧((((((type_of% @IROp.slots.eq_19)∧((type_of% @IROp.slots.eq_20)∧(type_of% @IROp.slots.eq_21)))∧((type_of% @IROp.slots.eq_22)∧((type_of% @IROp.slots.eq_23)∧(type_of% @IROp.slots.eq_24))))∧(((type_of% @IROp.slots.eq_25)∧((type_of% @IROp.slots.eq_26)∧(type_of% @IROp.slots.eq_27)))∧(((type_of% @IROp.slots.eq_28)∧(type_of% @IROp.slots.eq_29))∧((type_of% @IROp.slots.eq_30)∧(type_of% @IROp.slots.eq_31)))))∧((((type_of% @IROp.slots.eq_32)∧((type_of% @IROp.slots.eq_33)∧(type_of% @IROp.slots.eq_34)))∧((type_of% @IROp.slots.eq_35)∧((type_of% @IROp.slots.eq_36)∧(type_of% @IROp.slots.eq_37))))∧(((type_of% @IROp.slots.eq_38)∧((type_of% @Go.Sx.Opd.slots.eq_1)∧(type_of% @Go.Sx.Opd.slots.eq_2)))∧(((type_of% @Go.Sx.indepD.eq_1)∧(type_of% @Go.Sx.quickD.eq_1))∧((type_of% @Go.Sx.quickD.eq_2)∧(type_of% @Go.Sx.indepR.eq_1))))))∧(((((type_of% @Go.Sx.indepR.eq_2)∧((type_of% @Go.Sx.indepR.eq_3)∧(type_of% @Go.Sx.pairsD.eq_1)))∧((type_of% @Go.Sx.pairsD.eq_2)∧((type_of% @Go.Sx.apartD.eq_1)∧(type_of% @Nat.testBit.eq_1))))∧(((type_of% @Go.Sx.Obj.ids.eq_1)∧((type_of% @Go.Sx.Obj.ids.eq_2)∧(type_of% @Go.Sx.natL.eq_1)))∧(((type_of% @Go.Sx.optMap.eq_1)∧(type_of% @Go.Sx.optMap.eq_2))∧((type_of% @Go.undef.eq_1)∧(type_of% @ltF)))))∧((((type_of% @dL)∧((type_of% @c7)∧(type_of% @o3)))∧(((type_of% @oZ)∧(type_of% @oY))∧((type_of% @oX)∧(type_of% @dS))))∧(((type_of% @c9)∧((type_of% @gw)∧(type_of% @fe)))∧(((type_of% @gx)∧(type_of% @uN))∧((type_of% @kC)∧(type_of% @eX))))))))):=
 ⟨⟨⟨⟨⟨⟨⟨@Go.Sx.runF_I,⟨@dW,@fP⟩⟩,⟨@ey,⟨@jA,@ew⟩⟩⟩,⟨⟨@cO,⟨@cA,@dU⟩⟩,⟨⟨@da,@dV⟩,⟨@db,@dX⟩⟩⟩⟩,⟨⟨⟨@Go.Sx.tidyR.eq_1,⟨@fh,@cn⟩⟩,⟨@cD,⟨@bQ,@cr⟩⟩⟩,⟨⟨@Go.Sx.wants.eq_1,⟨@Go.Sx.wants.eq_2,@Go.Sx.evOp.eq_def⟩⟩,⟨⟨@Go.Sx.opd.eq_1,@Go.Sx.opd.eq_2⟩,⟨@Go.Sx.opd.eq_3,@Go.Sx.get.eq_1⟩⟩⟩⟩⟩,⟨⟨⟨⟨@Go.Sx.get.eq_2,⟨@Go.Sx.putD.eq_1,@Go.Sx.putD.eq_2⟩⟩,⟨@Go.Sx.binL.eq_1,⟨@Go.Sx.binL.eq_2,@Go.Sx.isSh.eq_1⟩⟩⟩,⟨⟨@Go.Sx.isSh.eq_2,⟨@Go.Sx.isSh.eq_3,@dl⟩⟩,⟨⟨@du,@dt⟩,⟨@eK,@eL⟩⟩⟩⟩,⟨⟨⟨@dq,⟨@dp,@dn⟩⟩,⟨@dm,⟨@Go.Sx.eqL.eq_1,@Go.Sx.eqL.eq_2⟩⟩⟩,⟨⟨@Go.Sx.eqL.eq_3,⟨@Go.Sx.eqL.eq_4,@Go.Sx.eqL.eq_5⟩⟩,⟨⟨@Go.Sx.eqL.eq_6,@Go.Sx.eqL.eq_7⟩,⟨@Go.Sx.eqL.eq_8,@Go.Sx.eqL.eq_9⟩⟩⟩⟩⟩⟩,⟨⟨⟨⟨⟨@Go.Sx.eqL.eq_10,⟨@Go.Sx.eqL.eq_11,@Go.Sx.eqL.eq_12⟩⟩,⟨@Go.Sx.eqL.eq_13,⟨@Go.Sx.eqL.eq_14,@fq⟩⟩⟩,⟨⟨@fp,⟨@Go.Sx.resVs.eq_1,@Go.Sx.resVs.eq_2⟩⟩,⟨⟨@Go.Sx.resV.eq_1,@Go.Sx.resV.eq_2⟩,⟨@Go.Sx.oneL.eq_1,@Go.Sx.oneL.eq_2⟩⟩⟩⟩,⟨⟨⟨@Go.Sx.frz.eq_1,⟨@Go.Sx.frz.eq_2,@Go.Sx.frz.go.eq_1⟩⟩,⟨@Go.Sx.frz.go.eq_2,⟨@frzL.eq_1,@frzL.eq_2⟩⟩⟩,⟨⟨@frzL.eq_3,⟨@frzL.eq_4,@frzL.eq_5⟩⟩,⟨⟨@frzL.eq_6,@frzL.go.eq_1⟩,⟨@frzL.go.eq_2,@Go.Sx.ids.eq_1⟩⟩⟩⟩⟩,⟨⟨⟨⟨@Go.Sx.ids.eq_2,⟨@Go.Sx.ids.eq_3,@Go.Sx.ids.eq_4⟩⟩,⟨@Go.Sx.ids.eq_5,⟨@Go.Sx.ids.eq_6,@Go.Sx.ids.idsL.eq_1⟩⟩⟩,⟨⟨@Go.Sx.ids.idsL.eq_2,⟨@Go.Sx.updIds.eq_1,@Go.Sx.updIds.eq_2⟩⟩,⟨⟨@Go.Sx.updIds.eq_3,@Go.Sx.reach.eq_1⟩,⟨@Go.Sx.reach.eq_2,@Go.Sx.reach.eq_3⟩⟩⟩⟩,⟨⟨⟨@Go.Sx.ren.eq_1,⟨@Go.Sx.ren.eq_2,@Go.Sx.ren.eq_3⟩⟩,⟨@Go.Sx.ren.eq_4,⟨@Go.Sx.ren.eq_5,@Go.Sx.ren.eq_6⟩⟩⟩,⟨⟨@Go.Sx.ren.eq_7,⟨@Go.Sx.ren.go.eq_1,@Go.Sx.ren.go.eq_2⟩⟩,⟨⟨@Go.Sx.renU.eq_1,@Go.Sx.renU.eq_2⟩,⟨@Go.Sx.renN.eq_1,@Go.Sx.renN.eq_2⟩⟩⟩⟩⟩⟩⟩,⟨⟨⟨⟨⟨⟨@Go.Sx.renO.eq_1,⟨@Go.Sx.renO.eq_2,@Go.Sx.renO.eq_3⟩⟩,⟨@Go.Sx.renId.eq_1,⟨@Go.Sx.fillP.eq_1,@Go.Sx.fillP.eq_2⟩⟩⟩,⟨⟨@Go.Sx.mkAgg.eq_1,⟨@Go.Sx.allP.eq_1,@Go.Sx.allP.eq_2⟩⟩,⟨⟨@Go.Sx.allP.eq_3,@Go.Sx.LV.cells.eq_1⟩,⟨@Go.Sx.LV.cells.eq_2,@Go.Sx.LV.cells.eq_3⟩⟩⟩⟩,⟨⟨⟨@Go.Sx.LV.cells.eq_4,⟨@Go.Sx.LV.cells.eq_5,@Go.Sx.LV.cells.eq_6⟩⟩,⟨@Go.Sx.rd.eq_1,⟨@Go.Sx.findU.eq_1,@Go.Sx.findU.eq_2⟩⟩⟩,⟨⟨@slCells.eq_1,⟨@slCells.eq_2,@slCells.eq_3⟩⟩,⟨⟨@slCells.eq_4,@sliceO.eq_1⟩,⟨@sliceO.eq_2,@sliceO.eq_3⟩⟩⟩⟩⟩,⟨⟨⟨⟨@Go.Value.oneCell'.eq_1,⟨@Go.Value.oneCell'.eq_2,@Go.Value.oneCell'.eq_3⟩⟩,⟨@Go.Sx.mmL.eq_1,⟨@Go.Sx.mmL.eq_2,@Go.Sx.mm2.eq_1⟩⟩⟩,⟨⟨@Go.Sx.gslot.eq_1,⟨@Go.Sx.gslot.eq_2,@IROp.slots.eq_1⟩⟩,⟨⟨@IROp.slots.eq_2,@IROp.slots.eq_3⟩,⟨@IROp.slots.eq_4,@IROp.slots.eq_5⟩⟩⟩⟩,⟨⟨⟨@IROp.slots.eq_6,⟨@IROp.slots.eq_7,@IROp.slots.eq_8⟩⟩,⟨@IROp.slots.eq_9,⟨@IROp.slots.eq_10,@IROp.slots.eq_11⟩⟩⟩,⟨⟨@IROp.slots.eq_12,⟨@IROp.slots.eq_13,@IROp.slots.eq_14⟩⟩,⟨⟨@IROp.slots.eq_15,@IROp.slots.eq_16⟩,⟨@IROp.slots.eq_17,@IROp.slots.eq_18⟩⟩⟩⟩⟩⟩,⟨⟨⟨⟨⟨@IROp.slots.eq_19,⟨@IROp.slots.eq_20,@IROp.slots.eq_21⟩⟩,⟨@IROp.slots.eq_22,⟨@IROp.slots.eq_23,@IROp.slots.eq_24⟩⟩⟩,⟨⟨@IROp.slots.eq_25,⟨@IROp.slots.eq_26,@IROp.slots.eq_27⟩⟩,⟨⟨@IROp.slots.eq_28,@IROp.slots.eq_29⟩,⟨@IROp.slots.eq_30,@IROp.slots.eq_31⟩⟩⟩⟩,⟨⟨⟨@IROp.slots.eq_32,⟨@IROp.slots.eq_33,@IROp.slots.eq_34⟩⟩,⟨@IROp.slots.eq_35,⟨@IROp.slots.eq_36,@IROp.slots.eq_37⟩⟩⟩,⟨⟨@IROp.slots.eq_38,⟨@Go.Sx.Opd.slots.eq_1,@Go.Sx.Opd.slots.eq_2⟩⟩,⟨⟨@Go.Sx.indepD.eq_1,@Go.Sx.quickD.eq_1⟩,⟨@Go.Sx.quickD.eq_2,@Go.Sx.indepR.eq_1⟩⟩⟩⟩⟩,⟨⟨⟨⟨@Go.Sx.indepR.eq_2,⟨@Go.Sx.indepR.eq_3,@Go.Sx.pairsD.eq_1⟩⟩,⟨@Go.Sx.pairsD.eq_2,⟨@Go.Sx.apartD.eq_1,@Nat.testBit.eq_1⟩⟩⟩,⟨⟨@Go.Sx.Obj.ids.eq_1,⟨@Go.Sx.Obj.ids.eq_2,@Go.Sx.natL.eq_1⟩⟩,⟨⟨@Go.Sx.optMap.eq_1,@Go.Sx.optMap.eq_2⟩,⟨@Go.undef.eq_1,@ltF⟩⟩⟩⟩,⟨⟨⟨@dL,⟨@c7,@o3⟩⟩,⟨⟨@oZ,@oY⟩,⟨@oX,@dS⟩⟩⟩,⟨⟨@c9,⟨@gw,@fe⟩⟩,⟨⟨@gx,@uN⟩,⟨@kC,@eX⟩⟩⟩⟩⟩⟩⟩⟩
theorem ssJ:((((((type_of% @bj)∧(type_of% @dI))∧((type_of% @eN)∧((type_of% @fv)∧(type_of% @ec))))∧(((type_of% @fu)∧((type_of% @ft)∧(type_of% @bc)))∧((type_of% @fm)∧((type_of% @gD)∧(type_of% @fo)))))∧((((type_of% @c5)∧((type_of% @eO)∧(type_of% @fZ)))∧((type_of% @eP)∧((type_of% @ej)∧(type_of% @jh))))∧(((type_of% @gp)∧((type_of% @eY)∧(type_of% @dK)))∧((type_of% @c6)∧((type_of% @dJ)∧(type_of% @d7))))))∧(((((type_of% @d8)∧(type_of% @d9))∧((type_of% @df)∧((type_of% @ea)∧(type_of% @de))))∧(((type_of% @d4)∧((type_of% @dd)∧(type_of% @iP)))∧((type_of% @iQ)∧((type_of% @gN)∧(type_of% @gO)))))∧((((type_of% @iR)∧((type_of% @iS)∧(type_of% @iT)))∧((type_of% @iU)∧((type_of% @dZ)∧(type_of% @d5))))∧(((type_of% @d6)∧((type_of% @eR)∧(type_of% @dR)))∧((type_of% @cT)∧((type_of% @cy)∧(type_of% @dH))))))):=
 ⟨⟨⟨⟨⟨@bj,@dI⟩,⟨@eN,⟨@fv,@ec⟩⟩⟩,⟨⟨@fu,⟨@ft,@bc⟩⟩,⟨@fm,⟨@gD,@fo⟩⟩⟩⟩,⟨⟨⟨@c5,⟨@eO,@fZ⟩⟩,⟨@eP,⟨@ej,@jh⟩⟩⟩,⟨⟨@gp,⟨@eY,@dK⟩⟩,⟨@c6,⟨@dJ,@d7⟩⟩⟩⟩⟩,⟨⟨⟨⟨@d8,@d9⟩,⟨@df,⟨@ea,@de⟩⟩⟩,⟨⟨@d4,⟨@dd,@iP⟩⟩,⟨@iQ,⟨@gN,@gO⟩⟩⟩⟩,⟨⟨⟨@iR,⟨@iS,@iT⟩⟩,⟨@iU,⟨@dZ,@d5⟩⟩⟩,⟨⟨@d6,⟨@eR,@dR⟩⟩,⟨@cT,⟨@cy,@dH⟩⟩⟩⟩⟩⟩
end Go.Proofs.YtppeggedcaabkaaGreatDoor
end

section
namespace Go.Proofs.YtppeggedcaabkaaGreatDoor
open Go Go.Sx
theorem bI {f:St→Option (Ex × St)} {n:Nat} {st st':St} (h:f st=some (.normal,st')):iter f (n+1) st=iter f n st':=by simp only [iter,h]
theorem bw {f:St→Option (Ex × St)} {n:Nat} {st st':St} {e:Ex} (h:f st=some (e,st')) (he:e ≠ .normal):iter f (n+1) st=some (e,st'):=by
 simp only [iter,h]
 cases e<;>first|rfl|exact absurd rfl he
def byt (l:List UInt8):List LV:=l.map fun x=>.int .u8 x.toNat
def bytP (l:List UInt8):List PV:=l.map fun x=>.s (.int .u8 x.toNat)
theorem bu:byt []=[]:=rfl
theorem aW (x:UInt8) (l:List UInt8):byt (x::l) = .int .u8 x.toNat::byt l:=rfl
theorem aP (l m:List UInt8):byt (l++m)=byt l++byt m:=by simp [byt]
theorem ak (l:List UInt8):(byt l).length=l.length:=by simp [byt]
theorem aQ (l:List UInt8):(bytP l).map LV.p=byt l:=by simp [byt,bytP]
theorem aa (l:List UInt8):(bytP l).length=l.length:=by simp [bytP]
theorem mL {α:Type} (f:α→α) : ∀ (n:Nat) (a:α),Nat.repeat f (n+1) a=Nat.repeat f n (f a)
 | 0,_=>rfl
 | n+1,a=>congrArg f (mL f n a)
theorem aE (l:List UInt8):ids.idsL (byt l)=[]:=by
 induction l with
 | nil=>rfl
 | cons x l ih=>rw [aW,ids.idsL,ih];rfl
theorem aD (l m:List LV):ids.idsL (l++m)=ids.idsL l++ids.idsL m:=by
 induction l with
 | nil=>rfl
 | cons x l ih=>rw [List.cons_append,ids.idsL,ids.idsL,ih,List.append_assoc]
theorem aG (nx:Nat) (s:List Nat) (l:List UInt8):ren.go nx s (byt l)=some (byt l):=by
 induction l with
 | nil=>rfl
 | cons x l ih=>rw [aW,ren.go,ih];rfl
theorem av (l:List UInt8):allP (byt l)=some (bytP l):=by
 induction l with
 | nil=>rfl
 | cons x l ih=>rw [aW,allP,ih];rfl
theorem aI (nx:Nat) (s:List Nat) (l:List UInt8) (m:List LV):ren.go nx s (byt l++m)=match ren.go nx s m with
  | some q=>some (byt l++q)
  | none=>none:=by
 induction l with
 | nil=>rw [bu,List.nil_append];cases ren.go nx s m<;>rfl
 | cons x l ih=>rw [aW,List.cons_append,ren.go,ih];cases ren.go nx s m<;>rfl
theorem aA (l:List UInt8) (m:List LV):allP (byt l++m)=match allP m with
  | some q=>some (bytP l++q)
  | none=>none:=by
 induction l with
 | nil=>rw [bu,List.nil_append];cases allP m<;>rfl
 | cons x l ih=>rw [aW,List.cons_append,allP,ih];cases allP m<;>rfl
theorem au (l:List UInt8):List.take l.length (byt l)=byt l:=by
 rw [←ak,List.take_length]
def aft (nx:Nat) (h:Hp) (u:Upd) (n:List (Ob)):Hp := { setAll nx h u with new:=(setAll nx h u).new++n }
theorem ax (nx:Nat) (h:Hp) (u:Upd):aft nx h u []=setAll nx h u:=by simp [aft]
theorem af (nx:Nat) (h:Hp):setAll nx h []=h:=rfl
theorem bB (nx:Nat) (h:Hp) (u:Upd) (o:Go.Sx.Obj):aft nx h u [some o]=push (setAll nx h u) o:=rfl
theorem ay (c:Ctx) (dr:Bool) (h:Hp) (f:FuncId) (args:List LV):callO c dr h f args=
 if dr then
  match reach (Go.Sx.look c.H c.nx h) 1000 (ids.idsL args) [] with
  | some S=>
   if (ids.idsL args++S.flatMap (fun id=>match Go.Sx.look c.H c.nx h id with
    | some o=>o.ids
    | none=>[])).all (fun id=>decide (id<c.nx+h.new.length)) then
   match c.O f args (fun id=>if S.contains id then Go.Sx.look c.H c.nx h id else none) (c.nx+h.new.length) with
   | some (r,u,n)=>some ⟨r,aft c.nx h u n,S,!u.isEmpty⟩
   | none=>none
   else none
  | none=>none
 else
  match c.O f args (Go.Sx.look c.H c.nx h) (c.nx+h.new.length) with
  | some (r,u,n)=>some ⟨r,aft c.nx h u n,[],!u.isEmpty⟩
  | none=>none:=rfl
theorem aR (x:Hp) (o:Go.Sx.Obj):(push x o).new.length=x.new.length+1:=by simp [push]
theorem tw (x:Hp) (o:Go.Sx.Obj):(push x o).upd=x.upd:=rfl
theorem cX (nx:Nat) (x:Hp) (id:Nat) (o:Ob) (h : ¬id<nx):(Go.Sx.setObj nx x id o).upd=x.upd:=by simp [Go.Sx.setObj,h]
theorem bv {H:Heap} {nx:Nat} {h:Hp} {id:Nat} {o:Ob} (hid:id<nx+h.new.length) (j:Nat):Go.Sx.look H nx (Go.Sx.setObj nx h id o) j=if j=id then o else Go.Sx.look H nx h j:=bA (by omega) j
end Go.Proofs.YtppeggedcaabkaaGreatDoor
end

section
namespace Go.Proofs.YtppeggedcaabkaaGreatDoor
open Go
def stp (r:BitVec 32):BitVec 32:=if r &&& 1#32=1#32 then (r >>> 1) ^^^ 3988292384#32 else r >>> 1
def wide (b:UInt8):BitVec 32:=BitVec.ofNat 32 b.toNat
def crcB (r:BitVec 32) (b:UInt8):BitVec 32:=Nat.repeat stp 8 (r ^^^ wide b)
def crcL (r:BitVec 32) (l:List UInt8):BitVec 32:=l.foldl crcB r
def crc (l:List UInt8):BitVec 32 := ~~~ (crcL 4294967295#32 l)
theorem pw (r:BitVec 32):(r &&& 1#32=1#32)↔r.getLsbD 0=true:=by
 rw [BitVec.and_one_eq_setWidth_ofBool_getLsbD]
 cases r.getLsbD 0<;>decide
theorem k7 (r:BitVec 32) (i:Nat) (hi:i<32):(stp r).getLsbD i=(r.getLsbD (1+i) ^^ (r.getLsbD 0&&(3988292384#32).getLsbD i)):=by
 unfold stp
 by_cases h:r.getLsbD 0=true
 ·rw [if_pos ((pw r).2 h),BitVec.getLsbD_xor,BitVec.getLsbD_ushiftRight,h,Bool.true_and]
 ·rw [if_neg (fun e=>h ((pw r).1 e)),BitVec.getLsbD_ushiftRight]
  have h0:r.getLsbD 0=false:=by simpa using h
  rw [h0];simp
theorem vy {r s:BitVec 32} (h:stp r=stp s):r=s:=by
 have top : ∀ x:BitVec 32,(stp x).getLsbD 31=x.getLsbD 0:=fun x=>by
  rw [k7 x 31 (by omega),BitVec.getLsbD_of_ge x (1+31) (by omega)]
  have:(3988292384#32).getLsbD 31=true:=by decide
  rw [this];simp
 have h0:r.getLsbD 0=s.getLsbD 0:=by rw [←top r,←top s,h]
 refine BitVec.eq_of_getLsbD_eq fun i hi => ?_
 cases i with
 | zero=>exact h0
 | succ i=>
  have e1:=k7 r i (by omega)
  have e2:=k7 s i (by omega)
  rw [h,e2,h0,Nat.add_comm] at e1
  have:=Bool.xor_right_inj.1 ((Bool.xor_comm _ _).trans (e1.trans (Bool.xor_comm _ _)))
  rw [this]
theorem kQ : ∀ (n:Nat) {r s:BitVec 32},Nat.repeat stp n r=Nat.repeat stp n s→r=s
 | 0,_,_,h=>h
 | n+1,_,_,h=>kQ n (vy h)
theorem rR {r s:BitVec 32} {b:UInt8} (h:crcB r b=crcB s b):r=s:=by
 have:=kQ 8 h
 exact (BitVec.xor_left_inj _).1 this
theorem qw {r:BitVec 32} {b c:UInt8} (h:crcB r b=crcB r c):b=c:=by
 have:=(BitVec.xor_right_inj _).1 (kQ 8 h)
 have e:=congrArg BitVec.toNat this
 unfold wide at e
 rw [BitVec.toNat_ofNat,BitVec.toNat_ofNat] at e
 have hb:=b.toNat_lt
 have hc:=c.toNat_lt
 exact UInt8.toNat_inj.1 (by omega)
theorem lA : ∀ (l:List UInt8) {r s:BitVec 32},crcL r l=crcL s l→r=s
 | [],_,_,h=>h
 | b::l,_,_,h=>rR (lA l h)
theorem nk (l m:List UInt8) {b c:UInt8} (hn:b≠c):crc (l++b::m)≠crc (l++c::m):=by
 intro h
 unfold crc crcL at h
 have h:=BitVec.not_inj.1 h
 rw [List.foldl_append,List.foldl_append] at h
 exact hn (qw (lA m h))
def low (x:BitVec 32):UInt8:=UInt8.ofNat x.toNat
def le4 (x:BitVec 32):List UInt8:=[low x,low (x >>> 8),low (x >>> 16),low (x >>> 24)]
def un4 (a b c d:UInt8):BitVec 32:=0#32 ||| wide a <<< 0 ||| wide b <<< 8 ||| wide c <<< 16 ||| wide d <<< 24
theorem gq (x:BitVec 32):(low x).toNat=x.toNat%256:=by simp [low]
theorem tZ (b:UInt8):(wide b).toNat=b.toNat:=by
 have:=b.toNat_lt
 rw [wide,BitVec.toNat_ofNat];omega
theorem ld (a b c d:UInt8):(un4 a b c d).toNat=a.toNat+b.toNat*256+c.toNat*65536+d.toNat*16777216:=by
 have ha:=a.toNat_lt
 have hb:=b.toNat_lt
 have hc:=c.toNat_lt
 have hd:=d.toNat_lt
 have s : ∀ (k:Nat) (x:UInt8),k≤24→(wide x <<< k).toNat=x.toNat <<< k:=fun k x hk=>by
  have hx:=x.toNat_lt
  rw [BitVec.toNat_shiftLeft,tZ,Nat.mod_eq_of_lt]
  rw [Nat.shiftLeft_eq]
  have h1:(2:Nat)^k≤2^24:=Nat.pow_le_pow_right (by omega) hk
  have h2:x.toNat*2^k≤x.toNat*2^24:=Nat.mul_le_mul_left _ h1
  omega
 unfold un4
 rw [BitVec.toNat_or,BitVec.toNat_or,BitVec.toNat_or,BitVec.toNat_or,s 0 a (by omega),s 8 b (by omega),s 16 c (by omega),s 24 d (by omega)]
 have e0:(0#32).toNat ||| a.toNat <<< 0=a.toNat:=by simp
 have o : ∀ (k n x:Nat),n<2^k→n ||| x <<< k=n+x*2^k:=fun k n x h=>by
  have:=Nat.shiftLeft_add_eq_or_of_lt h x
  rw [Nat.or_comm,←this,Nat.shiftLeft_eq,Nat.add_comm]
 rw [e0,o 8 _ _ (by omega),o 16 _ _ (by omega),o 24 _ _ (by omega)]
theorem cd (x:BitVec 32):un4 (low x) (low (x >>> 8)) (low (x >>> 16)) (low (x >>> 24))=x:=by
 refine BitVec.eq_of_toNat_eq ?_
 have:=x.isLt
 rw [ld,gq,gq,gq,gq,BitVec.toNat_ushiftRight,BitVec.toNat_ushiftRight,BitVec.toNat_ushiftRight,Nat.shiftRight_eq_div_pow,Nat.shiftRight_eq_div_pow,Nat.shiftRight_eq_div_pow]
 omega
theorem vD {a b c d a' b' c' d':UInt8} (h:un4 a b c d=un4 a' b' c' d'):a=a'∧b=b'∧c=c'∧d=d':=by
 have h:=congrArg BitVec.toNat h
 rw [ld,ld] at h
 have h1:=a.toNat_lt
 have h2:=b.toNat_lt
 have h3:=c.toNat_lt
 have h4:=d.toNat_lt
 have h5:=a'.toNat_lt
 have h6:=b'.toNat_lt
 have h7:=c'.toNat_lt
 have h8:=d'.toNat_lt
 refine ⟨UInt8.toNat_inj.1 ?_,UInt8.toNat_inj.1 ?_,UInt8.toNat_inj.1 ?_,UInt8.toNat_inj.1 ?_⟩<;>omega
def vnum (n:Nat):List UInt8:=if n<128 then [UInt8.ofNat n] else UInt8.ofNat (n%128+128)::vnum (n/128)
 termination_by n
 decreasing_by omega
theorem cQ {n:Nat} (h:n<128):vnum n=[UInt8.ofNat n]:=by rw [vnum,if_pos h]
theorem gJ {n:Nat} (h : ¬n<128):vnum n=UInt8.ofNat (n%128+128)::vnum (n/128):=by rw [vnum,if_neg h]
theorem iB : ∀ (k n:Nat),n<128^k→0<k→(vnum n).length≤k
 | 0,n,_,h0=>absurd h0 (Nat.lt_irrefl 0)
 | 1,n,h,_=>by rw [cQ (by simpa using h)];simp
 | k+2,n,h,_=>by
  by_cases hn:n<128
  ·rw [cQ hn];simp
  ·rw [gJ hn,List.length_cons]
   have:=iB (k+1) (n/128) (by rw [Nat.pow_succ] at h;exact Nat.div_lt_of_lt_mul (by rw [Nat.mul_comm];exact h)) (by omega)
   omega
theorem gK (n:Nat):0<(vnum n).length:=by
 by_cases hn:n<128
 ·rw [cQ hn];simp
 ·rw [gJ hn];simp
theorem az (n:Nat) (h:n<2^64):(vnum n).length≤10:=iB 10 n (Nat.lt_of_lt_of_le h (by decide)) (by decide)
def rnum (i n:Nat):List UInt8→Option (Nat × List UInt8)
 | []=>none
 | b::l=>
  if (i=9∧1<b.toNat)∨(b=0∧0<i) then none
  else if b.toNat<128 then some (n ||| (b.toNat%128*2^(7*i))%2^64,l)
  else rnum (i+1) (n ||| (b.toNat%128*2^(7*i))%2^64) l
theorem rp : ∀ (k m i n:Nat) (l:List UInt8),k=(vnum m).length→n<2^(7*i)→m*2^(7*i)<2^64→(0<i→0<m)→rnum i n (vnum m++l)=some (n+m*2^(7*i),l):=by
 have nS : ∀ (i n b:Nat),n<2^(7*i)→n ||| b*2^(7*i)=n+b*2^(7*i):=fun i n b h=>by
  have:=Nat.shiftLeft_add_eq_or_of_lt h b
  rw [Nat.shiftLeft_eq] at this
  rw [Nat.or_comm,←this,Nat.add_comm]
 intro k
 induction k with
 | zero=>intro m i n l hk;have:=gK m;omega
 | succ k ih=>
  intro m i n l hk hn hm h0
  have hi:m≠0→i≤9:=fun hm0=>by
   rcases Nat.lt_or_ge i 10 with h|h
   ·omega
   ·have h1:(2:Nat)^70≤2^(7*i):=Nat.pow_le_pow_right (by omega) (by omega)
    have h2:2^(7*i)≤m*2^(7*i):=Nat.le_mul_of_pos_left _ (by omega)
    omega
  have h9:i=9→m<2:=fun h=>by subst h;omega
  by_cases h:m<128
  ·rw [cQ h,List.singleton_append,rnum]
   have hb:(UInt8.ofNat m).toNat=m:=by simp [UInt8.toNat_ofNat'];omega
   rw [if_neg,hb,if_pos h,Nat.mod_eq_of_lt h,Nat.mod_eq_of_lt hm,nS i n m hn]
   rw [hb]
   rintro (⟨h1,h2⟩|⟨h1,h2⟩)
   ·have:=h9 h1;omega
   ·have:=h0 h2
    have h3:=congrArg UInt8.toNat h1
    rw [hb] at h3
    simp at h3
    omega
  ·rw [gJ h,List.cons_append,rnum]
   have hb:(UInt8.ofNat (m%128+128)).toNat=m%128+128:=by simp [UInt8.toNat_ofNat'];omega
   have e:(m%128+128)%128=m%128:=by omega
   have hlt:m%128*2^(7*i)<2^64:=Nat.lt_of_le_of_lt (Nat.mul_le_mul_right _ (Nat.mod_le m 128)) hm
   rw [if_neg,hb,if_neg (by omega),e,Nat.mod_eq_of_lt hlt,nS i n _ hn]
   ·have hd:m=m%128+128*(m/128):=by omega
    have e2:(2:Nat)^(7*(i+1))=128*2^(7*i):=by rw [Nat.mul_add,Nat.pow_add,Nat.mul_comm]
    have e3:m/128*2^(7*(i+1))=128*(m/128)*2^(7*i):=by rw [e2];simp only [Nat.mul_assoc,Nat.mul_comm,Nat.mul_left_comm]
    have e4:m*2^(7*i)=m%128*2^(7*i)+128*(m/128)*2^(7*i):=by rw [←Nat.add_mul,←hd]
    rw [ih (m/128) (i+1) _ l (by rw [gJ h] at hk;simpa using hk)]
    ·rw [e3,e4,Nat.add_assoc]
    ·rw [e2]
     have:m%128*2^(7*i)≤127*2^(7*i):=Nat.mul_le_mul_right _ (by omega)
     omega
    ·rw [e3];omega
    ·intro _;omega
   ·rw [hb]
    rintro (⟨h1,h2⟩|⟨h1,h2⟩)
    ·have:=h9 h1;omega
    ·have h3:=congrArg UInt8.toNat h1
     rw [hb] at h3
     simp at h3
theorem vq (m:Nat) (h:m<2^64) (l:List UInt8):rnum 0 0 (vnum m++l)=some (m,l):=by
 rw [rp _ m 0 0 l rfl (by decide) (by simpa using h) (by omega)]
 simp
end Go.Proofs.YtppeggedcaabkaaGreatDoor
end

section
namespace Go.Proofs.YtppeggedcaabkaaGreatDoor
open Go Go.Sx
theorem gM (x:BitVec 32):IntKind.u32.wrap (x.toNat:Int)=x.toNat:=by
 simp only [IntKind.wrap,IntKind.signed,IntKind.bits]
 have:=x.isLt
 simp
 omega
def nv (x:BitVec 32):Int:=x.toNat
theorem nv_inj {x y:BitVec 32} : nv x=nv y↔x=y:=by
 constructor
 ·intro h;exact BitVec.eq_of_toNat_eq (Int.ofNat_inj.1 h)
 ·intro h;rw [h]
theorem pY (x y:BitVec 32):binI .xor .u32 (nv x) (nv y)=some (.int .u32 (nv (x ^^^ y))):=by
 have:binI .xor .u32 (nv x) (nv y)=some (.int .u32 (IntKind.u32.wrap (BitVec.ofInt 32 (nv x) ^^^ BitVec.ofInt 32 (nv y)).toNat)):=rfl
 rw [this,nv,nv,BitVec.ofInt_natCast,BitVec.ofInt_natCast,BitVec.ofNat_toNat,BitVec.ofNat_toNat,BitVec.setWidth_eq,BitVec.setWidth_eq,gM]
 rfl
theorem t6 (x y:BitVec 32):binI .and .u32 (nv x) (nv y)=some (.int .u32 (nv (x &&& y))):=by
 have:binI .and .u32 (nv x) (nv y)=some (.int .u32 (IntKind.u32.wrap (BitVec.ofInt 32 (nv x) &&& BitVec.ofInt 32 (nv y)).toNat)):=rfl
 rw [this,nv,nv,BitVec.ofInt_natCast,BitVec.ofInt_natCast,BitVec.ofNat_toNat,BitVec.ofNat_toNat,BitVec.setWidth_eq,BitVec.setWidth_eq,gM]
 rfl
theorem nT (x y:BitVec 32):binI .or .u32 (nv x) (nv y)=some (.int .u32 (nv (x ||| y))):=by
 have:binI .or .u32 (nv x) (nv y)=some (.int .u32 (IntKind.u32.wrap (BitVec.ofInt 32 (nv x) ||| BitVec.ofInt 32 (nv y)).toNat)):=rfl
 rw [this,nv,nv,BitVec.ofInt_natCast,BitVec.ofInt_natCast,BitVec.ofNat_toNat,BitVec.ofNat_toNat,BitVec.setWidth_eq,BitVec.setWidth_eq,gM]
 rfl
theorem nc (x:BitVec 32):binI .xor .u32 (nv x) 3988292384=some (.int .u32 (nv (x ^^^ 3988292384#32))):=pY x 3988292384#32
theorem oq (x:BitVec 32):binI .and .u32 (nv x) 1=some (.int .u32 (nv (x &&& 1#32))):=t6 x 1#32
theorem pQ (x:BitVec 32):shI .shr .u32 (nv x) 1=some (.int .u32 (nv (x >>> 1))):=by
 have:shI .shr .u32 (nv x) 1=some (.int .u32 ((x.toNat:Int).fdiv (2^1))):=rfl
 rw [this,nv,BitVec.toNat_ushiftRight,Nat.shiftRight_eq_div_pow,Int.fdiv_eq_ediv_of_nonneg _ (by decide)]
 norm_cast
theorem hP (b:UInt8):IntKind.u32.wrap (b.toNat:Int)=nv (wide b):=by
 have hb:=b.toNat_lt
 simp only [IntKind.wrap,IntKind.signed,IntKind.bits,nv,wide,BitVec.toNat_ofNat]
 simp
 omega
theorem uV (x:BitVec 32):unL .xor (.p (.s (.int .u32 (nv x))))=some (.p (.s (.int .u32 (nv (~~~ x))))):=by
 have:unL .xor (.p (.s (.int .u32 (nv x))))=some (.p (.s (.int .u32 (IntKind.u32.wrap (BitVec.ofInt 32 4294967295 ^^^ BitVec.ofInt 32 (nv x)).toNat)))):=rfl
 have h1:BitVec.ofInt 32 4294967295=BitVec.allOnes 32:=by decide
 rw [this,h1,nv,BitVec.ofInt_natCast,BitVec.ofNat_toNat,BitVec.setWidth_eq,BitVec.allOnes_xor,gM]
 rfl
theorem iM (x:BitVec 32) (k:Nat) (hk:k≤32):shI .shr .u32 (nv x) k=some (.int .u32 (nv (x >>> k))):=by
 have:shI .shr .u32 (nv x) k=some (.int .u32 ((x.toNat:Int).fdiv (2^(min k 32)))):=by
  simp only [shI,nv]
  rw [if_neg (by omega)]
  rfl
 rw [this,nv,BitVec.toNat_ushiftRight,Nat.shiftRight_eq_div_pow,Int.fdiv_eq_ediv_of_nonneg _ (Int.le_of_lt (Int.pow_pos (by decide))),Nat.min_eq_left hk]
 norm_cast
theorem iL (x:BitVec 32) (k:Nat) (hk:k≤32):shI .shl .u32 (nv x) k=some (.int .u32 (nv (x <<< k))):=by
 have:shI .shl .u32 (nv x) k=some (.int .u32 (IntKind.u32.wrap ((x.toNat:Int)*(2^(min k 32))))):=by
  simp only [shI,nv]
  rw [if_neg (by omega)]
  rfl
 rw [this,nv,BitVec.toNat_shiftLeft,Nat.shiftLeft_eq,Nat.min_eq_left hk]
 simp [IntKind.wrap,IntKind.signed,IntKind.bits]
theorem nb (x:BitVec 32):IntKind.u8.wrap (nv x)=(low x).toNat:=by
 rw [gq,nv]
 simp [IntKind.wrap,IntKind.signed,IntKind.bits]
theorem xZ (x:BitVec 32):shI .shr .u32 (nv x) 0=some (.int .u32 (nv x)):=iM x 0 (by decide)
theorem ya (x:BitVec 32):shI .shr .u32 (nv x) 8=some (.int .u32 (nv (x >>> 8))):=iM x 8 (by decide)
theorem wd (x:BitVec 32):shI .shr .u32 (nv x) 16=some (.int .u32 (nv (x >>> 16))):=iM x 16 (by decide)
theorem we (x:BitVec 32):shI .shr .u32 (nv x) 24=some (.int .u32 (nv (x >>> 24))):=iM x 24 (by decide)
theorem xX (x:BitVec 32):shI .shl .u32 (nv x) 0=some (.int .u32 (nv (x <<< 0))):=iL x 0 (by decide)
theorem xY (x:BitVec 32):shI .shl .u32 (nv x) 8=some (.int .u32 (nv (x <<< 8))):=iL x 8 (by decide)
theorem wb (x:BitVec 32):shI .shl .u32 (nv x) 16=some (.int .u32 (nv (x <<< 16))):=iL x 16 (by decide)
theorem wc (x:BitVec 32):shI .shl .u32 (nv x) 24=some (.int .u32 (nv (x <<< 24))):=iL x 24 (by decide)
theorem pA (x:BitVec 32):binI .or .u32 0 (nv x)=some (.int .u32 (nv (0#32 ||| x))):=nT 0#32 x
section sum
variable (c:Ctx) (h:Hp)
theorem od (n:Nat) (j:Nat) (hj:j<8) (r:BitVec 32) (x6 x7 x8:LV):
  runCS c n ir78_0 ⟨[(3,.int .u32 (nv r)),(6,x6),(7,x7),(8,x8),(16,.int .i64 j)],h⟩=
   some (.normal,⟨[(3,.int .u32 (nv (stp r))),(6,x6),(7,x7),(8,x8),(16,.int .i64 (j+1:Nat))],h⟩):=by
 have h8 : ¬(8:Int)≤j:=by omega
 have hw:IntKind.i64.wrap ((j:Int)+1)=(j:Int)+1:=am _ (by omega) (by omega)
 have h1:nv 1#32=1:=rfl
 by_cases hb:r &&& 1#32=1#32
 ·have hb':nv (r &&& 1#32)=1:=by rw [hb];rfl
  simp [ir78_0,ssB,ssU,ssP,appO,h8,hw,oq,pQ,nc,stp,hb,h1]
 ·have hb' : ¬nv (r &&& 1#32)=1:=fun e=>hb (nv_inj.1 e)
  simp [ir78_0,ssB,ssU,ssP,appO,h8,hw,oq,pQ,nc,stp,hb,hb']
theorem ry (n:Nat) (r:BitVec 32) (x6 x7 x8:LV):
  runCS c n ir78_0 ⟨[(3,.int .u32 (nv r)),(6,x6),(7,x7),(8,x8),(16,.int .i64 8)],h⟩=
   some (.exit 2,⟨[(3,.int .u32 (nv r)),(6,x6),(7,x7),(8,x8),(16,.int .i64 8),(17,.bool false)],h⟩):=by
 simp [ir78_0,ssB,ssU,ssP,appO]
theorem rx (n:Nat) (x6 x7 x8:LV) : ∀ (k m j:Nat) (r:BitVec 32),j+k=8→k<m→iter (runCS c n ir78_0) m ⟨[(3,.int .u32 (nv r)),(6,x6),(7,x7),(8,x8),(16,.int .i64 j)],h⟩=
   some (.exit 2,⟨[(3,.int .u32 (nv (Nat.repeat stp k r))),(6,x6),(7,x7),(8,x8),(16,.int .i64 8),(17,.bool false)],h⟩):=by
 intro k
 induction k with
 | zero=>
  intro m j r hj hm
  obtain ⟨m,rfl⟩ : ∃ q,m=q+1:=⟨m-1,by omega⟩
  obtain rfl:j=8:=by omega
  exact bw (ry c h n r x6 x7 x8) (by simp)
 | succ k ih=>
  intro m j r hj hm
  obtain ⟨m,rfl⟩ : ∃ q,m=q+1:=⟨m-1,by omega⟩
  rw [bI (od c h n j (by omega) r x6 x7 x8),ih m (j+1) (stp r) (by omega) (by omega),mL]
end sum
section sum
variable {c:Ctx}
theorem m0 {n:Nat} (hn:9≤n) {h:Hp} {l:List UInt8} {id:Nat} (hl:Go.Sx.look c.H c.nx h id=some (.cells (byt l))) (cp:Nat) (ex:Bool) (j:Nat) (b:UInt8) (hj:l[j]?=some b) (h62:l.length<2^62) (r:BitVec 32):
  runCS c n ir78_1 ⟨[(3,.int .u32 (nv r)),(6,.arr id 0 l.length 1 cp ex),(7,.int .i64 l.length),(8,.int .i64 j)],h⟩=
   some (.normal,⟨[(3,.int .u32 (nv (crcB r b))),(6,.arr id 0 l.length 1 cp ex),(7,.int .i64 l.length),(8,.int .i64 (j+1:Nat))],h⟩):=by
 obtain ⟨hlt,hv⟩:=List.getElem?_eq_some_iff.1 hj
 have h8 : ¬(l.length:Int)≤j:=by omega
 have hw:IntKind.i64.wrap ((j:Int)+1)=(j:Int)+1:=am _ (by omega) (by omega)
 have hb:(byt l)[j]?=some (.int .u8 b.toNat):=by simp [byt,hj]
 have hs:=rx c h n (.arr id 0 l.length 1 cp ex) (.int .i64 l.length) (.int .i64 j) 8 n 0 (r ^^^ wide b) rfl (by omega)
 simp only [Int.natCast_zero,Int.ofNat_zero] at hs
 simp [ir78_1,ssB,ssU,Go.Sx.callO,Go.Sx.splice,Go.Sx.finish,Go.Sx.push,Go.Sx.setObj,Go.Sx.setU,Go.Sx.setAll,appO,Go.Sx.leI_eq,ltF,h8,hw,hlt,hb,hl,hP,pY,hs,crcB]
theorem og {n:Nat} {h:Hp} (len:Nat) (x:LV) (r:BitVec 32):
  runCS c n ir78_1 ⟨[(3,.int .u32 (nv r)),(6,x),(7,.int .i64 len),(8,.int .i64 len)],h⟩=
   some (.exit 0,⟨[(3,.int .u32 (nv r)),(6,x),(7,.int .i64 len),(8,.int .i64 len),(9,.bool false)],h⟩):=by
 simp [ir78_1,ssB,ssU,ssP,appO]
theorem oe {n:Nat} (hn:9≤n) {h:Hp} {l:List UInt8} {id:Nat} (hl:Go.Sx.look c.H c.nx h id=some (.cells (byt l))) (cp:Nat) (ex:Bool) (h62:l.length<2^62) : ∀ (k m j:Nat) (r:BitVec 32),j+k=l.length→k<m →
  iter (runCS c n ir78_1) m ⟨[(3,.int .u32 (nv r)),(6,.arr id 0 l.length 1 cp ex),(7,.int .i64 l.length),(8,.int .i64 j)],h⟩=
   some (.exit 0,⟨[(3,.int .u32 (nv (crcL r (l.drop j)))),(6,.arr id 0 l.length 1 cp ex),(7,.int .i64 l.length),(8,.int .i64 l.length),(9,.bool false)],h⟩):=by
 intro k
 induction k with
 | zero=>
  intro m j r hj hm
  obtain ⟨m,rfl⟩ : ∃ q,m=q+1:=⟨m-1,by omega⟩
  obtain rfl:j=l.length:=by omega
  rw [List.drop_length]
  exact bw (og _ _ r) (by simp)
 | succ k ih=>
  intro m j r hj hm
  obtain ⟨m,rfl⟩ : ∃ q,m=q+1:=⟨m-1,by omega⟩
  have hlt:j<l.length:=by omega
  rw [bI (m0 hn hl cp ex j l[j] (List.getElem?_eq_getElem hlt) h62 r),ih m (j+1) _ (by omega) (by omega),List.drop_eq_getElem_cons hlt]
  rfl
end sum
theorem wZ (l:List UInt8) (h62:l.length<2^62) (id cp:Nat) (ex:Bool) (H:Heap) (nx:Nat) (hl:H id=some (.cells (byt l))) (hid:id<nx):
  Ω 78 [.arr id 0 l.length 1 cp ex] H nx=some (.int .u32 (nv (crc l)),[],[]):=by
 refine ae (ir:=ir78) (by kernel_rfl) (l.length+9) ?_
 have hlk:Go.Sx.look H nx ⟨[],[]⟩ id=some (.cells (byt l)):=by simp [Go.Sx.look,findU,hid,hl]
 have hs:=oe (c:=⟨Ω,noG,H,nx⟩) (n:=l.length+9) (by omega) hlk cp ex h62 l.length (l.length+9) 0 4294967295#32 (by omega) (by omega)
 have h1:nv 4294967295#32=4294967295:=rfl
 rw [List.drop_zero,h1] at hs
 simp only [Int.natCast_zero,Int.ofNat_zero] at hs
 simp [ir78,ssB,ssU,Go.Sx.callO,Go.Sx.splice,Go.Sx.finish,Go.Sx.push,Go.Sx.setObj,Go.Sx.setU,Go.Sx.setAll,appO,Go.Sx.leI_eq,ltF,hs,uV,crc]
theorem pb (x:BitVec 32) (H:Heap) (nx:Nat):Ω 77 [.p (.s (.slice none 0 0)),.int .u32 (nv x)] H nx=
  some (.arr nx 0 4 1 4 false,[],[some (.cells (byt (le4 x)))]):=by
 refine ae (ir:=ir77) (by kernel_rfl) 6 ?_
 simp [ir77,ir77_0,ssB,ssU,ssP,appO,iter,am,xZ,ya,wd,we,nb,byt,le4]
theorem pa (a b c d:UInt8) (x:BitVec 32) (id:Nat) (H:Heap) (nx:Nat) (hl:H id=some (.cells (byt [a,b,c,d]))) (hid:id<nx):Ω 77 [.arr id 0 4 1 4 true,.int .u32 (nv x)] H nx=
  some (.arr nx 0 8 1 8 false,[],[some (.cells (byt ([a,b,c,d]++le4 x)))]):=by
 refine ae (ir:=ir77) (by kernel_rfl) 6 ?_
 simp only [byt,List.map] at hl
 simp [ir77,ir77_0,ssB,ssU,ssP,appO,iter,am,xZ,ya,wd,we,nb,byt,le4,hl,hid]
theorem yd (a b c d:UInt8) (l:List PV) (len:Nat) (fl:Bool) (h4:4≤len) (H:Heap) (nx:Nat):
  Ω 94 [.p (.sl (.s (.int .u8 a.toNat) :: .s (.int .u8 b.toNat) :: .s (.int .u8 c.toNat) :: .s (.int .u8 d.toNat)::l) len 1 fl)] H nx=some (.int .u32 (nv (un4 a b c d)),[],[]):=by
 refine ae (ir:=ir94) (by kernel_rfl) 6 ?_
 have h0:0<len:=by omega
 have h1:1<len:=by omega
 have h2:2<len:=by omega
 have h3:3<len:=by omega
 simp [ir94,ir94_0,ssB,ssU,ssP,appO,iter,am,xX,xY,wb,wc,hP,pA,nT,un4,h0,h1,h2,h3]
def frame (l:List UInt8):List UInt8:=le4 (BitVec.ofNat 32 l.length)++le4 (crc (le4 (BitVec.ofNat 32 l.length)++l))++l
theorem na (n:Nat):IntKind.u32.wrap (n:Int)=nv (BitVec.ofNat 32 n):=by
 rw [nv,BitVec.toNat_ofNat]
 simp [IntKind.wrap,IntKind.signed,IntKind.bits]
theorem wx (l:List UInt8) (h0:0<l.length) (h30:l.length<2^30) (id cp:Nat) (ex:Bool) (H:Heap) (nx:Nat) (hl:H id=some (.cells (byt l))) (hid:id<nx):
  Ω 31 [.arr id 0 l.length 1 cp ex] H nx=some (.arr nx 0 (8+l.length) 1 (8+l.length) false,[],[some (.cells (byt (frame l)))]):=by
 refine ae (ir:=ir31) (by kernel_rfl) 0 ?_
 have hs : ∀ (id cp:Nat) (ex:Bool) (H:Heap) (nx:Nat),H id=some (.cells (byt (le4 (BitVec.ofNat 32 l.length))++byt l))→id<nx →
   Ω 78 [.arr id 0 (4+l.length) 1 cp ex] H nx=some (.int .u32 (nv (crc (le4 (BitVec.ofNat 32 l.length)++l))),[],[]):=fun id cp ex H nx h1 h2=>by
  have:=wZ (le4 (BitVec.ofNat 32 l.length)++l) (by simp [le4];omega) id cp ex H nx (by rw [aP];exact h1) h2
  have e:(le4 (BitVec.ofNat 32 l.length)++l).length=4+l.length:=by simp [le4];omega
  rwa [e] at this
 have hb : ∀ (x:BitVec 32),byt (le4 x)=[.int .u8 (low x).toNat,.int .u8 (low (x >>> 8)).toNat,.int .u8 (low (x >>> 16)).toNat,.int .u8 (low (x >>> 24)).toNat]:=fun x=>rfl
 have hne : ¬l.length=0:=by omega
 have hla:=fun id H nx h1 h2=>pa (low (BitVec.ofNat 32 l.length)) (low (BitVec.ofNat 32 l.length >>> 8)) (low (BitVec.ofNat 32 l.length >>> 16)) (low (BitVec.ofNat 32 l.length >>> 24)) (crc (le4 (BitVec.ofNat 32 l.length)++l)) id H nx h1 h2
 simp only [aP,hb] at hs
 simp only [aP,hb,aW,bu] at hla
 have h41 : ¬1099511627776<4+l.length:=by omega
 have h42 : ¬1099511627776<8+l.length:=by omega
 have hk : ∀ k,id<nx+k:=fun k=>by omega
 simp [ir31,ssB,ssU,ssP,appO,hid,hk,hl,na,pb,ak,aa,au,aE,aG,aD,aI,av,aA,hs,hla,hb,hne,h41,h42,frame]
 rw [aP,aP,hb,hb]
 rfl
theorem eV (l:List UInt8):(frame l).length=8+l.length:=by simp [frame,le4];omega
theorem iE (l:List UInt8) (h0:0<l.length) (h30:l.length<2^30) (id cp:Nat) (ex:Bool) (H:Heap) (nx:Nat) (hl:H id=some (.cells (byt l))) (hid:id<nx):
  Ω 31 [.arr id 0 l.length 1 cp ex] H nx=some (.arr nx 0 (frame l).length 1 (frame l).length false,[],[some (.cells (byt (frame l)))]):=by
 rw [eV]
 exact wx l h0 h30 id cp ex H nx hl hid
theorem qP (H:Heap) (nx:Nat) (h:Hp) (o:Go.Sx.Obj):Go.Sx.look H nx (push h o) (nx+h.new.length)=some o:=by
 simp [Go.Sx.look,push,ltF]
theorem mh (H:Heap) (nx:Nat) (h:Hp) (o:Go.Sx.Obj) (i:Nat) (hi:i<nx+h.new.length):Go.Sx.look H nx (push h o) i=Go.Sx.look H nx h i:=by
 rw [aF,if_neg (by omega)]
theorem yn {c:Ctx} {h:Hp} {q:List UInt8} {i j:Nat} {ex:Bool} {b:UInt8} (hi:Go.Sx.look c.H c.nx h i=some (.cells (byt q))) (hj:Go.Sx.look c.H c.nx h j=some (.cells [.int .u8 b.toNat])) (h30:q.length<2^31):
  appO c h 1 1 (.arr i 0 q.length 1 q.length ex) (.arr j 0 1 1 1 true)=some ⟨.arr (c.nx+h.new.length) 0 (q.length+1) 1 (q.length+1) false,
   push (if ex then h else Go.Sx.setObj c.nx h i none) (.cells (byt (q++[b]))),[i,j],!ex⟩:=by
 have h41 : ¬2^40<(q.length+1)*1:=by omega
 cases ex<;>simp [appO,slCells,hi,hj,ak,h41,au,aP,aW,bu,ids]<;>omega
theorem xM : ∀ x:Fin 256,(BitVec.ofInt 8 (x.val:Int) ||| BitVec.ofInt 8 128).toNat=x.val%128+128:=by decide +kernel
theorem ub (n:Nat):binI .or .u8 (IntKind.u8.wrap (n:Int)) 128=some (.int .u8 ((UInt8.ofNat (n%128+128)).toNat:Nat)):=by
 have h1:binI .or .u8 (IntKind.u8.wrap (n:Int)) 128=some (.int .u8 (IntKind.u8.wrap (BitVec.ofInt 8 (IntKind.u8.wrap (n:Int)) ||| BitVec.ofInt 8 128).toNat)):=rfl
 have h2:IntKind.u8.wrap (n:Int)=((n%256:Nat):Int):=by simp [IntKind.wrap,IntKind.signed,IntKind.bits]
 have h3:=xM ⟨n%256,Nat.mod_lt _ (by decide)⟩
 simp only at h3
 rw [h1,h2,h3]
 have h4:IntKind.u8.wrap ((n%256%128+128:Nat):Int)=((n%256%128+128:Nat):Int):=by
  simp [IntKind.wrap,IntKind.signed,IntKind.bits]
  omega
 rw [h4]
 simp
 omega
theorem vG (n:Nat):IntKind.u8.wrap (n:Int)=((UInt8.ofNat n).toNat:Nat):=by
 simp [IntKind.wrap,IntKind.signed,IntKind.bits]
theorem yD (n:Nat):shI .shr .u64 n 7=some (.int .u64 (n/128:Nat)):=by
 have:shI .shr .u64 (n:Int) 7=some (.int .u64 ((n:Int).fdiv (2^7))):=rfl
 rw [this,Int.fdiv_eq_ediv_of_nonneg _ (by decide)]
 norm_cast
section num
variable {c:Ctx}
theorem uX {N:Nat} {h:Hp} {x:LV} {n:Nat} (hn:n<128):
  runCS c N ir26_0 ⟨[(0,x),(1,.int .u64 n)],h⟩=some (.exit 0,⟨[(0,x),(1,.int .u64 n),(12,.bool false)],h⟩):=by
 have hn' : ¬(128:Int)≤n:=by omega
 simp [ir26_0,ssB,ssU,Go.Sx.callO,Go.Sx.splice,Go.Sx.finish,Go.Sx.setAll,Go.Sx.leI_eq,ltF,hn']
theorem qK {h:Hp} {i:Nat} {o p:Go.Sx.Obj} {ex:Bool} (hex:ex=true∨c.nx≤i) (hu:h.upd=[]):
  Go.Sx.look c.H c.nx (push (if ex then push h o else Go.Sx.setObj c.nx (push h o) i none) p) (c.nx+(h.new.length+1))=some p ∧
  (push (if ex then push h o else Go.Sx.setObj c.nx (push h o) i none) p).upd=[] ∧
  (push (if ex then push h o else Go.Sx.setObj c.nx (push h o) i none) p).new.length=h.new.length+2:=by
 cases ex with
 | true=>exact ⟨by simp [Go.Sx.look,push,ltF],by simp [push,hu],by simp [push]⟩
 | false=>
  have hge : ¬i<c.nx:=by
   rcases hex with h|h
   ·cases h
   ·omega
  refine ⟨?_,?_,?_⟩
  ·simp [Go.Sx.look,push,ltF,Go.Sx.setObj,hge]
  ·simp [push,Go.Sx.setObj,hge,hu]
  ·simp [push,Go.Sx.setObj,hge]
end num
theorem fF {H:Heap} {nx i L:Nat} {h:Hp} {q:List UInt8} {ex:Bool} (hu:h.upd=[]) (hi:nx≤i) (hl:Go.Sx.look H nx h i=some (.cells (byt q))):
  finish true H nx (.arr i 0 L 1 L ex) h=some (.arr nx 0 L 1 L ex,[],[some (.cells (byt q))]):=by
 have h1 : ¬i<nx:=by omega
 simp [finish,ssB,ssU,Go.Sx.callO,Go.Sx.splice,Go.Sx.finish,Go.Sx.push,Go.Sx.setObj,Go.Sx.setU,Go.Sx.setAll,appO,Go.Sx.leI_eq,ltF,hu,h1,hl,ak,aa,au,aE,aG,aD,aI,av,aA]
end Go.Proofs.YtppeggedcaabkaaGreatDoor
end

section
namespace Go.Proofs.YtppeggedcaabkaaGreatDoor
open Go Go.Sx
theorem wI : ∀ x:Fin 256,(BitVec.ofInt 8 (x.val:Int) &&& ~~~ BitVec.ofInt 8 128).toNat=x.val%128:=by decide +kernel
theorem rO (b:UInt8):binI .andNot .u8 b.toNat 128=some (.int .u8 (b.toNat%128:Nat)):=by
 have h1:binI .andNot .u8 b.toNat 128=some (.int .u8 (IntKind.u8.wrap (BitVec.ofInt 8 (b.toNat:Int) &&& ~~~ BitVec.ofInt 8 128).toNat)):=rfl
 have h3:=wI ⟨b.toNat,b.toNat_lt⟩
 simp only at h3
 rw [h1,h3]
 simp [IntKind.wrap,IntKind.signed,IntKind.bits]
 omega
theorem b7 (n:Nat) (h:n<2^64):IntKind.u64.wrap (n:Int)=n:=by
 simp [IntKind.wrap,IntKind.signed,IntKind.bits]
 omega
theorem kX (n k:Nat) (hk:k≤64):shI .shl .u64 n k=some (.int .u64 (n*2^k%2^64:Nat)):=by
 have:shI .shl .u64 (n:Int) k=some (.int .u64 (IntKind.u64.wrap ((n:Int)*(2^(min k 64))))):=by
  simp only [shI]
  rw [if_neg (by omega)]
  rfl
 rw [this,Nat.min_eq_left hk]
 simp [IntKind.wrap,IntKind.signed,IntKind.bits]
theorem tt (x y:Nat) (hx:x<2^64) (hy:y<2^64):binI .or .u64 x y=some (.int .u64 (x ||| y:Nat)):=by
 have:binI .or .u64 (x:Int) (y:Int)=some (.int .u64 (IntKind.u64.wrap (BitVec.ofInt 64 (x:Int) ||| BitVec.ofInt 64 (y:Int)).toNat)):=rfl
 rw [this,BitVec.ofInt_natCast,BitVec.ofInt_natCast,BitVec.toNat_or,BitVec.toNat_ofNat,BitVec.toNat_ofNat,Nat.mod_eq_of_lt hx,Nat.mod_eq_of_lt hy,b7 _ (Nat.or_lt_two_pow hx hy)]
section sum
variable {c:Ctx}
end sum
theorem gS (n:Nat) (l:List UInt8):List.take n (bytP l)=bytP (l.take n):=by simp [bytP]
end Go.Proofs.YtppeggedcaabkaaGreatDoor
end

section
namespace Go.Proofs.YtppeggedcaabkaaGreatDoor
open Go Go.Sx
theorem qe (n:Nat) (l:List UInt8):List.drop n (bytP l)=bytP (l.drop n):=by simp [bytP,List.map_drop]
theorem lr (n:Nat) (l:List UInt8):List.take n (byt l)=byt (l.take n):=by simp [byt,List.map_take]
theorem lq (n:Nat) (l:List UInt8):List.drop n (byt l)=byt (l.drop n):=by simp [byt,List.map_drop]
theorem ua {l:List UInt8} {i:Nat} {b:UInt8} (h:l[i]?=some b):(byt l)[i]?=some (.int .u8 b.toNat):=by simp [byt,h]
inductive Bs (H:Heap) (nx:Nat):LV→List UInt8→Prop
 | nil:Bs H nx (.p (.s (.slice none 0 0))) []
 | sl (F:List UInt8) (fl:Bool):Bs H nx (.p (.sl (bytP F) F.length 1 fl)) F
 | arr (F G:List UInt8) (id off cp:Nat) (ex:Bool):H id=some (.cells (byt G))→id<nx→off+F.length≤G.length→(G.drop off).take F.length=F→Bs H nx (.arr id off F.length 1 cp ex) F
theorem Bs.mono {H H':Heap} {nx nx':Nat} {x:LV} {F:List UInt8} (g:Bs H nx x F) (h : ∀ id,id<nx→H' id=H id) (hn:nx≤nx'):Bs H' nx' x F:=by
 cases g with
 | nil=>exact .nil
 | sl _ fl=>exact .sl F fl
 | arr _ G id off cp ex h1 h2 h3 h4=>exact .arr F G id off cp ex (by rw [h id h2];exact h1) (by omega) h3 h4
theorem Bs.whole {H:Heap} {nx:Nat} {id cp:Nat} {ex:Bool} {F:List UInt8} (h:H id=some (.cells (byt F))) (hid:id<nx):Bs H nx (.arr id 0 F.length 1 cp ex) F:=
 .arr F F id 0 cp ex h hid (by omega) (by simp)
theorem Bs.whole' {H:Heap} {nx:Nat} {id cp n:Nat} {ex:Bool} {F:List UInt8} (hn:n=F.length) (h:H id=some (.cells (byt F))) (hid:id<nx):Bs H nx (.arr id 0 n 1 cp ex) F:=by
 subst hn;exact .whole h hid
theorem Bs.cells {H:Heap} {nx:Nat} {h:Hp} {x:LV} {F:List UInt8} (g:Bs (Go.Sx.look H nx h) (nx+h.new.length) x F):slCells H nx h x=some (byt F,F.length):=by
 cases g with
 | nil=>rfl
 | sl _ fl=>simp [slCells,aQ]
 | arr _ G id off cp ex h1 h2 h3 h4=>
  simp [slCells,h1,ak,h3,lq,lr,h4]
theorem Bs.in {H:Heap} {nx:Nat} {x:LV} {F:List UInt8} (g:Bs H nx x F):Bs (Go.Sx.look H nx ⟨[],[]⟩) nx x F:=
 g.mono (fun id hid=>by simp [Go.Sx.look,findU,hid]) (Nat.le_refl _)
theorem Bs.ids {H:Heap} {nx:Nat} {x:LV} {F:List UInt8} (g:Bs H nx x F) : ∀ i∈Go.Sx.ids x,i<nx:=by
 cases g with
 | nil=>simp [Go.Sx.ids]
 | sl _ fl=>simp [Go.Sx.ids]
 | arr _ G id off cp ex h1 h2 h3 h4=>simp [Go.Sx.ids,h2]
end Go.Proofs.YtppeggedcaabkaaGreatDoor
end

section
namespace Go.Sx
open Go
open Classical in
noncomputable def lim {α:Type} (f:Nat→Option α):Option α:=if h : ∃ r n,∀ m,n≤m→f m=some r then some h.choose else none
theorem sS {α:Type} {f:Nat→Option α} {r:α} (h:lim f=some r) : ∃ n,∀ m,n≤m→f m=some r:=by
 unfold lim at h
 split at h
 ·rename_i h1
  obtain rfl:=Option.some.inj h
  exact h1.choose_spec
 ·cases h
theorem sR {α:Type} {f:Nat→Option α} {r:α} {n:Nat} (h : ∀ m,n≤m→f m=some r):lim f=some r:=by
 have h1 : ∃ r n,∀ m,n≤m→f m=some r:=⟨r,n,h⟩
 unfold lim
 rw [dif_pos h1]
 obtain ⟨k,hk⟩:=h1.choose_spec
 have a1:=hk (max n k) (by omega)
 have a2:=h (max n k) (by omega)
 rw [a1] at a2
 exact a2
theorem eZ {α:Type} (o:Option α):lim (fun _=>o)=o:=by
 cases o with
 | some r=>exact sR (n:=0) fun _ _=>rfl
 | none=>
  unfold lim
  rw [dif_neg]
  rintro ⟨r,n,h⟩
  cases h n (Nat.le_refl n)
theorem gu {α:Type} {a b:Option α} (h1 : ∀ r,a=some r→b=some r) (h2 : ∀ r,b=some r→a=some r):a=b:=by
 cases a with
 | some x=>exact (h1 x rfl).symm
 | none=>
  cases b with
  | none=>rfl
  | some y=>cases h2 y rfl
noncomputable def run (c:Ctx) (code:IRC) (st:St):Option (Ex × St):=lim fun n=>runC c n code st
theorem kS {c:Ctx} {n:Nat} {code:IRC} {st:St} {r:Ex × St} (h:runC c n code st=some r) : ∃ M,∀ m,M≤m→runC c m code st=some r:=
 pJ (Om:=fun _=>c.O) (fun _ _ _ _ _ h=>⟨0,fun _ _=>h⟩) h
theorem aS {c:Ctx} {n:Nat} {code:IRC} {st:St} {r:Ex × St} (h:runC c n code st=some r):run c code st=some r:=by
 obtain ⟨M,hM⟩:=kS h
 exact sR hM
theorem bo {c:Ctx} {code:IRC} {st:St} {r:Ex × St} (h:run c code st=some r) : ∃ n,∀ m,n≤m→runC c m code st=some r:=sS h
noncomputable def runOpsQS:Ctx→Bool→List IROper→Env→Hp→Option (Env × Hp):=veil runOpsQ
theorem eB:runOpsQS=runOpsQ:=iO _
def quickK (fin:Bool) (h:Hp) (x:Option Res):Option Res:=bindK x fun x=>if (fin||quickR h x)=true then some x else none
theorem iu (fin:Bool) (h:Hp) (v:LV) (t:List Nat):quickK fin h (some ⟨v,h,t,false⟩)=some ⟨v,h,t,false⟩:=by simp [quickK,bindK,quickR]
theorem jw (h:Hp) (x:Option Res):quickK true h x=x:=by cases x<;>rfl
theorem iv (h h':Hp) (v:LV) (t:List Nat) (m:Bool):quickK false h (some ⟨v,h',t,m⟩)=if (!m||t.isEmpty)&&h'.new.length==h.new.length then some ⟨v,h',t,m⟩ else none:=rfl
theorem gA (c:Ctx) (fin:Bool) (env:Env) (h:Hp):runOpsQS c fin [] env h=some (env,h):=by rw [eB];rfl
theorem fy (c:Ctx) (fin:Bool) (d:Option Nat) (op:IROp) (g:Option (Nat × Bool)) (r:List IROper) (env:Env) (h:Hp):runOpsQS c fin (⟨d,op,g⟩::r) env h=
  wselG g env (quickK (fin&&r.isEmpty) h (evOp c true env h op)) (fun v h'=>runOpsQS c fin r (putD env d v) h') h:=by
 rw [eB]
 have key:(match evOp c true env h op with
   | some x=>if (fin&&r.isEmpty)||quickR h x then runOpsQ c fin r (putD env d x.v) x.h else none
   | none=>none)=bindK (quickK (fin&&r.isEmpty) h (evOp c true env h op)) fun x=>runOpsQ c fin r (putD env d x.v) x.h:=by
  unfold quickK bindK
  cases evOp c true env h op with
  | none=>rfl
  | some x=>
   simp only []
   by_cases hq:((fin&&r.isEmpty)||quickR h x)=true
   ·rw [if_pos hq,if_pos hq]
   ·rw [if_neg hq,if_neg hq]
 cases g with
 | none=>simp only [runOpsQ,wants,wselG];exact key
 | some q=>
  obtain ⟨t,b⟩:=q
  simp only [runOpsQ,wants,wselG,wselV]
  generalize get env t=v
  cases v with
  | p x=>
   cases x with
   | s w=>
    cases w with
    | bool x=>cases x<;>cases b<;>first|rfl|exact key
    | _=>rfl
   | _=>rfl
  | _=>rfl
section
variable (c:Ctx) (st:St)
theorem dF:run c .skip st=some (.normal,st):=aS (n:=0) rfl
theorem mV (id:Nat):run c (.exit id) st=some (.exit id,st):=aS (n:=0) rfl
theorem pN:run c .ret st=some (.ret,st):=aS (n:=0) rfl
theorem ka (l:Nat) (lv:List Nat):run c (.label l lv) st=some (.normal,st):=aS (n:=0) rfl
theorem mW (l:Nat):run c (.goto l) st=some (.goto l,st):=aS (n:=0) rfl
theorem gB {x:IRC} (h : ∀ n,runC c n x st=runC c 0 x st):run c x st=runC c 0 x st:=by
 unfold run
 rw [show (fun n=>runC c n x st)=fun _=>runC c 0 x st from funext h,eZ]
theorem pM (ops:List IROper) (live:List Nat):run c (.region ops none live) st=bindK (runOpsS c ops st.env st.h) fun p=>some (.normal,⟨keep live p.1,p.2⟩):=by
 rw [gB c st (fun _=>rfl),←fP c 0 st,aO]
theorem mU (ops:List IROper) (before live:List Nat):run c (.region ops (some before) live) st=bindK (runOpsTS c ops st.env st.h) fun q=>if indepD q.1 before then some (.normal,⟨keep live q.2.1,q.2.2⟩) else none:=by
 rw [gB c st (fun _=>rfl),←ey c 0 st,aO]
theorem mX (fin:Bool) (ops:List IROper) (live:List Nat):run c (.regq fin ops live) st=bindK (runOpsQS c fin ops st.env st.h) fun p=>some (.normal,⟨keep live p.1,p.2⟩):=by
 rw [gB c st (fun _=>rfl),eB]
 unfold bindK
 simp only [runC]
 cases runOpsQ c fin ops st.env st.h<;>rfl
theorem tH (k f:List Nat):run c (.tidy k f) st=match tidyR c.H c.nx (.tuple (k.map (get st.env))) (.tuple (f.map (get st.env))) st.h with
  | some (.tuple ks,.tuple fs,u,n)=>some (.normal,⟨k.zip ks++f.zip fs,⟨u,n⟩⟩)
  | _=>none:=by
 rw [gB c st (fun _=>rfl)];rfl
theorem iK (a b:IRC):run c (.seq a b) st=bindK (run c a st) fun p=>seqK p fun st'=>run c b st':=by
 refine gu (fun r h => ?_) fun r h => ?_
 ·obtain ⟨n,hn⟩:=bo h
  have:=hn n (Nat.le_refl _)
  simp only [runC] at this
  split at this
  ·rename_i st' h1
   rw [aS h1];exact aS this
  ·rename_i hne
   rw [aS this]
   obtain ⟨e,s⟩:=r
   cases e with
   | normal=>exact absurd this (hne s)
   | _=>rfl
 ·cases h1:run c a st with
  | none=>rw [h1] at h;cases h
  | some p=>
   rw [h1] at h
   obtain ⟨n1,hn1⟩:=bo h1
   obtain ⟨e,s⟩:=p
   cases e with
   | normal=>
    obtain ⟨n2,hn2⟩:=bo (show run c b s=some r from h)
    refine aS (n:=max n1 n2) ?_
    simp only [runC,hn1 (max n1 n2) (by omega),hn2 (max n1 n2) (by omega)]
   | _=>
    refine aS (n:=n1) ?_
    simp only [runC,hn1 n1 (Nat.le_refl _)]
    exact h
theorem mS (x:Opd) (a b:IRC):run c (.cond x a b) st=condK (opd c st.env x) (run c a st) (run c b st):=by
 have e : ∀ n,runC c n (.cond x a b) st=condK (opd c st.env x) (runC c n a st) (runC c n b st):=fun n=>by rw [←aO,ew]
 unfold run
 simp only [e]
 generalize opd c st.env x=v
 cases v with
 | p v=>
  cases v with
  | s v=>
   cases v with
   | bool t=>cases t<;>rfl
   | _=>exact eZ none
  | _=>exact eZ none
 | _=>exact eZ none
theorem j9 (id:Nat) (a:IRC):run c (.block id a) st=bindK (run c a st) (blkK id):=by
 refine gu (fun r h => ?_) fun r h => ?_
 ·obtain ⟨n,hn⟩:=bo h
  have:=hn n (Nat.le_refl _)
  rw [←aO,cO,aO] at this
  cases h1:runC c n a st with
  | none=>rw [h1] at this;cases this
  | some p=>rw [h1] at this;rw [aS h1];exact this
 ·cases h1:run c a st with
  | none=>rw [h1] at h;cases h
  | some p=>
   rw [h1] at h
   obtain ⟨n1,hn1⟩:=bo h1
   refine aS (n:=n1) ?_
   rw [←aO,cO,aO,hn1 n1 (Nat.le_refl _)]
   exact h
theorem o9 {a:IRC} {n k:Nat} {r:Ex × St} (h:iter (runC c n a) k st=some r) : ∃ M,∀ m,M≤m→∀ k',k≤k'→iter (runC c m a) k' st=some r:=
 kD (g:=fun m=>runC c m a) (fun _ _ h=>kS h) h
theorem b6 (a:IRC):run c (.loop a) st=bindK (run c a st) fun p=>seqK p fun st'=>run c (.loop a) st':=by
 refine gu (fun r h => ?_) fun r h => ?_
 ·obtain ⟨n,hn⟩:=bo h
  have h2:=hn n (Nat.le_refl _)
  simp only [runC] at h2
  cases n with
  | zero=>cases h2
  | succ k=>
   simp only [iter] at h2
   split at h2
   ·rename_i st' h1
    rw [aS h1]
    obtain ⟨M,hM⟩:=o9 c st' h2
    exact aS (n:=max M k) (by simp only [runC];exact hM _ (by omega) _ (by omega))
   ·rename_i hne
    rw [aS h2]
    obtain ⟨e,s⟩:=r
    cases e with
    | normal=>exact absurd h2 (hne s)
    | _=>rfl
 ·cases h1:run c a st with
  | none=>rw [h1] at h;cases h
  | some p=>
   rw [h1] at h
   obtain ⟨n1,hn1⟩:=bo h1
   obtain ⟨e,s⟩:=p
   cases e with
   | normal=>
    obtain ⟨n2,hn2⟩:=bo (show run c (.loop a) s=some r from h)
    have h2:=hn2 n2 (Nat.le_refl _)
    simp only [runC] at h2
    obtain ⟨M,hM⟩:=o9 c s h2
    refine aS (n:=max n1 (max M n2)+1) ?_
    simp only [runC,iter,hn1 (max n1 (max M n2)+1) (by omega)]
    exact hM _ (by omega) _ (by omega)
   | _=>
    refine aS (n:=n1+1) ?_
    simp only [runC,iter,hn1 (n1+1) (by omega)]
    exact h
def gotK (l:Nat) (K:St→Option (Ex × St)):Ex × St→Option (Ex × St)
 | (.goto j,s)=>if j=l then K s else some (.goto j,s)
 | r=>some r
def scoK (l:Nat) (K:St→Option (Ex × St)):Ex × St→Option (Ex × St)
 | (.normal,s)=>K s
 | r=>gotK l K r
theorem me {a:IRC} {l n k:Nat} {r:Ex × St} (h:iterG (runC c n a) l k st=some r) : ∃ M,∀ m,M≤m→∀ k',k≤k'→iterG (runC c m a) l k' st=some r:=
 jm (g:=fun m=>runC c m a) (fun _ _ h=>kS h) h
theorem gC (l:Nat) (b:IRC):run c (.scope .skip l b) st=bindK (run c b st) (gotK l fun s=>run c (.scope .skip l b) s):=by
 refine gu (fun r h => ?_) fun r h => ?_
 ·obtain ⟨n,hn⟩:=bo h
  have h2:=hn n (Nat.le_refl _)
  simp only [runC] at h2
  cases n with
  | zero=>cases h2
  | succ k=>
   simp only [iterG] at h2
   split at h2
   ·rename_i j s h1
    rw [aS h1]
    simp only [bindK,gotK]
    split at h2
    ·rename_i e
     rw [if_pos e]
     obtain ⟨M,hM⟩:=me c s h2
     exact aS (n:=max M k) (by simp only [runC];exact hM _ (by omega) _ (by omega))
    ·rename_i e;rw [if_neg e];exact h2
   ·rename_i hne
    rw [aS h2]
    obtain ⟨e,s⟩:=r
    cases e with
    | goto j=>exact absurd h2 (hne j s)
    | _=>rfl
 ·cases h1:run c b st with
  | none=>rw [h1] at h;cases h
  | some p=>
   rw [h1] at h
   obtain ⟨n1,hn1⟩:=bo h1
   obtain ⟨e,s⟩:=p
   cases e with
   | goto j=>
    simp only [bindK,gotK] at h
    split at h
    ·rename_i e
     obtain ⟨n2,hn2⟩:=bo h
     have h2:=hn2 n2 (Nat.le_refl _)
     simp only [runC] at h2
     obtain ⟨M,hM⟩:=me c s h2
     refine aS (n:=max n1 (max M n2)+1) ?_
     simp only [runC,iterG,hn1 (max n1 (max M n2)+1) (by omega),if_pos e]
     exact hM _ (by omega) _ (by omega)
    ·rename_i e
     refine aS (n:=n1+1) ?_
     simp only [runC,iterG,hn1 (n1+1) (by omega),if_neg e]
     exact h
   | _=>
    refine aS (n:=n1+1) ?_
    simp only [runC,iterG,hn1 (n1+1) (by omega)]
    exact h
theorem hJ (a b:IRC) (l:Nat):run c (.scope a l b) st=bindK (run c a st) (scoK l fun s=>run c (.scope .skip l b) s):=by
 refine gu (fun r h => ?_) fun r h => ?_
 ·obtain ⟨n,hn⟩:=bo h
  have h2:=hn n (Nat.le_refl _)
  simp only [runC] at h2
  split at h2
  ·rename_i s h1
   rw [aS h1]
   exact aS (n:=n) (by simp only [runC];exact h2)
  ·rename_i j s h1
   rw [aS h1]
   simp only [bindK,scoK,gotK]
   split at h2
   ·rename_i e;rw [if_pos e];exact aS (n:=n) (by simp only [runC];exact h2)
   ·rename_i e;rw [if_neg e];exact h2
  ·rename_i h3 h4
   rw [aS h2]
   obtain ⟨e,s⟩:=r
   cases e with
   | normal=>exact absurd h2 (h3 s)
   | goto j=>exact absurd h2 (h4 j s)
   | _=>rfl
 ·cases h1:run c a st with
  | none=>rw [h1] at h;cases h
  | some p=>
   rw [h1] at h
   obtain ⟨n1,hn1⟩:=bo h1
   obtain ⟨e,s⟩:=p
   have key : ∀ {s},run c (.scope .skip l b) s=some r→∃ n,∀ m,n≤m→iterG (runC c m b) l m s=some r:=fun h=>by
    obtain ⟨n2,hn2⟩:=bo h
    exact ⟨n2,fun m hm=>by have:=hn2 m hm;simp only [runC] at this;exact this⟩
   cases e with
   | normal=>
    obtain ⟨n2,hn2⟩:=key (show run c (.scope .skip l b) s=some r from h)
    refine aS (n:=max n1 n2) ?_
    simp only [runC,hn1 (max n1 n2) (by omega)]
    exact hn2 _ (by omega)
   | goto j=>
    simp only [bindK,scoK,gotK] at h
    split at h
    ·rename_i e
     obtain ⟨n2,hn2⟩:=key h
     refine aS (n:=max n1 n2) ?_
     simp only [runC,hn1 (max n1 n2) (by omega),if_pos e]
     exact hn2 _ (by omega)
    ·rename_i e
     refine aS (n:=n1) ?_
     simp only [runC,hn1 n1 (Nat.le_refl _),if_neg e]
     exact h
   | _=>
    refine aS (n:=n1) ?_
    simp only [runC,hn1 n1 (Nat.le_refl _)]
    exact h
end
noncomputable def runL (O:Oracle) (G:Nat→Option (List PV)) (f:IRF) (args:List LV) (H:Heap) (nx:Nat):Option (LV × Upd × List (Option Obj)):=
 if args.length=f.params.length then bindK (run ⟨O,G,H,nx⟩ f.body ⟨f.params.zip args,⟨[],[]⟩⟩) (finK f H nx) else none
theorem rq {O:Oracle} {G:Nat→Option (List PV)} {f:IRF} {args:List LV} {H:Heap} {nx:Nat} {r:LV × Upd × List (Option Obj)} (h:runL O G f args H nx=some r) : ∃ n,runF O G n f args H nx=some r:=by
 unfold runL at h
 split at h
 case isFalse=>cases h
 rename_i hl
 cases h1:run ⟨O,G,H,nx⟩ f.body ⟨f.params.zip args,⟨[],[]⟩⟩ with
 | none=>rw [h1] at h;cases h
 | some p=>
  rw [h1] at h
  obtain ⟨n,hn⟩:=bo h1
  refine ⟨n,?_⟩
  rw [runF_I,if_pos hl,aO,hn n (Nat.le_refl _)]
  exact h
def outW (l:List (Option Obj)) (q:LV × Upd × List (Option Obj)):Option (LV × List (Option Obj)):=some (q.1,outU q.2.1 0 l++q.2.2)
def outP (q:LV × Upd × List (Option Obj)):Option LV:=match q with
 | (r,[],[])=>some r
 | _=>none
section
variable {C:FuncId→Nat} {F:FuncId→Option IRF} {G:Nat→Option (List PV)} {E:Oracle} {f:FuncId} {ir:IRF} {a:List LV} {H:Heap} {nx:Nat} {l:List (Option Obj)}
theorem mB (hf:F f=some ir) {r:LV × Upd × List (Option Obj)} (h:runL (om C F G E) G ir a H nx=some r):om0 C F G E f a H nx=some r:=by
 obtain ⟨n,hn⟩:=rq h
 exact kH hf n hn
theorem aH (hf:F f=some ir) {x:LV × List (Option Obj)} (h:bindK (runL (om C F G E) G ir a (hpL l) l.length) (outW l)=some x):ansW (om0 C F G E) f a l=some x:=by
 cases h1:runL (om C F G E) G ir a (hpL l) l.length with
 | none=>rw [h1] at h;cases h
 | some q=>
  rw [h1] at h
  unfold ansW
  rw [mB hf h1]
  exact h
theorem bV (hf:F f=some ir) {x:LV} (h:bindK (runL (om C F G E) G ir a (hpL l) l.length) outP=some x):ansP (om0 C F G E) f a l=some x:=by
 cases h1:runL (om C F G E) G ir a (hpL l) l.length with
 | none=>rw [h1] at h;cases h
 | some q=>
  rw [h1] at h
  unfold ansP
  rw [mB hf h1]
  obtain ⟨r,u,n⟩:=q
  cases u<;>cases n<;>first|exact h|cases h
end
theorem cz {C:FuncId→Nat} {F:FuncId→Option IRF} {G:Nat→Option (List PV)} {E:Oracle} {f:FuncId} {a:List LV} {l:List (Option Obj)} {n:Nat} {r:LV} (h:evalN C F G E n f a (hpL l) l.length=some (r,[],[])):ansP (om0 C F G E) f a l=some r:=by
 unfold ansP;rw [er h]
theorem xq (s:List Nat) (n:Nat) (x:PV):bk s n (.p x) = .p x:=rfl
theorem oB (s:List Nat) (n:Nat):bk s n .junk = .junk:=rfl
theorem lj (s:List Nat) (n:Nat):bkO s n none=none:=rfl
theorem li (s:List Nat) (n:Nat) (b:ByteArray) (q:Nat):bkO s n (some (.iter b q))=some (.iter b q):=rfl
theorem vK (g:List LV→List (Option Obj)→Option (LV × List (Option Obj))) (w:Bool) (args:List LV) (H:Heap) (nx:Nat):can g w args H nx=
  bindK (reach H 1000 (ids.idsL args) []) fun seen=>bindK (ren.go 0 seen args) fun a=>bindK (renH H seen seen) fun l=>bindK (g a l) fun q=>
   some (bk seen nx q.1,if w then seen.zip (q.2.map (bkO seen nx)) else [],if w then (q.2.drop seen.length).map (bkO seen nx) else []):=by
 unfold can bindK
 cases reach H 1000 (ids.idsL args) [] with
 | none=>rfl
 | some seen=>
  simp only []
  cases ren.go 0 seen args with
  | none=>rfl
  | some a=>
   simp only []
   cases renH H seen seen with
   | none=>rfl
   | some l=>
    simp only []
    cases g a l with
    | none=>rfl
    | some q=>rfl
end Go.Sx
end

section
namespace Go.Sx
open Go
@[congr high] theorem iteK_congr2 {α:Type} {t t':Bool} {a a' b b':α} (h:t=t') (ha:t'=true→a=a') (hb:t'=false→b=b'):iteK t a b=iteK t' a' b':=by
 subst h
 cases t with
 | true=>rw [cT,cT,ha rfl]
 | false=>rw [cy,cy,hb rfl]
section
variable (c:Ctx) (dr:Bool) (env:Env) (h:Hp)
theorem vM (x:Opd):evOp c dr env h (.mv x)=some ⟨opd c env x,h,[],false⟩:=rfl
theorem lJ (x:Opd):evOp c dr env h (.box true x)=bindK (opd c env x).cells fun cs=>bindK (allP cs) fun ps=>some ⟨.p (.imm ps 0),h,[],false⟩:=by
 simp only [evOp];unfold bindK
 repeat' split
 all_goals simp_all
theorem lI (x:Opd):evOp c dr env h (.box false x)=bindK (opd c env x).cells fun cs=>some ⟨.ref (c.nx+h.new.length) 0,push h (.cells cs),[],false⟩:=by
 simp only [evOp];unfold bindK
 repeat' split
 all_goals simp_all
theorem jc (z:List PV):evOp c dr env h (.alloc true z)=some ⟨.p (.imm z 0),h,[],false⟩:=rfl
theorem jb (z:List PV):evOp c dr env h (.alloc false z)=some ⟨.ref (c.nx+h.new.length) 0,push h (.cells (z.map .p)),[],false⟩:=rfl
theorem lK (z:List PV) (ps:List (Nat × Nat × Opd)):evOp c dr env h (.build z ps)=bindK (fillP (z.map .p) (ps.map fun (o,s,x)=>(o,s,opd c env x))) fun cs=>some ⟨mkAgg cs,h,[],false⟩:=by
 simp only [evOp];unfold bindK
 repeat' split
 all_goals simp_all
theorem jW (n sz:Nat) (z:List PV) (ps:List (Nat × Nat × Opd)):evOp c dr env h (.mkSl true n sz z ps)=bindK (fillP (z.map .p) (ps.map fun (o,s,x)=>(o,s,opd c env x))) fun cs=>bindK (allP cs) fun q=>some ⟨.p (.sl q n sz true),h,[],false⟩:=by
 simp only [evOp];unfold bindK
 repeat' split
 all_goals simp_all
theorem jV (n sz:Nat) (z:List PV) (ps:List (Nat × Nat × Opd)):evOp c dr env h (.mkSl false n sz z ps)=bindK (fillP (z.map .p) (ps.map fun (o,s,x)=>(o,s,opd c env x))) fun cs=>some ⟨.arr (c.nx+h.new.length) 0 n sz n true,push h (.cells cs),[],false⟩:=by
 simp only [evOp];unfold bindK
 repeat' split
 all_goals simp_all
def cellsK {α:Type} (o:Option Obj) (k:List LV→Option α):Option α:=match o with
 | some (.cells cs)=>k cs
 | _=>none
theorem ig {α:Type} (cs:List LV) (k:List LV→Option α):cellsK (some (.cells cs)) k=k cs:=rfl
@[congr] theorem cellsK_congr {α:Type} {o o':Option Obj} {k:List LV→Option α} (e:o=o'):cellsK o k=cellsK o' k:=by rw [e]
def ldK (sz:Nat) (ag:Bool):LV→Option Res
 | .p (.imm cs off)=>bindK (rd (cs.map .p) off sz ag) fun v=>some ⟨v,h,[],false⟩
 | .ref id off=>cellsK (look c.H c.nx h id) fun cs=>bindK (rd cs off sz ag) fun v=>some ⟨v,h,[id],false⟩
 | _=>none
theorem oM (sz:Nat) (ag:Bool) (x:Opd):evOp c dr env h (.load sz ag x)=ldK c h sz ag (opd c env x):=by
 simp only [evOp];unfold ldK
 unfold bindK cellsK
 repeat' split
 all_goals simp_all
theorem pd (sz:Nat) (ag:Bool) (cs:List PV) (off:Nat):ldK c h sz ag (.p (.imm cs off))=bindK (rd (cs.map .p) off sz ag) fun v=>some ⟨v,h,[],false⟩:=rfl
theorem pf (sz:Nat) (ag:Bool) (id off:Nat):ldK c h sz ag (.ref id off)=cellsK (look c.H c.nx h id) fun cs=>bindK (rd cs off sz ag) fun v=>some ⟨v,h,[id],false⟩:=rfl
def stK (sz:Nat) (x:LV):LV→Option Res
 | .ref id off=>bindK x.cells fun vs=>cellsK (look c.H c.nx h id) fun cs=>
   if vs.length=sz∧off+sz≤cs.length then some ⟨.undef,setObj c.nx h id (some (.cells (splice cs off vs))),[id],true⟩ else none
 | _=>none
theorem lU (sz:Nat) (a x:Opd):evOp c dr env h (.store sz a x)=stK c h sz (opd c env x) (opd c env a):=by
 simp only [evOp];unfold stK
 unfold bindK cellsK
 repeat' split
 all_goals simp_all
theorem pT (sz:Nat) (x:LV) (id off:Nat):stK c h sz x (.ref id off)=bindK x.cells fun vs=>cellsK (look c.H c.nx h id) fun cs=>
  if vs.length=sz∧off+sz≤cs.length then some ⟨.undef,setObj c.nx h id (some (.cells (splice cs off vs))),[id],true⟩ else none:=rfl
def nkK:LV→Option Res
 | .p (.imm cs o)=>some ⟨.p (.imm cs o),h,[],false⟩
 | .ref id o=>some ⟨.ref id o,h,[],false⟩
 | .fn f a b=>some ⟨.fn f a b,h,[],false⟩
 | _=>none
theorem lO (x:Opd):evOp c dr env h (.nilCk x)=nkK h (opd c env x):=by
 simp only [evOp];unfold nkK
 try unfold bindK
 repeat' split
 all_goals simp_all
theorem pj (cs:List PV) (o:Nat):nkK h (.p (.imm cs o))=some ⟨.p (.imm cs o),h,[],false⟩:=rfl
theorem pm (id o:Nat):nkK h (.ref id o)=some ⟨.ref id o,h,[],false⟩:=rfl
theorem sZ (f:FuncId) (a b:List LV):nkK h (.fn f a b)=some ⟨.fn f a b,h,[],false⟩:=rfl
theorem sn (b:BinOp) (x y:Opd):evOp c dr env h (.bin b x y)=bindK (binL b (opd c env x) (opd c env y)) fun v=>some ⟨v,h,[],false⟩:=by
 simp only [evOp];unfold bindK
 repeat' split
 all_goals simp_all
theorem oL (k:EK) (x y:Opd):evOp c dr env h (.eq true k x y)=bindK (eqL k (opd c env x) (opd c env y)) fun t=>some ⟨.bool (!t),h,[],false⟩:=by
 simp only [evOp];unfold bindK
 repeat' split
 all_goals simp_all
theorem oJ (k:EK) (x y:Opd):evOp c dr env h (.eq false k x y)=bindK (eqL k (opd c env x) (opd c env y)) fun t=>some ⟨.bool t,h,[],false⟩:=by
 simp only [evOp];unfold bindK
 repeat' split
 all_goals simp_all
theorem vN (u:UnOp) (x:Opd):evOp c dr env h (.un u x)=bindK (unL u (opd c env x)) fun v=>some ⟨v,h,[],false⟩:=by
 simp only [evOp];unfold bindK
 repeat' split
 all_goals simp_all
def intK {α:Type} (f:IntKind→Int→Option α):LV→Option α
 | .p (.s (.int k n))=>f k n
 | _=>none
theorem ma {α:Type} (f:IntKind→Int→Option α) (k:IntKind) (n:Int):intK f (.p (.s (.int k n)))=f k n:=rfl
theorem sr (k:IntKind) (x:Opd):evOp c dr env h (.cvt k x)=intK (fun _ n=>some ⟨.int k (k.wrap n),h,[],false⟩) (opd c env x):=by
 simp only [evOp];unfold intK
 try unfold bindK
 repeat' split
 all_goals simp_all
def strK {α:Type} (f:ByteArray→Option α):LV→Option α
 | .p (.s (.string b))=>f b
 | _=>none
theorem mZ {α:Type} (f:ByteArray→Option α) (b:ByteArray):strK f (.p (.s (.string b)))=f b:=rfl
theorem oQ (x:Opd):evOp c dr env h (.strC x)=strK (fun b=>some ⟨.str b,h,[],false⟩) (opd c env x):=by
 simp only [evOp];unfold strK
 try unfold bindK
 repeat' split
 all_goals simp_all
theorem lQ (x:Opd):evOp c dr env h (.s2b true x)=strK (fun b=>some ⟨.p (.sl (b.data.toList.map fun x=>.s (.int .u8 x.toNat)) b.size 1 false),h,[],false⟩) (opd c env x):=by
 simp only [evOp];unfold strK
 try unfold bindK
 repeat' split
 all_goals simp_all
theorem lP (x:Opd):evOp c dr env h (.s2b false x)=strK (fun b=>some ⟨.arr (c.nx+h.new.length) 0 b.size 1 b.size false,push h (.cells (b.data.toList.map fun x=>.int .u8 x.toNat)),[],false⟩) (opd c env x):=by
 simp only [evOp];unfold strK
 try unfold bindK
 repeat' split
 all_goals simp_all
def b2sK:LV→Option Res
 | .p (.s (.string _))=>none
 | v=>bindK (slCells c.H c.nx h v) fun q=>if q.1.length=q.2 then bindK (bytesL q.1) fun l=>some ⟨.str ⟨l.toArray⟩,h,ids v,false⟩ else none
theorem sk (x:Opd):evOp c dr env h (.b2s x)=b2sK c h (opd c env x):=by
 simp only [evOp];unfold b2sK bindK
 generalize opd c env x=v
 cases v with
 | p v=>cases v with
  | s v=>cases v<;>simp only []<;>(repeat' split)<;>simp_all
  | _=>simp only []<;>(repeat' split)<;>simp_all
 | _=>simp only []<;>(repeat' split)<;>simp_all
theorem oA (cs:List PV) (n sz:Nat) (fl:Bool):b2sK c h (.p (.sl cs n sz fl))=if (cs.map LV.p).length=n then bindK (bytesL (cs.map .p)) fun l=>some ⟨.str ⟨l.toArray⟩,h,[],false⟩ else none:=rfl
theorem lh:b2sK c h (.p (.s (.slice none 0 0)))=some ⟨.str ⟨#[]⟩,h,[],false⟩:=rfl
theorem lg (id off len sz cp:Nat) (ex:Bool):b2sK c h (.arr id off len sz cp ex)=bindK (slCells c.H c.nx h (.arr id off len sz cp ex)) fun q=>if q.1.length=q.2 then bindK (bytesL q.1) fun l=>some ⟨.str ⟨l.toArray⟩,h,[id],false⟩ else none:=rfl
def faK (off:Nat):LV→Option Res
 | .p (.imm cs o)=>some ⟨.p (.imm cs (o+off)),h,[],false⟩
 | .ref id o=>some ⟨.ref id (o+off),h,[],false⟩
 | _=>none
theorem gc (off:Nat) (x:Opd):evOp c dr env h (.fieldAddr off x)=faK h off (opd c env x):=by
 simp only [evOp];unfold faK
 try unfold bindK
 repeat' split
 all_goals simp_all
theorem oS (off:Nat) (cs:List PV) (o:Nat):faK h off (.p (.imm cs o))=some ⟨.p (.imm cs (o+off)),h,[],false⟩:=rfl
theorem oT (off id o:Nat):faK h off (.ref id o)=some ⟨.ref id (o+off),h,[],false⟩:=rfl
def fiK (off sz:Nat) (ag:Bool):LV→Option Res
 | .p (.agg cs)=>bindK (rd (cs.map .p) off sz ag) fun v=>some ⟨v,h,[],false⟩
 | .agg cs=>bindK (rd cs off sz ag) fun v=>some ⟨v,h,[],false⟩
 | _=>none
theorem lL (off sz:Nat) (ag:Bool) (x:Opd):evOp c dr env h (.field off sz ag x)=fiK h off sz ag (opd c env x):=by
 simp only [evOp];unfold fiK
 try unfold bindK
 repeat' split
 all_goals simp_all
theorem vP (off sz:Nat) (ag:Bool) (cs:List PV):fiK h off sz ag (.p (.agg cs))=bindK (rd (cs.map .p) off sz ag) fun v=>some ⟨v,h,[],false⟩:=rfl
theorem vO (off sz:Nat) (ag:Bool) (cs:List LV):fiK h off sz ag (.agg cs)=bindK (rd cs off sz ag) fun v=>some ⟨v,h,[],false⟩:=rfl
def iaK (sz:Nat) (n:Option Nat):LV→Option Res
 | .p (.sl cs len sz' _)=>bindK n fun n=>if n<len∧sz'=sz then some ⟨.p (.imm cs (n*sz)),h,[],false⟩ else none
 | .arr id off len sz' _ _=>bindK n fun n=>if n<len∧sz'=sz then some ⟨.ref id (off+n*sz),h,[],false⟩ else none
 | _=>none
theorem jR (sz:Nat) (x i:Opd):evOp c dr env h (.idxASl sz x i)=iaK h sz (natL (opd c env i)) (opd c env x):=by
 simp only [evOp];unfold iaK
 generalize opd c env x=v;generalize natL (opd c env i)=n
 cases v with
 | p v=>cases v<;>cases n<;>rfl
 | _=>cases n<;>rfl
theorem sK (sz:Nat) (n:Option Nat) (cs:List PV) (len sz':Nat) (fl:Bool):iaK h sz n (.p (.sl cs len sz' fl))=bindK n fun n=>if n<len∧sz'=sz then some ⟨.p (.imm cs (n*sz)),h,[],false⟩ else none:=rfl
theorem o6 (sz:Nat) (n:Option Nat) (id off len sz' cp:Nat) (ex:Bool):iaK h sz n (.arr id off len sz' cp ex)=bindK n fun n=>if n<len∧sz'=sz then some ⟨.ref id (off+n*sz),h,[],false⟩ else none:=rfl
def iraK (m sz:Nat) (n:Option Nat):LV→Option Res
 | .p (.imm cs off)=>bindK n fun n=>if n<m then some ⟨.p (.imm cs (off+n*sz)),h,[],false⟩ else none
 | .ref id off=>bindK n fun n=>if n<m then some ⟨.ref id (off+n*sz),h,[],false⟩ else none
 | _=>none
theorem jf (m sz:Nat) (x i:Opd):evOp c dr env h (.idxAArr m sz x i)=iraK h m sz (natL (opd c env i)) (opd c env x):=by
 simp only [evOp];unfold iraK
 generalize opd c env x=v;generalize natL (opd c env i)=n
 cases v with
 | p v=>cases v<;>cases n<;>rfl
 | _=>cases n<;>rfl
theorem mb (m sz:Nat) (n:Option Nat) (cs:List PV) (off:Nat):iraK h m sz n (.p (.imm cs off))=bindK n fun n=>if n<m then some ⟨.p (.imm cs (off+n*sz)),h,[],false⟩ else none:=rfl
theorem mc (m sz:Nat) (n:Option Nat) (id off:Nat):iraK h m sz n (.ref id off)=bindK n fun n=>if n<m then some ⟨.ref id (off+n*sz),h,[],false⟩ else none:=rfl
theorem jT (x i:Opd):evOp c dr env h (.idxStr x i)=strK (fun b=>bindK (natL (opd c env i)) fun n=>bindK b.data[n]? fun u=>some ⟨.int .u8 u.toNat,h,[],false⟩) (opd c env x):=by
 simp only [evOp];unfold strK
 try unfold bindK
 repeat' split
 all_goals simp_all
def irK (m sz:Nat) (ag:Bool) (n:Option Nat):LV→Option Res
 | .p (.agg cs)=>bindK n fun n=>if n<m then bindK (rd (cs.map .p) (n*sz) sz ag) fun v=>some ⟨v,h,[],false⟩ else none
 | _=>none
theorem jS (m sz:Nat) (ag:Bool) (x i:Opd):evOp c dr env h (.idxArr m sz ag x i)=irK h m sz ag (natL (opd c env i)) (opd c env x):=by
 simp only [evOp];unfold irK
 generalize opd c env x=v;generalize natL (opd c env i)=n
 cases v with
 | p v=>
  cases v with
  | agg cs=>
   cases n with
   | none=>rfl
   | some n=>
    simp only [bindK]
    split
    ·cases rd (cs.map .p) (n*sz) sz ag<;>rfl
    ·rfl
  | _=>cases n<;>rfl
 | _=>cases n<;>rfl
theorem vV (m sz:Nat) (ag:Bool) (n:Option Nat) (cs:List PV):irK h m sz ag n (.p (.agg cs))=bindK n fun n=>if n<m then bindK (rd (cs.map .p) (n*sz) sz ag) fun v=>some ⟨v,h,[],false⟩ else none:=rfl
theorem lS (x:Opd) (lo hi:Option Opd):evOp c dr env h (.slStr x lo hi)=strK (fun b=>bindK (optMap (opd c env) lo) fun l=>bindK (optMap (opd c env) hi) fun m=>
  if l.getD 0≤m.getD b.size∧m.getD b.size≤b.size then some ⟨.str (b.extract (l.getD 0) (m.getD b.size)),h,[],false⟩ else none) (opd c env x):=by
 simp only [evOp];unfold strK
 try unfold bindK
 repeat' split
 all_goals simp_all
theorem oO (sz:Nat) (x:Opd) (lo hi mx:Option Opd):evOp c dr env h (.slSl sz x lo hi mx)=bindK (optMap (opd c env) lo) fun l=>bindK (optMap (opd c env) hi) fun m=>bindK (optMap (opd c env) mx) fun n=>bindK (sliceO sz (opd c env x) l m n) fun v=>some ⟨v,h,[],false⟩:=by
 simp only [evOp];unfold bindK
 repeat' split
 all_goals simp_all
theorem lN (x:Opd):evOp c dr env h (.len true x)=strK (fun b=>some ⟨.int .i64 b.size,h,[],false⟩) (opd c env x):=by
 simp only [evOp];unfold strK
 try unfold bindK
 repeat' split
 all_goals simp_all
def lsK:LV→Option Res
 | .p (.s (.slice none n _))=>some ⟨.int .i64 n,h,[],false⟩
 | .p (.sl _ n _ _)=>some ⟨.int .i64 n,h,[],false⟩
 | .arr _ _ n _ _ _=>some ⟨.int .i64 n,h,[],false⟩
 | _=>none
theorem lM (x:Opd):evOp c dr env h (.len false x)=lsK h (opd c env x):=by
 simp only [evOp];unfold lsK
 cases opd c env x with
 | p v=>cases v with
  | s v=>cases v with
   | slice a _ _=>cases a<;>rfl
   | _=>rfl
  | _=>rfl
 | _=>rfl
theorem pi (n m:Nat):lsK h (.p (.s (.slice none n m)))=some ⟨.int .i64 n,h,[],false⟩:=rfl
theorem sT (cs:List PV) (n sz:Nat) (fl:Bool):lsK h (.p (.sl cs n sz fl))=some ⟨.int .i64 n,h,[],false⟩:=rfl
theorem ph (id off n sz cp:Nat) (ex:Bool):lsK h (.arr id off n sz cp ex)=some ⟨.int .i64 n,h,[],false⟩:=rfl
def ap0 (y:LV):LV→Option Res
 | .p (.s (.slice none 0 0))=>some ⟨.p (.s (.slice none 0 0)),h,ids y,false⟩
 | .p (.sl cs n sz fl)=>some ⟨.p (.sl cs n sz fl),h,ids y,false⟩
 | .arr id off n sz cp ex=>some ⟨.arr id off n sz cp ex,h,ids y,false⟩
 | _=>none
theorem ou (y:LV):ap0 h y (.p (.s (.slice none 0 0)))=some ⟨.p (.s (.slice none 0 0)),h,ids y,false⟩:=rfl
theorem rF (y:LV) (cs:List PV) (n sz:Nat) (fl:Bool):ap0 h y (.p (.sl cs n sz fl))=some ⟨.p (.sl cs n sz fl),h,ids y,false⟩:=rfl
theorem ot (y:LV) (id off n sz cp:Nat) (ex:Bool):ap0 h y (.arr id off n sz cp ex)=some ⟨.arr id off n sz cp ex,h,ids y,false⟩:=rfl
def apN (sz bytes:Nat) (y:LV) (yc:List LV) (n:Nat):LV→Option Res
 | .p (.s (.slice none 0 0))=>if n*bytes≤2^40 then some ⟨.arr (c.nx+h.new.length) 0 n sz n false,push h (.cells yc),ids y,false⟩ else none
 | .p (.sl cs len sz' full)=>if full∧cs.length=len*sz∧sz'=sz∧(len+n)*bytes≤2^40 then
     some ⟨.arr (c.nx+h.new.length) 0 (len+n) sz (len+n) false,push h (.cells (cs.map .p++yc)),ids y,false⟩
    else none
 | .arr id off len sz' cp ex=>cellsK (look c.H c.nx h id) fun cs=>
     if sz'≠sz∨(len+n)*bytes>2^40∨off+len*sz>cs.length then none
     else if ex=true∧cp=len then
      some ⟨.arr (c.nx+h.new.length) 0 (len+n) sz (len+n) false,push h (.cells ((cs.drop off).take (len*sz)++yc)),id::ids y,false⟩
     else if off+len*sz=cs.length then
      some ⟨.arr (c.nx+h.new.length) 0 (len+n) sz (len+n) false,push (setObj c.nx h id none) (.cells (cs.drop off++yc)),id::ids y,true⟩
     else if off+(len+n)*sz≤cs.length∧len+n≤cp then
      some ⟨.arr id off (len+n) sz cp ex,setObj c.nx h id (some (.cells (splice cs (off+len*sz) yc))),id::ids y,true⟩
     else none
 | _=>none
theorem sj (sz bytes:Nat) (x y:Opd):evOp c dr env h (.app sz bytes x y)=bindK (slCells c.H c.nx h (opd c env y)) fun q=>
  if q.1.length=q.2*sz then (if q.2=0 then ap0 h (opd c env y) (opd c env x) else apN c h sz bytes (opd c env y) q.1 q.2 (opd c env x)) else none:=by
 simp only [evOp,appO]
 generalize opd c env y=y
 generalize opd c env x=x
 cases slCells c.H c.nx h y with
 | none=>rfl
 | some q=>
  obtain ⟨yc,n⟩:=q
  simp only [bindK]
  by_cases h1:yc.length=n*sz
  ·rw [if_neg (by simp [h1]),if_pos h1]
   by_cases h2:n=0
   ·rw [if_pos h2,if_pos h2]
    cases x with
    | p v=>cases v with
     | s v=>cases v with
      | slice a m k=>cases a<;>cases m<;>cases k<;>rfl
      | _=>rfl
     | _=>rfl
    | _=>rfl
   ·rw [if_neg h2,if_neg h2]
    unfold apN cellsK
    cases x with
    | arr id off len sz' cp ex=>
     simp only []
     cases look c.H c.nx h id with
     | none=>rfl
     | some o=>cases o<;>rfl
    | p v=>
     cases v with
     | s v=>cases v with
      | slice a m k=>cases a<;>cases m<;>cases k<;>rfl
      | _=>rfl
     | _=>rfl
    | _=>rfl
  ·rw [if_pos h1,if_neg h1]
theorem ow (sz bytes:Nat) (y:LV) (yc:List LV) (n:Nat):apN c h sz bytes y yc n (.p (.s (.slice none 0 0)))=if n*bytes≤2^40 then some ⟨.arr (c.nx+h.new.length) 0 n sz n false,push h (.cells yc),ids y,false⟩ else none:=rfl
theorem rG (sz bytes:Nat) (y:LV) (yc:List LV) (n:Nat) (cs:List PV) (len sz':Nat) (full:Bool):apN c h sz bytes y yc n (.p (.sl cs len sz' full))=if full∧cs.length=len*sz∧sz'=sz∧(len+n)*bytes≤2^40 then
  some ⟨.arr (c.nx+h.new.length) 0 (len+n) sz (len+n) false,push h (.cells (cs.map .p++yc)),ids y,false⟩ else none:=rfl
theorem ov (sz bytes:Nat) (y:LV) (yc:List LV) (n:Nat) (id off len sz' cp:Nat) (ex:Bool):apN c h sz bytes y yc n (.arr id off len sz' cp ex)=cellsK (look c.H c.nx h id) fun cs=>
     if sz'≠sz∨(len+n)*bytes>2^40∨off+len*sz>cs.length then none
     else if ex=true∧cp=len then
      some ⟨.arr (c.nx+h.new.length) 0 (len+n) sz (len+n) false,push h (.cells ((cs.drop off).take (len*sz)++yc)),id::ids y,false⟩
     else if off+len*sz=cs.length then
      some ⟨.arr (c.nx+h.new.length) 0 (len+n) sz (len+n) false,push (setObj c.nx h id none) (.cells (cs.drop off++yc)),id::ids y,true⟩
     else if off+(len+n)*sz≤cs.length∧len+n≤cp then
      some ⟨.arr id off (len+n) sz cp ex,setObj c.nx h id (some (.cells (splice cs (off+len*sz) yc))),id::ids y,true⟩
     else none:=rfl
theorem jU (mx:Bool) (x:Opd) (xs:List Opd):evOp c dr env h (.minmax mx (x::xs))=bindK (mmL mx (opd c env x) (xs.map (opd c env))) fun v=>some ⟨v,h,[],false⟩:=by
 simp only [evOp];unfold bindK
 repeat' split
 all_goals simp_all
def callK (f:FuncId) (args:List LV):Option Res:=
 bindK (c.O f args (look c.H c.nx h) (c.nx+h.new.length)) fun q=>some ⟨q.1,⟨(setAll c.nx h q.2.1).upd,(setAll c.nx h q.2.1).new++q.2.2⟩,[],!q.2.1.isEmpty⟩
def callQ (f:FuncId) (args:List LV):Option Res:=
 bindK (reach (look c.H c.nx h) 1000 (ids.idsL args) []) fun S=>if (ids.idsL args++S.flatMap (fun id=>match look c.H c.nx h id with
    | some o=>o.ids
    | none=>[])).all (fun id=>decide (id<c.nx+h.new.length)) then
  bindK (c.O f args (fun id=>if S.contains id then look c.H c.nx h id else none) (c.nx+h.new.length)) fun q=>some ⟨q.1,⟨(setAll c.nx h q.2.1).upd,(setAll c.nx h q.2.1).new++q.2.2⟩,S,!q.2.1.isEmpty⟩ else none
theorem kg (f:FuncId) (args:List LV):callO c false h f args=callK c h f args:=by
 unfold callO callK bindK
 simp only [Bool.false_eq_true,if_false]
 cases c.O f args (look c.H c.nx h) (c.nx+h.new.length)<;>rfl
theorem gb (f:FuncId) (args:List LV):callO c true h f args=callQ c h f args:=by
 unfold callO callQ bindK
 simp only [if_true]
 cases reach (look c.H c.nx h) 1000 (ids.idsL args) [] with
 | none=>rfl
 | some S=>
  simp only []
  split
  ·rename_i h1
   refine Eq.trans ?_ (if_pos h1).symm
   cases c.O f args (fun id=>if S.contains id then look c.H c.nx h id else none) (c.nx+h.new.length)<;>rfl
  ·rename_i h1
   exact (if_neg h1).symm
theorem jP (f:FuncId) (args:List Opd):evOp c false env h (.call f args)=callK c h f (args.map (opd c env)):=kg c h f _
theorem jQ (f:FuncId) (args:List Opd):evOp c true env h (.call f args)=callQ c h f (args.map (opd c env)):=gb c h f _
def fnK {α:Type} (k:FuncId→List LV→List LV→Option α):LV→Option α
 | .fn f a b=>k f a b
 | _=>none
theorem sC {α:Type} (k:FuncId→List LV→List LV→Option α) (f:FuncId) (a b:List LV):fnK k (.fn f a b)=k f a b:=rfl
theorem jd (x:Opd) (args:List Opd):evOp c false env h (.callv x args)=fnK (fun f a b=>callK c h f (a++args.map (opd c env)++b)) (opd c env x):=by
 simp only [evOp,kg,gb];unfold fnK
 repeat' split
 all_goals simp_all
theorem je (x:Opd) (args:List Opd):evOp c true env h (.callv x args)=fnK (fun f a b=>callQ c h f (a++args.map (opd c env)++b)) (opd c env x):=by
 simp only [evOp,kg,gb];unfold fnK
 repeat' split
 all_goals simp_all
def exK (i:Nat):LV→Option Res
 | .tuple vs=>bindK vs[i]? fun v=>some ⟨v,h,[],false⟩
 | _=>none
theorem ss (x:Opd) (i:Nat):evOp c dr env h (.ext x i)=exK h i (opd c env x):=by
 simp only [evOp];unfold exK
 try unfold bindK
 repeat' split
 all_goals simp_all
theorem jX (i:Nat) (vs:List LV):exK h i (.tuple vs)=bindK vs[i]? fun v=>some ⟨v,h,[],false⟩:=rfl
theorem oN (f:FuncId) (a b:List Opd):evOp c dr env h (.mkFn f a b)=some ⟨.fn f (a.map (opd c env)) (b.map (opd c env)),h,[],false⟩:=rfl
theorem sw (x:Opd):evOp c dr env h (.rng x)=strK (fun b=>some ⟨.ref (c.nx+h.new.length) 0,push h (.iter b 0),[],false⟩) (opd c env x):=by
 simp only [evOp];unfold strK
 repeat' split
 all_goals simp_all
def nxO (id:Nat):Option Obj→Option Res
 | some (.iter b q)=>if q<b.size then some ⟨.tuple [.bool true,.int .i64 q,.int .i32 (Utf8.decode b q).1],setObj c.nx h id (some (.iter b (q+(Utf8.decode b q).2))),[id],true⟩ else some ⟨.tuple [.bool false],h,[id],false⟩
 | _=>none
theorem mA (id:Nat) (b:ByteArray) (q:Nat):nxO c h id (some (.iter b q))=if q<b.size then some ⟨.tuple [.bool true,.int .i64 q,.int .i32 (Utf8.decode b q).1],setObj c.nx h id (some (.iter b (q+(Utf8.decode b q).2))),[id],true⟩ else some ⟨.tuple [.bool false],h,[id],false⟩:=rfl
def nxK:LV→Option Res
 | .ref id 0=>nxO c h id (look c.H c.nx h id)
 | _=>none
theorem pu (id:Nat):nxK c h (.ref id 0)=nxO c h id (look c.H c.nx h id):=rfl
theorem sv (x:Opd):evOp c dr env h (.nxt x)=nxK c h (opd c env x):=by
 simp only [evOp];unfold nxK
 generalize opd c env x=v
 cases v with
 | ref id off=>
  cases off with
  | zero=>
   simp only []
   unfold nxO
   cases look c.H c.nx h id with
   | none=>rfl
   | some o=>cases o<;>rfl
  | succ n=>rfl
 | p v=>rfl
 | _=>rfl
theorem jg (sz bytes:Nat) (z:List PV) (l m:Opd):evOp c dr env h (.mkSlice sz bytes z l m)=bindK (natL (opd c env l)) fun len=>bindK (natL (opd c env m)) fun cap=>
  if len≤cap∧cap*bytes≤2^40∧cap<2^62∧z.length=sz then some ⟨.arr (c.nx+h.new.length) 0 len sz cap true,push h (.cells ((List.replicate len z).flatten.map .p)),[],false⟩ else none:=by
 simp only [evOp];unfold bindK
 cases natL (opd c env l) with
 | none=>rfl
 | some a=>cases natL (opd c env m)<;>rfl
def cpK (sz:Nat) (y:LV):LV→Option Res
 | .arr id off len sz' _ _=>cellsK (look c.H c.nx h id) fun cs=>bindK (slCells c.H c.nx h y) fun q=>
   if sz'=sz∧q.1.length=q.2*sz∧off+len*sz≤cs.length then some ⟨.int .i64 (min q.2 len:Nat),setObj c.nx h id (some (.cells (splice cs off (q.1.take (min q.2 len*sz))))),id::ids y,true⟩ else none
 | _=>none
theorem oE (sz:Nat) (y:LV) (id off len sz' cp:Nat) (ex:Bool):cpK c h sz y (.arr id off len sz' cp ex)=cellsK (look c.H c.nx h id) fun cs=>bindK (slCells c.H c.nx h y) fun q=>
   if sz'=sz∧q.1.length=q.2*sz∧off+len*sz≤cs.length then some ⟨.int .i64 (min q.2 len:Nat),setObj c.nx h id (some (.cells (splice cs off (q.1.take (min q.2 len*sz))))),id::ids y,true⟩ else none:=rfl
theorem oI (sz:Nat) (x y:Opd):evOp c dr env h (.copy sz x y)=cpK c h sz (opd c env y) (opd c env x):=by
 simp only [evOp];unfold cpK bindK cellsK
 cases opd c env x with
 | arr id off len sz' cp ex=>
  simp only []
  cases look c.H c.nx h id with
  | none=>rfl
  | some o=>
   cases o with
   | cells cs=>cases slCells c.H c.nx h (opd c env y)<;>rfl
   | iter=>rfl
 | _=>rfl
def saK (n sz:Nat) (l m:Option Nat):LV→Option Res
 | .ref id off=>cellsK (look c.H c.nx h id) fun cs=>if off+n*sz≤cs.length then bindK (sliceO sz (.arr id off n sz n true) l m none) fun v=>some ⟨v,h,[id],false⟩ else none
 | _=>none
theorem pP (n sz:Nat) (l m:Option Nat) (id off:Nat):saK c h n sz l m (.ref id off)=cellsK (look c.H c.nx h id) fun cs=>if off+n*sz≤cs.length then bindK (sliceO sz (.arr id off n sz n true) l m none) fun v=>some ⟨v,h,[id],false⟩ else none:=rfl
theorem lR (n sz:Nat) (x:Opd) (lo hi:Option Opd):evOp c dr env h (.slArr n sz x lo hi none)=bindK (optMap (opd c env) lo) fun l=>bindK (optMap (opd c env) hi) fun m=>saK c h n sz l m (opd c env x):=by
 have e0:optMap (opd c env) none=some none:=rfl
 simp only [evOp,e0];unfold saK bindK cellsK
 cases opd c env x with
 | ref id off=>
  cases optMap (opd c env) lo with
  | none=>rfl
  | some l=>
   cases optMap (opd c env) hi with
   | none=>rfl
   | some m=>
    simp only []
    cases look c.H c.nx h id with
    | none=>rfl
    | some o=>
     cases o with
     | cells cs=>
      simp only []
      split
      ·cases sliceO sz (.arr id off n sz n true) l m none<;>rfl
      ·rfl
     | iter=>rfl
 | _=>cases optMap (opd c env) lo<;>(try cases optMap (opd c env) hi)<;>rfl
end
theorem nC (H:Heap) (nx:Nat) (h:Hp) (id:Nat):look H nx h id=if id<nx then (findU h.upd id).getD (H id) else (h.new[id-nx]?).getD none:=by
 unfold look
 split
 ·cases findU h.upd id<;>rfl
 ·cases h.new[id-nx]?<;>rfl
theorem vR (l:List (Option Obj)) (id:Nat):hpL l id=(l[id]?).getD none:=by
 unfold hpL
 cases l[id]?<;>rfl
theorem ji (f:IRF) (H:Heap) (nx:Nat) (st:St):finK f H nx (.ret,st)=bindK (resVs H nx st f.results) fun l=>finish f.own H nx (oneL l) st.h:=by
 rw [jh];unfold bindK;cases resVs H nx st f.results<;>rfl
theorem fw (f:IRF) (H:Heap) (nx:Nat) (st:St):finK f H nx (.normal,st)=bindK (resVs H nx st f.results) fun l=>finish f.own H nx (oneL l) st.h:=by
 rw [ej];unfold bindK;cases resVs H nx st f.results<;>rfl
def low (nx:Nat) (H:Heap) (h:Hp):Heap:=fun id=>if id<nx then none else look H nx h id
theorem vX (nx:Nat) (H:Heap) (h:Hp) (id:Nat):low nx H h id=if id<nx then none else (h.new[id-nx]?).getD none:=by
 unfold low
 split
 ·rfl
 ·rename_i hh;rw [nC,if_neg hh]
theorem lV (H:Heap) (nx:Nat) (r0:LV) (h:Hp):finish false H nx r0 h=bindK (frz nx h r0) fun r=>bindK (reach (low nx H h) 1000 (ids r++updIds h.upd) []) fun seen=>
  if (ids r0).all (fun id => !seen.contains id)=true then bindK (ren nx seen r) fun r'=>bindK (renU nx seen h.upd) fun u=>bindK (renN H nx h seen seen) fun n=>some (r',u,n) else none:=by
 unfold finish low bindK
 simp only [Bool.false_eq_true,if_false,Bool.false_or]
 cases frz nx h r0 with
 | none=>rfl
 | some r=>
  simp only []
  cases reach (fun id=>if id<nx then none else look H nx h id) 1000 (ids r++updIds h.upd) [] with
  | none=>rfl
  | some seen=>
   simp only []
   split
   ·cases ren nx seen r with
    | none=>rfl
    | some r'=>cases renU nx seen h.upd with
     | none=>rfl
     | some u=>cases renN H nx h seen seen<;>rfl
   ·rfl
theorem lX (H:Heap) (nx:Nat) (r:LV) (h:Hp):finish true H nx r h=bindK (reach (low nx H h) 1000 (ids r++updIds h.upd) []) fun seen=>
  bindK (ren nx seen r) fun r'=>bindK (renU nx seen h.upd) fun u=>bindK (renN H nx h seen seen) fun n=>some (r',u,n):=by
 unfold finish low bindK
 simp only [if_true,Bool.true_or]
 cases reach (fun id=>if id<nx then none else look H nx h id) 1000 (ids r++updIds h.upd) [] with
 | none=>rfl
 | some seen=>
  simp only []
  cases ren nx seen r with
  | none=>rfl
  | some r'=>cases renU nx seen h.upd with
   | none=>rfl
   | some u=>cases renN H nx h seen seen<;>rfl
def tdK (k f:List Nat):LV × LV × Upd × List (Option Obj)→Option (Ex × St)
 | (.tuple ks,.tuple fs,u,n)=>some (.normal,⟨k.zip ks++f.zip fs,⟨u,n⟩⟩)
 | _=>none
theorem wg (k f:List Nat) (ks fs:List LV) (u:Upd) (n:List (Option Obj)):tdK k f (.tuple ks,.tuple fs,u,n)=some (.normal,⟨k.zip ks++f.zip fs,⟨u,n⟩⟩):=rfl
theorem jB (c:Ctx) (st:St) (k f:List Nat):run c (.tidy k f) st=bindK (frz c.nx st.h (.tuple (f.map (get st.env)))) fun f'=>bindK (reach (low c.nx c.H st.h) 1000 (ids (.tuple (k.map (get st.env)))++updIds st.h.upd) []) fun seen=>
  if (ids (.tuple (f.map (get st.env)))).all (fun id => !seen.contains id)=true then bindK (ren c.nx seen (.tuple (k.map (get st.env)))) fun k'=>bindK (renU c.nx seen st.h.upd) fun u=>bindK (renN c.H c.nx st.h seen seen) fun n=>tdK k f (k',f',u,n) else none:=by
 rw [tH]
 unfold tidyR low bindK
 generalize (LV.tuple (k.map (get st.env)))=kk
 generalize (LV.tuple (f.map (get st.env)))=ff
 cases frz c.nx st.h ff with
 | none=>rfl
 | some f'=>
  simp only []
  cases reach (fun id=>if id<c.nx then none else look c.H c.nx st.h id) 1000 (ids kk++updIds st.h.upd) [] with
  | none=>rfl
  | some seen=>
   simp only []
   by_cases hh:(ids ff).all (fun id => !seen.contains id)=true
   ·rw [if_pos hh,if_pos hh]
    cases ren c.nx seen kk with
    | none=>rfl
    | some k'=>cases renU c.nx seen st.h.upd with
     | none=>rfl
     | some u=>cases renN c.H c.nx st.h seen seen with
      | none=>rfl
      | some n=>
       unfold tdK
       cases k'<;>cases f'<;>rfl
   ·rw [if_neg hh,if_neg hh]
end Go.Sx
end

section
namespace Go.Proofs.YtppeggedcaabkaaGreatDoor
open Go Go.Sx
noncomputable abbrev Ω0:Oracle:=om0 cls (findF irs) noG noX
noncomputable abbrev Φ (f:FuncId) (a:List LV) (l:List (Ob)):=ansW Ω0 f a l
noncomputable abbrev Ψ (f:FuncId) (a:List LV) (l:List (Ob)):=ansP Ω0 f a l
theorem oW (f:FuncId) (hc:cls f=1) : ∀ a H nx,Ω f a H nx=can (ansW Ω0 f) true a H nx:=fun _ _ _=>yA hc
theorem oP (f:FuncId) (hc:cls f=2) : ∀ a H nx,Ω f a H nx=can (fun a l=>noW (ansP Ω0 f a l)) false a H nx:=fun _ _ _=>yB hc
theorem ao:((((((type_of% (oW 46 rfl))∧((type_of% (oW 47 rfl))∧(type_of% (oW 48 rfl))))∧(((type_of% (oW 96 rfl))∧(type_of% (oW 97 rfl)))∧((type_of% (oW 98 rfl))∧(type_of% (oW 99 rfl)))))∧(((type_of% (oW 101 rfl))∧((type_of% (oW 102 rfl))∧(type_of% (oW 147 rfl))))∧(((type_of% (oW 149 rfl))∧(type_of% (oW 150 rfl)))∧((type_of% (oW 151 rfl))∧(type_of% (oW 180 rfl))))))∧((((type_of% (oW 181 rfl))∧((type_of% (oW 182 rfl))∧(type_of% (oW 183 rfl))))∧(((type_of% (oW 184 rfl))∧(type_of% (oW 211 rfl)))∧((type_of% (oW 212 rfl))∧(type_of% (oW 213 rfl)))))∧(((type_of% (oW 214 rfl))∧((type_of% (oW 215 rfl))∧(type_of% (oW 216 rfl))))∧(((type_of% (oW 217 rfl))∧(type_of% (oW 220 rfl)))∧((type_of% (oW 221 rfl))∧(type_of% (oW 236 rfl)))))))∧(((((type_of% (oP 14 rfl))∧((type_of% (oP 24 rfl))∧(type_of% (oP 45 rfl))))∧(((type_of% (oP 68 rfl))∧(type_of% (oP 69 rfl)))∧((type_of% (oP 70 rfl))∧(type_of% (oP 95 rfl)))))∧(((type_of% (oP 100 rfl))∧((type_of% (oP 103 rfl))∧(type_of% (oP 104 rfl))))∧(((type_of% (oP 119 rfl))∧(type_of% (oP 120 rfl)))∧((type_of% (oP 123 rfl))∧(type_of% (oP 124 rfl))))))∧((((type_of% (oP 125 rfl))∧((type_of% (oP 148 rfl))∧(type_of% (oP 152 rfl))))∧(((type_of% (oP 161 rfl))∧(type_of% (oP 162 rfl)))∧((type_of% (oP 163 rfl))∧(type_of% (oP 164 rfl)))))∧((((type_of% (oP 165 rfl))∧(type_of% (oP 166 rfl)))∧((type_of% (oP 188 rfl))∧(type_of% (oP 189 rfl))))∧(((type_of% (oP 218 rfl))∧(type_of% (oP 219 rfl)))∧((type_of% (oP 224 rfl))∧(type_of% (oP 225 rfl)))))))):=
 ⟨⟨⟨⟨⟨oW 46 rfl,⟨oW 47 rfl,oW 48 rfl⟩⟩,⟨⟨oW 96 rfl,oW 97 rfl⟩,⟨oW 98 rfl,oW 99 rfl⟩⟩⟩,⟨⟨oW 101 rfl,⟨oW 102 rfl,oW 147 rfl⟩⟩,⟨⟨oW 149 rfl,oW 150 rfl⟩,⟨oW 151 rfl,oW 180 rfl⟩⟩⟩⟩,⟨⟨⟨oW 181 rfl,⟨oW 182 rfl,oW 183 rfl⟩⟩,⟨⟨oW 184 rfl,oW 211 rfl⟩,⟨oW 212 rfl,oW 213 rfl⟩⟩⟩,⟨⟨oW 214 rfl,⟨oW 215 rfl,oW 216 rfl⟩⟩,⟨⟨oW 217 rfl,oW 220 rfl⟩,⟨oW 221 rfl,oW 236 rfl⟩⟩⟩⟩⟩,⟨⟨⟨⟨oP 14 rfl,⟨oP 24 rfl,oP 45 rfl⟩⟩,⟨⟨oP 68 rfl,oP 69 rfl⟩,⟨oP 70 rfl,oP 95 rfl⟩⟩⟩,⟨⟨oP 100 rfl,⟨oP 103 rfl,oP 104 rfl⟩⟩,⟨⟨oP 119 rfl,oP 120 rfl⟩,⟨oP 123 rfl,oP 124 rfl⟩⟩⟩⟩,⟨⟨⟨oP 125 rfl,⟨oP 148 rfl,oP 152 rfl⟩⟩,⟨⟨oP 161 rfl,oP 162 rfl⟩,⟨oP 163 rfl,oP 164 rfl⟩⟩⟩,⟨⟨⟨oP 165 rfl,oP 166 rfl⟩,⟨oP 188 rfl,oP 189 rfl⟩⟩,⟨⟨oP 218 rfl,oP 219 rfl⟩,⟨oP 224 rfl,oP 225 rfl⟩⟩⟩⟩⟩⟩
theorem ssL:(((((((((type_of% @Go.Sx.runL.eq_1)∧(type_of% @dF))∧((type_of% @pM)∧((type_of% @mU)∧(type_of% @iK))))∧(((type_of% @mS)∧(type_of% @j9))∧((type_of% @mV)∧((type_of% @ka)∧(type_of% @mW)))))∧((((type_of% @jB)∧(type_of% @pN))∧((type_of% @cn)∧((type_of% @cD)∧(type_of% @bQ))))∧(((type_of% @cr)∧(type_of% @Go.Sx.wants.eq_1))∧((type_of% @Go.Sx.wants.eq_2)∧((type_of% @Go.Sx.opd.eq_1)∧(type_of% @Go.Sx.opd.eq_2))))))∧(((((type_of% @Go.Sx.opd.eq_3)∧(type_of% @Go.Sx.get.eq_1))∧((type_of% @Go.Sx.get.eq_2)∧((type_of% @Go.Sx.putD.eq_1)∧(type_of% @Go.Sx.putD.eq_2))))∧(((type_of% @Go.Sx.binL.eq_1)∧(type_of% @Go.Sx.binL.eq_2))∧((type_of% @Go.Sx.isSh.eq_1)∧((type_of% @Go.Sx.isSh.eq_2)∧(type_of% @Go.Sx.isSh.eq_3)))))∧((((type_of% @dl)∧(type_of% @du))∧((type_of% @dt)∧((type_of% @eK)∧(type_of% @eL))))∧(((type_of% @dq)∧(type_of% @dp))∧((type_of% @dn)∧((type_of% @dm)∧(type_of% @Go.Sx.eqL.eq_1)))))))∧((((((type_of% @Go.Sx.eqL.eq_2)∧(type_of% @Go.Sx.eqL.eq_3))∧((type_of% @Go.Sx.eqL.eq_4)∧((type_of% @Go.Sx.eqL.eq_5)∧(type_of% @Go.Sx.eqL.eq_6))))∧(((type_of% @Go.Sx.eqL.eq_7)∧(type_of% @Go.Sx.eqL.eq_8))∧((type_of% @Go.Sx.eqL.eq_9)∧((type_of% @Go.Sx.eqL.eq_10)∧(type_of% @Go.Sx.eqL.eq_11)))))∧((((type_of% @Go.Sx.eqL.eq_12)∧(type_of% @Go.Sx.eqL.eq_13))∧((type_of% @Go.Sx.eqL.eq_14)∧((type_of% @fq)∧(type_of% @fp))))∧(((type_of% @Go.Sx.resVs.eq_1)∧(type_of% @Go.Sx.resVs.eq_2))∧((type_of% @Go.Sx.resV.eq_1)∧((type_of% @Go.Sx.resV.eq_2)∧(type_of% @Go.Sx.oneL.eq_1))))))∧(((((type_of% @Go.Sx.oneL.eq_2)∧(type_of% @Go.Sx.frz.eq_1))∧((type_of% @Go.Sx.frz.eq_2)∧((type_of% @Go.Sx.frz.go.eq_1)∧(type_of% @Go.Sx.frz.go.eq_2))))∧(((type_of% @frzL.eq_1)∧(type_of% @frzL.eq_2))∧((type_of% @frzL.eq_3)∧((type_of% @frzL.eq_4)∧(type_of% @frzL.eq_5)))))∧((((type_of% @frzL.eq_6)∧(type_of% @frzL.go.eq_1))∧((type_of% @frzL.go.eq_2)∧((type_of% @Go.Sx.ids.eq_1)∧(type_of% @Go.Sx.ids.eq_2))))∧(((type_of% @Go.Sx.ids.eq_3)∧(type_of% @Go.Sx.ids.eq_4))∧((type_of% @Go.Sx.ids.eq_5)∧((type_of% @Go.Sx.ids.eq_6)∧(type_of% @Go.Sx.ids.idsL.eq_1))))))))∧(((((((type_of% @Go.Sx.ids.idsL.eq_2)∧(type_of% @Go.Sx.updIds.eq_1))∧((type_of% @Go.Sx.updIds.eq_2)∧((type_of% @Go.Sx.updIds.eq_3)∧(type_of% @Go.Sx.reach.eq_1))))∧(((type_of% @Go.Sx.reach.eq_2)∧(type_of% @Go.Sx.reach.eq_3))∧((type_of% @Go.Sx.ren.eq_1)∧((type_of% @Go.Sx.ren.eq_2)∧(type_of% @Go.Sx.ren.eq_3)))))∧((((type_of% @Go.Sx.ren.eq_4)∧(type_of% @Go.Sx.ren.eq_5))∧((type_of% @Go.Sx.ren.eq_6)∧((type_of% @Go.Sx.ren.eq_7)∧(type_of% @Go.Sx.ren.go.eq_1))))∧(((type_of% @Go.Sx.ren.go.eq_2)∧(type_of% @Go.Sx.renU.eq_1))∧((type_of% @Go.Sx.renU.eq_2)∧((type_of% @Go.Sx.renN.eq_1)∧(type_of% @Go.Sx.renN.eq_2))))))∧(((((type_of% @Go.Sx.renO.eq_1)∧(type_of% @Go.Sx.renO.eq_2))∧((type_of% @Go.Sx.renO.eq_3)∧((type_of% @Go.Sx.renId.eq_1)∧(type_of% @Go.Sx.fillP.eq_1))))∧(((type_of% @Go.Sx.fillP.eq_2)∧(type_of% @Go.Sx.mkAgg.eq_1))∧((type_of% @Go.Sx.allP.eq_1)∧((type_of% @Go.Sx.allP.eq_2)∧(type_of% @Go.Sx.allP.eq_3)))))∧((((type_of% @Go.Sx.LV.cells.eq_1)∧(type_of% @Go.Sx.LV.cells.eq_2))∧((type_of% @Go.Sx.LV.cells.eq_3)∧((type_of% @Go.Sx.LV.cells.eq_4)∧(type_of% @Go.Sx.LV.cells.eq_5))))∧(((type_of% @Go.Sx.LV.cells.eq_6)∧(type_of% @Go.Sx.rd.eq_1))∧((type_of% @Go.Sx.findU.eq_1)∧((type_of% @Go.Sx.findU.eq_2)∧(type_of% @slCells.eq_1)))))))∧((((((type_of% @slCells.eq_2)∧(type_of% @slCells.eq_3))∧((type_of% @slCells.eq_4)∧((type_of% @sliceO.eq_1)∧(type_of% @sliceO.eq_2))))∧(((type_of% @sliceO.eq_3)∧(type_of% @Go.Value.oneCell'.eq_1))∧((type_of% @Go.Value.oneCell'.eq_2)∧((type_of% @Go.Value.oneCell'.eq_3)∧(type_of% @Go.Sx.mmL.eq_1)))))∧((((type_of% @Go.Sx.mmL.eq_2)∧(type_of% @Go.Sx.mm2.eq_1))∧((type_of% @Go.Sx.gslot.eq_1)∧((type_of% @Go.Sx.gslot.eq_2)∧(type_of% @IROp.slots.eq_1))))∧(((type_of% @IROp.slots.eq_2)∧(type_of% @IROp.slots.eq_3))∧((type_of% @IROp.slots.eq_4)∧((type_of% @IROp.slots.eq_5)∧(type_of% @IROp.slots.eq_6))))))∧(((((type_of% @IROp.slots.eq_7)∧(type_of% @IROp.slots.eq_8))∧((type_of% @IROp.slots.eq_9)∧((type_of% @IROp.slots.eq_10)∧(type_of% @IROp.slots.eq_11))))∧(((type_of% @IROp.slots.eq_12)∧(type_of% @IROp.slots.eq_13))∧((type_of% @IROp.slots.eq_14)∧((type_of% @IROp.slots.eq_15)∧(type_of% @IROp.slots.eq_16)))))∧((((type_of% @IROp.slots.eq_17)∧(type_of% @IROp.slots.eq_18))∧((type_of% @IROp.slots.eq_19)∧((type_of% @IROp.slots.eq_20)∧(type_of% @IROp.slots.eq_21))))∧(((type_of% @IROp.slots.eq_22)∧(type_of% @IROp.slots.eq_23))∧((type_of% @IROp.slots.eq_24)∧((type_of% @IROp.slots.eq_25)∧(type_of% @IROp.slots.eq_26)))))))))∧((((((((type_of% @IROp.slots.eq_27)∧(type_of% @IROp.slots.eq_28))∧((type_of% @IROp.slots.eq_29)∧((type_of% @IROp.slots.eq_30)∧(type_of% @IROp.slots.eq_31))))∧(((type_of% @IROp.slots.eq_32)∧(type_of% @IROp.slots.eq_33))∧((type_of% @IROp.slots.eq_34)∧((type_of% @IROp.slots.eq_35)∧(type_of% @IROp.slots.eq_36)))))∧((((type_of% @IROp.slots.eq_37)∧(type_of% @IROp.slots.eq_38))∧((type_of% @Go.Sx.Opd.slots.eq_1)∧((type_of% @Go.Sx.Opd.slots.eq_2)∧(type_of% @Go.Sx.indepD.eq_1))))∧(((type_of% @Go.Sx.quickD.eq_1)∧(type_of% @Go.Sx.quickD.eq_2))∧((type_of% @Go.Sx.indepR.eq_1)∧((type_of% @Go.Sx.indepR.eq_2)∧(type_of% @Go.Sx.indepR.eq_3))))))∧(((((type_of% @Go.Sx.pairsD.eq_1)∧(type_of% @Go.Sx.pairsD.eq_2))∧((type_of% @Go.Sx.apartD.eq_1)∧((type_of% @Nat.testBit.eq_1)∧(type_of% @Go.Sx.Obj.ids.eq_1))))∧(((type_of% @Go.Sx.Obj.ids.eq_2)∧(type_of% @Go.Sx.natL.eq_1))∧((type_of% @Go.Sx.optMap.eq_1)∧((type_of% @Go.Sx.optMap.eq_2)∧(type_of% @Go.undef.eq_1)))))∧((((type_of% @ltF)∧(type_of% @dL))∧((type_of% @c7)∧((type_of% @o3)∧(type_of% @oZ))))∧(((type_of% @oY)∧(type_of% @oX))∧((type_of% @dS)∧((type_of% @c9)∧(type_of% @gw)))))))∧((((((type_of% @fe)∧(type_of% @gx))∧((type_of% @uN)∧((type_of% @kC)∧(type_of% @eX))))∧(((type_of% @mX)∧(type_of% @gA))∧((type_of% @fy)∧((type_of% @iu)∧(type_of% @jw)))))∧((((type_of% @iv)∧(type_of% @vK))∧((type_of% @bk.eq_1)∧((type_of% @bk.eq_2)∧(type_of% @bk.eq_3))))∧(((type_of% @bk.eq_4)∧(type_of% @bk.eq_5))∧((type_of% @bk.go.eq_1)∧((type_of% @bk.go.eq_2)∧(type_of% @bkO.eq_1))))))∧(((((type_of% @xq)∧(type_of% @oB))∧((type_of% @lj)∧((type_of% @li)∧(type_of% @bkId.eq_1))))∧(((type_of% @renH.eq_1)∧(type_of% @renH.eq_2))∧((type_of% @outU.eq_1)∧((type_of% @outU.eq_2)∧(type_of% @outW.eq_1)))))∧((((type_of% @outP.eq_1)∧(type_of% @noW.eq_1))∧((type_of% @callK.eq_1)∧((type_of% @gb)∧(type_of% @callQ.eq_1))))∧(((type_of% @iteK_congr2)∧(type_of% @vM))∧((type_of% @lJ)∧((type_of% @lI)∧(type_of% @jc))))))))∧(((((((type_of% @jb)∧(type_of% @lK))∧((type_of% @jW)∧((type_of% @jV)∧(type_of% @ig))))∧(((type_of% @oM)∧(type_of% @pd))∧((type_of% @pf)∧((type_of% @lU)∧(type_of% @pT)))))∧((((type_of% @lO)∧(type_of% @pj))∧((type_of% @pm)∧((type_of% @sZ)∧(type_of% @sn))))∧(((type_of% @oL)∧(type_of% @oJ))∧((type_of% @vN)∧((type_of% @ma)∧(type_of% @sr))))))∧(((((type_of% @mZ)∧(type_of% @oQ))∧((type_of% @lQ)∧((type_of% @lP)∧(type_of% @sk))))∧(((type_of% @oA)∧(type_of% @lh))∧((type_of% @lg)∧((type_of% @gc)∧(type_of% @oS)))))∧((((type_of% @oT)∧(type_of% @lL))∧((type_of% @vP)∧((type_of% @vO)∧(type_of% @jR))))∧(((type_of% @sK)∧(type_of% @o6))∧((type_of% @jf)∧((type_of% @mb)∧(type_of% @mc)))))))∧((((((type_of% @jT)∧(type_of% @jS))∧((type_of% @vV)∧((type_of% @lS)∧(type_of% @oO))))∧(((type_of% @lN)∧(type_of% @lM))∧((type_of% @pi)∧((type_of% @sT)∧(type_of% @ph)))))∧((((type_of% @ou)∧(type_of% @rF))∧((type_of% @ot)∧((type_of% @sj)∧(type_of% @ow))))∧(((type_of% @rG)∧(type_of% @ov))∧((type_of% @jU)∧((type_of% @jP)∧(type_of% @jQ))))))∧(((((type_of% @sC)∧(type_of% @jd))∧((type_of% @je)∧((type_of% @ss)∧(type_of% @jX))))∧(((type_of% @oN)∧(type_of% @sw))∧((type_of% @mA)∧((type_of% @pu)∧(type_of% @sv)))))∧((((type_of% @jg)∧(type_of% @oE))∧((type_of% @oI)∧((type_of% @pP)∧(type_of% @lR))))∧(((type_of% @nC)∧((type_of% @vR)∧(type_of% @vX)))∧((type_of% @lV)∧((type_of% @lX)∧(type_of% @wg)))))))))):=
 ⟨⟨⟨⟨⟨⟨⟨⟨@Go.Sx.runL.eq_1,@dF⟩,⟨@pM,⟨@mU,@iK⟩⟩⟩,⟨⟨@mS,@j9⟩,⟨@mV,⟨@ka,@mW⟩⟩⟩⟩,⟨⟨⟨@jB,@pN⟩,⟨@cn,⟨@cD,@bQ⟩⟩⟩,⟨⟨@cr,@Go.Sx.wants.eq_1⟩,⟨@Go.Sx.wants.eq_2,⟨@Go.Sx.opd.eq_1,@Go.Sx.opd.eq_2⟩⟩⟩⟩⟩,⟨⟨⟨⟨@Go.Sx.opd.eq_3,@Go.Sx.get.eq_1⟩,⟨@Go.Sx.get.eq_2,⟨@Go.Sx.putD.eq_1,@Go.Sx.putD.eq_2⟩⟩⟩,⟨⟨@Go.Sx.binL.eq_1,@Go.Sx.binL.eq_2⟩,⟨@Go.Sx.isSh.eq_1,⟨@Go.Sx.isSh.eq_2,@Go.Sx.isSh.eq_3⟩⟩⟩⟩,⟨⟨⟨@dl,@du⟩,⟨@dt,⟨@eK,@eL⟩⟩⟩,⟨⟨@dq,@dp⟩,⟨@dn,⟨@dm,@Go.Sx.eqL.eq_1⟩⟩⟩⟩⟩⟩,⟨⟨⟨⟨⟨@Go.Sx.eqL.eq_2,@Go.Sx.eqL.eq_3⟩,⟨@Go.Sx.eqL.eq_4,⟨@Go.Sx.eqL.eq_5,@Go.Sx.eqL.eq_6⟩⟩⟩,⟨⟨@Go.Sx.eqL.eq_7,@Go.Sx.eqL.eq_8⟩,⟨@Go.Sx.eqL.eq_9,⟨@Go.Sx.eqL.eq_10,@Go.Sx.eqL.eq_11⟩⟩⟩⟩,⟨⟨⟨@Go.Sx.eqL.eq_12,@Go.Sx.eqL.eq_13⟩,⟨@Go.Sx.eqL.eq_14,⟨@fq,@fp⟩⟩⟩,⟨⟨@Go.Sx.resVs.eq_1,@Go.Sx.resVs.eq_2⟩,⟨@Go.Sx.resV.eq_1,⟨@Go.Sx.resV.eq_2,@Go.Sx.oneL.eq_1⟩⟩⟩⟩⟩,⟨⟨⟨⟨@Go.Sx.oneL.eq_2,@Go.Sx.frz.eq_1⟩,⟨@Go.Sx.frz.eq_2,⟨@Go.Sx.frz.go.eq_1,@Go.Sx.frz.go.eq_2⟩⟩⟩,⟨⟨@frzL.eq_1,@frzL.eq_2⟩,⟨@frzL.eq_3,⟨@frzL.eq_4,@frzL.eq_5⟩⟩⟩⟩,⟨⟨⟨@frzL.eq_6,@frzL.go.eq_1⟩,⟨@frzL.go.eq_2,⟨@Go.Sx.ids.eq_1,@Go.Sx.ids.eq_2⟩⟩⟩,⟨⟨@Go.Sx.ids.eq_3,@Go.Sx.ids.eq_4⟩,⟨@Go.Sx.ids.eq_5,⟨@Go.Sx.ids.eq_6,@Go.Sx.ids.idsL.eq_1⟩⟩⟩⟩⟩⟩⟩,⟨⟨⟨⟨⟨⟨@Go.Sx.ids.idsL.eq_2,@Go.Sx.updIds.eq_1⟩,⟨@Go.Sx.updIds.eq_2,⟨@Go.Sx.updIds.eq_3,@Go.Sx.reach.eq_1⟩⟩⟩,⟨⟨@Go.Sx.reach.eq_2,@Go.Sx.reach.eq_3⟩,⟨@Go.Sx.ren.eq_1,⟨@Go.Sx.ren.eq_2,@Go.Sx.ren.eq_3⟩⟩⟩⟩,⟨⟨⟨@Go.Sx.ren.eq_4,@Go.Sx.ren.eq_5⟩,⟨@Go.Sx.ren.eq_6,⟨@Go.Sx.ren.eq_7,@Go.Sx.ren.go.eq_1⟩⟩⟩,⟨⟨@Go.Sx.ren.go.eq_2,@Go.Sx.renU.eq_1⟩,⟨@Go.Sx.renU.eq_2,⟨@Go.Sx.renN.eq_1,@Go.Sx.renN.eq_2⟩⟩⟩⟩⟩,⟨⟨⟨⟨@Go.Sx.renO.eq_1,@Go.Sx.renO.eq_2⟩,⟨@Go.Sx.renO.eq_3,⟨@Go.Sx.renId.eq_1,@Go.Sx.fillP.eq_1⟩⟩⟩,⟨⟨@Go.Sx.fillP.eq_2,@Go.Sx.mkAgg.eq_1⟩,⟨@Go.Sx.allP.eq_1,⟨@Go.Sx.allP.eq_2,@Go.Sx.allP.eq_3⟩⟩⟩⟩,⟨⟨⟨@Go.Sx.LV.cells.eq_1,@Go.Sx.LV.cells.eq_2⟩,⟨@Go.Sx.LV.cells.eq_3,⟨@Go.Sx.LV.cells.eq_4,@Go.Sx.LV.cells.eq_5⟩⟩⟩,⟨⟨@Go.Sx.LV.cells.eq_6,@Go.Sx.rd.eq_1⟩,⟨@Go.Sx.findU.eq_1,⟨@Go.Sx.findU.eq_2,@slCells.eq_1⟩⟩⟩⟩⟩⟩,⟨⟨⟨⟨⟨@slCells.eq_2,@slCells.eq_3⟩,⟨@slCells.eq_4,⟨@sliceO.eq_1,@sliceO.eq_2⟩⟩⟩,⟨⟨@sliceO.eq_3,@Go.Value.oneCell'.eq_1⟩,⟨@Go.Value.oneCell'.eq_2,⟨@Go.Value.oneCell'.eq_3,@Go.Sx.mmL.eq_1⟩⟩⟩⟩,⟨⟨⟨@Go.Sx.mmL.eq_2,@Go.Sx.mm2.eq_1⟩,⟨@Go.Sx.gslot.eq_1,⟨@Go.Sx.gslot.eq_2,@IROp.slots.eq_1⟩⟩⟩,⟨⟨@IROp.slots.eq_2,@IROp.slots.eq_3⟩,⟨@IROp.slots.eq_4,⟨@IROp.slots.eq_5,@IROp.slots.eq_6⟩⟩⟩⟩⟩,⟨⟨⟨⟨@IROp.slots.eq_7,@IROp.slots.eq_8⟩,⟨@IROp.slots.eq_9,⟨@IROp.slots.eq_10,@IROp.slots.eq_11⟩⟩⟩,⟨⟨@IROp.slots.eq_12,@IROp.slots.eq_13⟩,⟨@IROp.slots.eq_14,⟨@IROp.slots.eq_15,@IROp.slots.eq_16⟩⟩⟩⟩,⟨⟨⟨@IROp.slots.eq_17,@IROp.slots.eq_18⟩,⟨@IROp.slots.eq_19,⟨@IROp.slots.eq_20,@IROp.slots.eq_21⟩⟩⟩,⟨⟨@IROp.slots.eq_22,@IROp.slots.eq_23⟩,⟨@IROp.slots.eq_24,⟨@IROp.slots.eq_25,@IROp.slots.eq_26⟩⟩⟩⟩⟩⟩⟩⟩,⟨⟨⟨⟨⟨⟨⟨@IROp.slots.eq_27,@IROp.slots.eq_28⟩,⟨@IROp.slots.eq_29,⟨@IROp.slots.eq_30,@IROp.slots.eq_31⟩⟩⟩,⟨⟨@IROp.slots.eq_32,@IROp.slots.eq_33⟩,⟨@IROp.slots.eq_34,⟨@IROp.slots.eq_35,@IROp.slots.eq_36⟩⟩⟩⟩,⟨⟨⟨@IROp.slots.eq_37,@IROp.slots.eq_38⟩,⟨@Go.Sx.Opd.slots.eq_1,⟨@Go.Sx.Opd.slots.eq_2,@Go.Sx.indepD.eq_1⟩⟩⟩,⟨⟨@Go.Sx.quickD.eq_1,@Go.Sx.quickD.eq_2⟩,⟨@Go.Sx.indepR.eq_1,⟨@Go.Sx.indepR.eq_2,@Go.Sx.indepR.eq_3⟩⟩⟩⟩⟩,⟨⟨⟨⟨@Go.Sx.pairsD.eq_1,@Go.Sx.pairsD.eq_2⟩,⟨@Go.Sx.apartD.eq_1,⟨@Nat.testBit.eq_1,@Go.Sx.Obj.ids.eq_1⟩⟩⟩,⟨⟨@Go.Sx.Obj.ids.eq_2,@Go.Sx.natL.eq_1⟩,⟨@Go.Sx.optMap.eq_1,⟨@Go.Sx.optMap.eq_2,@Go.undef.eq_1⟩⟩⟩⟩,⟨⟨⟨@ltF,@dL⟩,⟨@c7,⟨@o3,@oZ⟩⟩⟩,⟨⟨@oY,@oX⟩,⟨@dS,⟨@c9,@gw⟩⟩⟩⟩⟩⟩,⟨⟨⟨⟨⟨@fe,@gx⟩,⟨@uN,⟨@kC,@eX⟩⟩⟩,⟨⟨@mX,@gA⟩,⟨@fy,⟨@iu,@jw⟩⟩⟩⟩,⟨⟨⟨@iv,@vK⟩,⟨@bk.eq_1,⟨@bk.eq_2,@bk.eq_3⟩⟩⟩,⟨⟨@bk.eq_4,@bk.eq_5⟩,⟨@bk.go.eq_1,⟨@bk.go.eq_2,@bkO.eq_1⟩⟩⟩⟩⟩,⟨⟨⟨⟨@xq,@oB⟩,⟨@lj,⟨@li,@bkId.eq_1⟩⟩⟩,⟨⟨@renH.eq_1,@renH.eq_2⟩,⟨@outU.eq_1,⟨@outU.eq_2,@outW.eq_1⟩⟩⟩⟩,⟨⟨⟨@outP.eq_1,@noW.eq_1⟩,⟨@callK.eq_1,⟨@gb,@callQ.eq_1⟩⟩⟩,⟨⟨@iteK_congr2,@vM⟩,⟨@lJ,⟨@lI,@jc⟩⟩⟩⟩⟩⟩⟩,⟨⟨⟨⟨⟨⟨@jb,@lK⟩,⟨@jW,⟨@jV,@ig⟩⟩⟩,⟨⟨@oM,@pd⟩,⟨@pf,⟨@lU,@pT⟩⟩⟩⟩,⟨⟨⟨@lO,@pj⟩,⟨@pm,⟨@sZ,@sn⟩⟩⟩,⟨⟨@oL,@oJ⟩,⟨@vN,⟨@ma,@sr⟩⟩⟩⟩⟩,⟨⟨⟨⟨@mZ,@oQ⟩,⟨@lQ,⟨@lP,@sk⟩⟩⟩,⟨⟨@oA,@lh⟩,⟨@lg,⟨@gc,@oS⟩⟩⟩⟩,⟨⟨⟨@oT,@lL⟩,⟨@vP,⟨@vO,@jR⟩⟩⟩,⟨⟨@sK,@o6⟩,⟨@jf,⟨@mb,@mc⟩⟩⟩⟩⟩⟩,⟨⟨⟨⟨⟨@jT,@jS⟩,⟨@vV,⟨@lS,@oO⟩⟩⟩,⟨⟨@lN,@lM⟩,⟨@pi,⟨@sT,@ph⟩⟩⟩⟩,⟨⟨⟨@ou,@rF⟩,⟨@ot,⟨@sj,@ow⟩⟩⟩,⟨⟨@rG,@ov⟩,⟨@jU,⟨@jP,@jQ⟩⟩⟩⟩⟩,⟨⟨⟨⟨@sC,@jd⟩,⟨@je,⟨@ss,@jX⟩⟩⟩,⟨⟨@oN,@sw⟩,⟨@mA,⟨@pu,@sv⟩⟩⟩⟩,⟨⟨⟨@jg,@oE⟩,⟨@oI,⟨@pP,@lR⟩⟩⟩,⟨⟨@nC,⟨@vR,@vX⟩⟩,⟨@lV,⟨@lX,@wg⟩⟩⟩⟩⟩⟩⟩⟩⟩
theorem ssM:((((((type_of% @bj)∧(type_of% @dI))∧((type_of% @eN)∧((type_of% @fv)∧(type_of% @ec))))∧(((type_of% @fu)∧((type_of% @ft)∧(type_of% @bc)))∧((type_of% @fm)∧((type_of% @gD)∧(type_of% @fo)))))∧((((type_of% @c5)∧((type_of% @eO)∧(type_of% @fZ)))∧((type_of% @eP)∧((type_of% @fw)∧(type_of% @ji))))∧(((type_of% @gp)∧((type_of% @eY)∧(type_of% @dK)))∧((type_of% @c6)∧((type_of% @dJ)∧(type_of% @d7))))))∧(((((type_of% @d8)∧(type_of% @d9))∧((type_of% @df)∧((type_of% @ea)∧(type_of% @de))))∧(((type_of% @d4)∧((type_of% @dd)∧(type_of% @iP)))∧((type_of% @iQ)∧((type_of% @gN)∧(type_of% @gO)))))∧((((type_of% @iR)∧((type_of% @iS)∧(type_of% @iT)))∧((type_of% @iU)∧((type_of% @dZ)∧(type_of% @d5))))∧(((type_of% @d6)∧((type_of% @eR)∧(type_of% @dR)))∧((type_of% @cT)∧((type_of% @cy)∧(type_of% @dH))))))):=
 ⟨⟨⟨⟨⟨@bj,@dI⟩,⟨@eN,⟨@fv,@ec⟩⟩⟩,⟨⟨@fu,⟨@ft,@bc⟩⟩,⟨@fm,⟨@gD,@fo⟩⟩⟩⟩,⟨⟨⟨@c5,⟨@eO,@fZ⟩⟩,⟨@eP,⟨@fw,@ji⟩⟩⟩,⟨⟨@gp,⟨@eY,@dK⟩⟩,⟨@c6,⟨@dJ,@d7⟩⟩⟩⟩⟩,⟨⟨⟨⟨@d8,@d9⟩,⟨@df,⟨@ea,@de⟩⟩⟩,⟨⟨@d4,⟨@dd,@iP⟩⟩,⟨@iQ,⟨@gN,@gO⟩⟩⟩⟩,⟨⟨⟨@iR,⟨@iS,@iT⟩⟩,⟨@iU,⟨@dZ,@d5⟩⟩⟩,⟨⟨@d6,⟨@eR,@dR⟩⟩,⟨@cT,⟨@cy,@dH⟩⟩⟩⟩⟩⟩
theorem bm : ∀ l:List UInt8,bytesL (byt l)=some l
 | []=>rfl
 | b::r=>by
  have:bytesL (byt (b::r))=(match bytesL (byt r) with|some l=>some (UInt8.ofNat (b.toNat:Int).toNat::l)|none=>none):=rfl
  rw [this,bm r]
  simp
theorem wk (l:List UInt8) (cp:Nat) (ex:Bool) (h0:l≠[]) (h30:l.length<2^31):Ψ 95 [.arr 0 0 l.length 1 cp ex] [some (.cells (byt l))]=some (.p (.sl (bytP l) l.length 1 false)):=by
 have h41:l.length≤1099511627776:=by omega
 refine bV (ir:=ir95) (by kernel_rfl) ?_;simp +contextual (maxSteps:=1000000) [ir95,ssL,↓ssM,ao,ssU,ssR,ak,aa,au,aE,aG,aD,aI,av,aA,h0,h41]
theorem qq (l:List UInt8) (id cp:Nat) (ex:Bool) (h0:0<l.length) (h30:l.length<2^31) (H:Heap) (nx:Nat) (hl:H id=some (.cells (byt l))) (hid:id<nx):Ω 95 [.arr id 0 l.length 1 cp ex] H nx=
  some (.p (.sl (bytP l) l.length 1 false),[],[]):=by
 have h1:l≠[]:=by intro e;subst e;simp at h0
 simp [ssL,↓ssM,ao,ssU,ssR,ak,aa,au,aE,aG,aD,aI,av,aA,hl,wk l cp ex h1 h30]
theorem oD (l:List UInt8) (fl:Bool) (h30:l.length<2^31):Ψ 95 [.p (.sl (bytP l) l.length 1 fl)] []=some (.p (.sl (bytP l) l.length 1 l.isEmpty)):=by
 have h41:l.length≤1099511627776:=by omega
 by_cases h0:l=[]
 ·subst h0;refine bV (ir:=ir95) (by kernel_rfl) ?_;simp +contextual (maxSteps:=1000000) [ir95,ssL,↓ssM,ao,ssU,ssR,bytP]
 ·refine bV (ir:=ir95) (by kernel_rfl) ?_;simp +contextual (maxSteps:=1000000) [ir95,ssL,↓ssM,ao,ssU,ssR,ak,aa,au,aE,aG,aD,aI,av,aA,h41,h0,aQ]
theorem gR (k:Nat) (l:List UInt8):List.take (l.length-k) (List.drop k (bytP l))=bytP (l.drop k):=by
 rw [qe,List.take_of_length_le];rw [aa,List.length_drop];exact Nat.le_refl _
abbrev sB (fl:Bool) (p:List UInt8):LV:=.p (.sl (bytP p) p.length 1 fl)
abbrev wi (fl:Bool) (p:List UInt8) (e:Int):Ob:=some (.cells [sB fl p,.int .i64 e])
theorem bT (fl p e):Ψ 104 [.ref 0 0] [wi fl p e]=some (.int .i64 e):=by
 refine bV (ir:=ir104) (by kernel_rfl) ?_;simp +contextual (maxSteps:=1000000) [ir104,ssL,↓ssM,ao,ssU,ssR]
theorem wB (fl p e):Ψ 103 [.ref 0 0] [wi fl p e]=some (.int .i64 p.length):=by
 refine bV (ir:=ir103) (by kernel_rfl) ?_;simp +contextual (maxSteps:=1000000) [ir103,ssL,↓ssM,ao,ssU,ssR]
theorem bC (fl p e k):Φ 97 [.ref 0 0,.int .i64 k] [wi fl p e]=some (.tuple [],[wi fl p (if e=0 then k else e)]):=by
 by_cases h:e=0
 all_goals
 refine aH (ir:=ir97) (by kernel_rfl) ?_;simp +contextual (maxSteps:=1000000) [ir97,ssL,↓ssM,ao,ssU,ssR,h]
theorem vT (fl p e):Φ 48 [.ref 0 0] [wi fl p e]=some (.int .i64 (if e=0∧p≠[] then 6 else e),[wi fl p (if e=0∧p≠[] then 6 else e)]):=by
 refine aH (ir:=ir48) (by kernel_rfl) ?_;simp +contextual (maxSteps:=1000000) [ir48,ssL,↓ssM,ao,ssU,ssR,wB,bC,bT]
 by_cases h:p=[]<;>simp [h,iteK]
end Go.Proofs.YtppeggedcaabkaaGreatDoor
end

section
namespace Go.Proofs.YtppeggedcaabkaaGreatDoor
open Go Go.Sx
inductive Id where
 | zero|one
 | node (l r:Id)
 deriving DecidableEq
def Id.all:Id→Bool
 | .one=>true
 | _=>false
def Id.ptr:Id→PV
 | .node l r=>.imm [.s (.bool l.all),l.ptr,.s (.bool r.all),r.ptr] 0
 | _=>.s (.pointer none)
theorem Id.ptr_z:Id.zero.ptr = .s (.pointer none):=rfl
theorem Id.ptr_o:Id.one.ptr = .s (.pointer none):=rfl
theorem Id.ptr_n (l r:Id):(Id.node l r).ptr = .imm [.s (.bool l.all),l.ptr,.s (.bool r.all),r.ptr] 0:=rfl
theorem Id.all_z:Id.zero.all=false:=rfl
theorem Id.all_o:Id.one.all=true:=rfl
theorem Id.all_n (l r:Id):(Id.node l r).all=false:=rfl
abbrev Id.pv (i:Id):PV:=.agg [.s (.bool i.all),i.ptr]
def Id.left:Id→Id
 | .node l _=>l
 | i=>i
def Id.right:Id→Id
 | .node _ r=>r
 | i=>i
theorem Id.left_z:Id.zero.left = .zero:=rfl
theorem Id.left_o:Id.one.left = .one:=rfl
theorem Id.left_n (l r:Id):(Id.node l r).left=l:=rfl
theorem Id.right_z:Id.zero.right = .zero:=rfl
theorem Id.right_o:Id.one.right = .one:=rfl
theorem Id.right_n (l r:Id):(Id.node l r).right=r:=rfl
def Id.depth:Id→Nat
 | .node l r=>1+max l.depth r.depth
 | _=>0
def Id.pair (l r:Id):Id:=if l = .zero∧r = .zero then .zero else if l = .one∧r = .one then .one else .node l r
theorem aK (i:Id) (H:Heap) (nx:Nat):Ω 86 [.p i.pv] H nx=some (.bool (i = .zero),[],[]):=by
 refine ae (ir:=ir86) (by kernel_rfl) 0 ?_
 cases i<;>simp [ir86,Id.all_z,Id.all_o,Id.all_n,Id.ptr_z,Id.ptr_o,Id.ptr_n,ssB,ssU,ssP,appO]
theorem aX (i:Id) (H:Heap) (nx:Nat):Ω 160 [.p i.pv] H nx=some (.bool (i = .one),[],[]):=by
 refine ae (ir:=ir160) (by kernel_rfl) 0 ?_
 cases i<;>simp [ir160,Id.all_z,Id.all_o,Id.all_n,Id.ptr_z,Id.ptr_o,Id.ptr_n,ssB,ssU,ssP,appO]
theorem sN (H:Heap) (nx:Nat):Ω 86 [.p (.agg [.s (.bool false),.s (.pointer none)])] H nx=some (.bool true,[],[]):=aK .zero H nx
theorem sP (H:Heap) (nx:Nat):Ω 86 [.p (.agg [.s (.bool true),.s (.pointer none)])] H nx=some (.bool false,[],[]):=aK .one H nx
theorem sO (l r:Id) (H:Heap) (nx:Nat):Ω 86 [.p (.agg [.s (.bool false),.imm [.s (.bool l.all),l.ptr,.s (.bool r.all),r.ptr] 0])] H nx=some (.bool false,[],[]):=aK (.node l r) H nx
theorem uK (H:Heap) (nx:Nat):Ω 160 [.p (.agg [.s (.bool false),.s (.pointer none)])] H nx=some (.bool false,[],[]):=aX .zero H nx
theorem uM (H:Heap) (nx:Nat):Ω 160 [.p (.agg [.s (.bool true),.s (.pointer none)])] H nx=some (.bool true,[],[]):=aX .one H nx
theorem uL (l r:Id) (H:Heap) (nx:Nat):Ω 160 [.p (.agg [.s (.bool false),.imm [.s (.bool l.all),l.ptr,.s (.bool r.all),r.ptr] 0])] H nx=some (.bool false,[],[]):=aX (.node l r) H nx
theorem cC (H:Heap) (nx:Nat):Ω 65 [] H nx=some (.p Id.zero.pv,[],[]):=by
 refine ae (ir:=ir65) (by kernel_rfl) 0 ?_
 simp [ir65,Id.all_z,Id.all_o,Id.all_n,Id.ptr_z,Id.ptr_o,Id.ptr_n,ssB,ssU,ssP,appO]
theorem jk (H:Heap) (nx:Nat):Ω 66 [] H nx=some (.p Id.one.pv,[],[]):=by
 refine ae (ir:=ir66) (by kernel_rfl) 0 ?_
 simp [ir66,Id.all_z,Id.all_o,Id.all_n,Id.ptr_z,Id.ptr_o,Id.ptr_n,ssB,ssU,ssP,appO]
theorem uC (i:Id) (H:Heap) (nx:Nat):Ω 175 [.p i.pv] H nx=some (.p i.left.pv,[],[]):=by
 refine ae (ir:=ir175) (by kernel_rfl) 0 ?_
 cases i<;>simp [ir175,Id.all_z,Id.all_o,Id.all_n,Id.ptr_z,Id.ptr_o,Id.ptr_n,Id.left_z,Id.left_o,Id.left_n,ssB,ssU,ssP,appO]
theorem sL (i:Id) (H:Heap) (nx:Nat):Ω 176 [.p i.pv] H nx=some (.p i.right.pv,[],[]):=by
 refine ae (ir:=ir176) (by kernel_rfl) 0 ?_
 cases i<;>simp [ir176,Id.all_z,Id.all_o,Id.all_n,Id.ptr_z,Id.ptr_o,Id.ptr_n,Id.right_z,Id.right_o,Id.right_n,ssB,ssU,ssP,appO]
theorem v7 (l r:Id) (H:Heap) (nx:Nat):Ω 117 [.p l.pv,.p r.pv] H nx=some (.p (Id.pair l r).pv,[],[]):=by
 refine ae (ir:=ir117) (by kernel_rfl) 0 ?_
 unfold Id.pair
 cases l<;>cases r
 all_goals simp [ir117,Id.all_z,Id.all_o,Id.all_n,Id.ptr_z,Id.ptr_o,Id.ptr_n,sN,sP,sO,uK,uM,uL,cC,jk,ssB,ssU,ssP,appO]
theorem rZ (i:Id):i.depth<2^62→∀ (H:Heap) (nx:Nat),Ω 118 [.p i.pv] H nx=some (.int .i64 i.depth,[],[]):=by
 induction i with
 | node l r ihl ihr=>
  intro hd H nx
  simp only [Id.depth] at hd
  have hl:=ihl (by omega)
  have hr:=ihr (by omega)
  refine ae (ir:=ir118) (by kernel_rfl) 0 ?_
  simp [ir118,Id.all_z,Id.all_o,Id.all_n,Id.ptr_z,Id.ptr_o,Id.ptr_n,hl,hr,Id.depth,ssB,ssU,ssP,appO]
  rw [am _ (by split<;>omega) (by split<;>omega)]
  split<;>omega
 | _=>
  intro _ H nx
  refine ae (ir:=ir118) (by kernel_rfl) 0 ?_
  simp [ir118,Id.all_z,Id.all_o,Id.all_n,Id.ptr_z,Id.ptr_o,Id.ptr_n,Id.depth,ssB,ssU,ssP,appO]
theorem vH (l r:Id) (hd:(Id.pair l r).depth<2^62) (H:Heap) (nx:Nat):Ω 67 [.p l.pv,.p r.pv] H nx=
  some (if (Id.pair l r).depth≤16 then .tuple [.p (Id.pair l r).pv,.int .i64 0] else .tuple [.p Id.zero.pv,.int .i64 3],[],[]):=by
 refine ae (ir:=ir67) (by kernel_rfl) 0 ?_
 by_cases h:(Id.pair l r).depth≤16
 ·have h':((Id.pair l r).depth:Int)≤16:=by omega
  simp [ir67,v7,rZ _ hd,h,h',ssB,ssU,ssP,appO]
 ·have h' : ¬((Id.pair l r).depth:Int)≤16:=by omega
  simp [ir67,v7,rZ _ hd,h,h',cC,Id.all_z,Id.ptr_z,Id.ptr_o,Id.ptr_n,ssB,ssU,ssP,appO]
end Go.Proofs.YtppeggedcaabkaaGreatDoor
end

section
namespace Go.Proofs.YtppeggedcaabkaaGreatDoor
open Go Go.Sx
inductive Ev where
 | leaf (n:Nat)
 | node (n:Nat) (l r:Ev)
 deriving DecidableEq
def Ev.n:Ev→Nat
 | .leaf n=>n
 | .node n _ _=>n
theorem Ev.n_l (n:Nat):(Ev.leaf n).n=n:=rfl
theorem Ev.n_n (n:Nat) (l r:Ev):(Ev.node n l r).n=n:=rfl
def Ev.ptr:Ev→PV
 | .leaf _=>.s (.pointer none)
 | .node _ l r=>.imm [.s (.int .u64 l.n),l.ptr,.s (.int .u64 r.n),r.ptr] 0
theorem Ev.ptr_l (n:Nat):(Ev.leaf n).ptr = .s (.pointer none):=rfl
theorem Ev.ptr_n (n:Nat) (l r:Ev):(Ev.node n l r).ptr = .imm [.s (.int .u64 l.n),l.ptr,.s (.int .u64 r.n),r.ptr] 0:=rfl
abbrev Ev.pv (e:Ev):PV:=.agg [.s (.int .u64 e.n),e.ptr]
def Ev.isLeaf:Ev→Bool
 | .leaf _=>true
 | _=>false
def Ev.left:Ev→Ev
 | .leaf _=>.leaf 0
 | .node _ l _=>l
def Ev.right:Ev→Ev
 | .leaf _=>.leaf 0
 | .node _ _ r=>r
def Ev.up (e:Ev) (k:Nat):Ev:=match e with
 | .leaf n=>.leaf (n+k)
 | .node n l r=>.node (n+k) l r
theorem Ev.up_n (e:Ev) (k:Nat):(e.up k).n=e.n+k:=by cases e<;>rfl
theorem Ev.up_ptr (e:Ev) (k:Nat):(e.up k).ptr=e.ptr:=by cases e<;>rfl
def Ev.max:Ev→Nat
 | .leaf n=>n
 | .node n l r=>n+Max.max l.max r.max
def Ev.depth:Ev→Nat
 | .node _ l r=>1+Max.max l.depth r.depth
 | _=>0
theorem Ev.n_max (e:Ev):e.n≤e.max:=by cases e<;>simp [Ev.n,Ev.max]
theorem Ev.up_max (e:Ev) (k:Nat):(e.up k).max=e.max+k:=by cases e<;>simp [Ev.up,Ev.max]<;>omega
theorem Ev.up_depth (e:Ev) (k:Nat):(e.up k).depth=e.depth:=by cases e<;>rfl
theorem Ev.max_l (n:Nat) (l r:Ev):n+l.max≤(Ev.node n l r).max:=Nat.add_le_add_left (Nat.le_max_left _ _) n
theorem Ev.max_r (n:Nat) (l r:Ev):n+r.max≤(Ev.node n l r).max:=Nat.add_le_add_left (Nat.le_max_right _ _) n
theorem aM (x:Int) (h0:0≤x) (h:x<2^64):IntKind.u64.wrap x=x:=by
 simp [IntKind.wrap,IntKind.signed,IntKind.bits]
 omega
theorem lC (n:Int) (H:Heap) (nx:Nat):Ω 133 [.p (.agg [.s (.int .u64 n),.s (.pointer none)])] H nx=some (.p (.agg [.s (.int .u64 0),.s (.pointer none)]),[],[]):=by
 refine ae (ir:=ir133) (by kernel_rfl) 0 ?_
 simp [ir133,ssB,ssU,ssP,appO]
theorem lG (n a b:Int) (p q:PV) (H:Heap) (nx:Nat):Ω 133 [.p (.agg [.s (.int .u64 n),.imm [.s (.int .u64 a),p,.s (.int .u64 b),q] 0])] H nx=some (.p (.agg [.s (.int .u64 a),p]),[],[]):=by
 refine ae (ir:=ir133) (by kernel_rfl) 0 ?_
 simp [ir133,ssB,ssU,ssP,appO]
theorem jN (n:Int) (H:Heap) (nx:Nat):Ω 134 [.p (.agg [.s (.int .u64 n),.s (.pointer none)])] H nx=some (.p (.agg [.s (.int .u64 0),.s (.pointer none)]),[],[]):=by
 refine ae (ir:=ir134) (by kernel_rfl) 0 ?_
 simp [ir134,ssB,ssU,ssP,appO]
theorem jO (n a b:Int) (p q:PV) (H:Heap) (nx:Nat):Ω 134 [.p (.agg [.s (.int .u64 n),.imm [.s (.int .u64 a),p,.s (.int .u64 b),q] 0])] H nx=some (.p (.agg [.s (.int .u64 b),q]),[],[]):=by
 refine ae (ir:=ir134) (by kernel_rfl) 0 ?_
 simp [ir134,ssB,ssU,ssP,appO]
theorem i8 (n:Int) (H:Heap) (nx:Nat):Ω 135 [.p (.agg [.s (.int .u64 n),.s (.pointer none)])] H nx=some (.bool true,[],[]):=by
 refine ae (ir:=ir135) (by kernel_rfl) 0 ?_
 simp [ir135,ssB,ssU,ssP,appO]
theorem i9 (n:Int) (cs:List PV) (H:Heap) (nx:Nat):Ω 135 [.p (.agg [.s (.int .u64 n),.imm cs 0])] H nx=some (.bool false,[],[]):=by
 refine ae (ir:=ir135) (by kernel_rfl) 0 ?_
 simp [ir135,ssB,ssU,ssP,appO]
theorem oG (n:Int) (p:PV) (H:Heap) (nx:Nat):Ω 138 [.p (.agg [.s (.int .u64 n),p])] H nx=some (.int .u64 n,[],[]):=by
 refine ae (ir:=ir138) (by kernel_rfl) 0 ?_
 simp [ir138,ssB,ssU,ssP,appO]
theorem lH (n k:Int) (p:PV) (h0:0≤n+k) (h:n+k<2^64) (H:Heap) (nx:Nat):Ω 145 [.p (.agg [.s (.int .u64 n),p]),.int .u64 k] H nx=some (.p (.agg [.s (.int .u64 (n+k)),p]),[],[]):=by
 refine ae (ir:=ir145) (by kernel_rfl) 0 ?_
 have hw:=aM (n+k) h0 h
 simp [ir145,hw,ssB,ssU,ssP,appO]
def Ev.leq:Nat→Ev→Ev→Bool
 | 0,a,b=>decide (a.n≤b.n)
 | d+1,a,b=>match a with
  | .leaf n=>decide (n≤b.n)
  | .node n l r=>if b.n<n∧b.isLeaf then false else Ev.leq d (l.up n) (b.left.up b.n)&&Ev.leq d (r.up n) (b.right.up b.n)
theorem wn : ∀ (d:Nat) (a b:Ev),a.depth≤d→a.max<2^63→b.max<2^63→∀ (H:Heap) (nx:Nat),Ω 90 [.p a.pv,.p b.pv] H nx=some (.bool (Ev.leq d a b),[],[]):=by
 intro d
 have leafc : ∀ d (n:Nat) (b:Ev) (H:Heap) (nx:Nat),Ω 90 [.p (Ev.leaf n).pv,.p b.pv] H nx=some (.bool (Ev.leq d (.leaf n) b),[],[]):=by
  intro d n b H nx
  have e:Ev.leq d (.leaf n) b=decide (n≤b.n):=by cases d<;>rfl
  rw [e]
  refine ae (ir:=ir90) (by kernel_rfl) 0 ?_
  simp [ir90,Ev.n_l,Ev.ptr_l,ssB,ssU,ssP,appO]
  try exact decide_eq_decide.2 Iff.rfl
 induction d with
 | zero=>
  intro a b ha _ _ H nx
  cases a with
  | node n l r=>simp [Ev.depth] at ha
  | leaf n=>exact leafc 0 n b H nx
 | succ d ih=>
  intro a b ha hma hmb H nx
  cases a with
  | leaf n=>exact leafc (d+1) n b H nx
  | node n l r=>
   have m1:=Ev.max_l n l r
   have m2:=Ev.max_r n l r
   have n1:=l.n_max
   have n2:=r.n_max
   have hdl:l.depth≤d:=by simp only [Ev.depth] at ha;have:=Nat.le_max_left l.depth r.depth;omega
   have hdr:r.depth≤d:=by simp only [Ev.depth] at ha;have:=Nat.le_max_right l.depth r.depth;omega
   have u1:=lH l.n n l.ptr (by omega) (by omega)
   have u2:=lH r.n n r.ptr (by omega) (by omega)
   refine ae (ir:=ir90) (by kernel_rfl) 0 ?_
   cases b with
   | leaf m=>
    have hm:m<2^63:=hmb
    have u3:=lH 0 m (.s (.pointer none)) (by omega) (by omega)
    by_cases h:n≤m
    ·have h' : ¬m<n:=by omega
     have e1:=ih (l.up n) ((Ev.leaf 0).up m) (by rw [Ev.up_depth];exact hdl) (by rw [Ev.up_max];omega) (by rw [Ev.up_max];simp [Ev.max];omega)
     have e2:=ih (r.up n) ((Ev.leaf 0).up m) (by rw [Ev.up_depth];exact hdr) (by rw [Ev.up_max];omega) (by rw [Ev.up_max];simp [Ev.max];omega)
     have hl:Ev.leq (d+1) (.node n l r) (.leaf m)=(Ev.leq d (l.up n) ((Ev.leaf 0).up m)&&Ev.leq d (r.up n) ((Ev.leaf 0).up m)):=by simp [Ev.leq,Ev.isLeaf,Ev.n_l,h',Ev.left,Ev.right]
     rw [hl]
     simp only [Ev.pv,Ev.up_n,Ev.up_ptr,Ev.n_l,Ev.ptr_l,Nat.zero_add,Int.natCast_add] at e1 e2
     simp only [Int.zero_add] at u3
     cases h2:Ev.leq d (l.up n) ((Ev.leaf 0).up m)<;>rw [h2] at e1 <;>
     simp [ir90,Ev.n_l,Ev.n_n,Ev.ptr_l,Ev.ptr_n,lC,jN,u1,u2,u3,e1,e2,h,h',ssB,ssU,ssP,appO]
    ·have h':m<n:=by omega
     have hl:Ev.leq (d+1) (.node n l r) (.leaf m)=false:=by simp [Ev.leq,Ev.isLeaf,Ev.n_l,h']
     rw [hl]
     simp [ir90,Ev.n_l,Ev.n_n,Ev.ptr_l,Ev.ptr_n,h,h',ssB,ssU,ssP,appO]
   | node m bl br=>
    have m3:=Ev.max_l m bl br
    have m4:=Ev.max_r m bl br
    have n3:=bl.n_max
    have n4:=br.n_max
    have u3:=lH bl.n m bl.ptr (by omega) (by omega)
    have u4:=lH br.n m br.ptr (by omega) (by omega)
    have e1:=ih (l.up n) (bl.up m) (by rw [Ev.up_depth];exact hdl) (by rw [Ev.up_max];omega) (by rw [Ev.up_max];omega)
    have e2:=ih (r.up n) (br.up m) (by rw [Ev.up_depth];exact hdr) (by rw [Ev.up_max];omega) (by rw [Ev.up_max];omega)
    have hl:Ev.leq (d+1) (.node n l r) (.node m bl br)=(Ev.leq d (l.up n) (bl.up m)&&Ev.leq d (r.up n) (br.up m)):=by simp [Ev.leq,Ev.isLeaf,Ev.left,Ev.right,Ev.n_n]
    rw [hl]
    simp only [Ev.pv,Ev.up_n,Ev.up_ptr,Int.natCast_add] at e1 e2
    cases h2:Ev.leq d (l.up n) (bl.up m)<;>rw [h2] at e1<;>by_cases h:n≤m <;>
    simp [ir90,Ev.n_n,Ev.ptr_n,lG,jO,u1,u2,u3,u4,e1,e2,h,ssB,ssU,ssP,appO]
end Go.Proofs.YtppeggedcaabkaaGreatDoor
end

section
namespace Go.Proofs.YtppeggedcaabkaaGreatDoor
open Go Go.Sx
def Ev.leqb (a b:Ev):Bool:=Ev.leq a.depth a b
theorem nu (a b:Ev) (ha:a.max<2^63) (hb:b.max<2^63) (H:Heap) (nx:Nat):Ω 90 [.p a.pv,.p b.pv] H nx=some (.bool (Ev.leqb a b),[],[]):=wn a.depth a b (Nat.le_refl _) ha hb H nx
theorem ur (a b:Ev) (ha:a.max<2^63) (hb:b.max<2^63) (H:Heap) (nx:Nat):Ω 85 [.p a.pv,.p b.pv] H nx=some (.bool (Ev.leqb a b&&Ev.leqb b a),[],[]):=by
 refine ae (ir:=ir85) (by kernel_rfl) 0 ?_
 have h1:=nu a b ha hb
 have h2:=nu b a hb ha
 cases h:Ev.leqb a b<;>rw [h] at h1<;>simp [ir85,h1,h2,ssB,ssU,ssP,appO]
theorem sf (e:Ev):e.depth<2^62→∀ (H:Heap) (nx:Nat),Ω 158 [.p e.pv] H nx=some (.int .i64 e.depth,[],[]):=by
 induction e with
 | leaf n=>
  intro _ H nx
  refine ae (ir:=ir158) (by kernel_rfl) 0 ?_
  simp [ir158,Ev.ptr_l,Ev.depth,ssB,ssU,ssP,appO]
 | node n l r ihl ihr=>
  intro hd H nx
  simp only [Ev.depth] at hd
  have d1:l.depth≤Max.max l.depth r.depth:=Nat.le_max_left _ _
  have d2:r.depth≤Max.max l.depth r.depth:=Nat.le_max_right _ _
  have hl:=ihl (by omega)
  have hr:=ihr (by omega)
  refine ae (ir:=ir158) (by kernel_rfl) 0 ?_
  have hw:IntKind.i64.wrap (1+(if (r.depth:Int)>l.depth then (r.depth:Int) else l.depth))=((1+Max.max l.depth r.depth:Nat):Int):=by
   rw [am _ (by split<;>omega) (by split<;>omega)]
   split<;>omega
  simp [ir158,Ev.ptr_n,hl,hr,ssB,ssU,ssP,appO]
  simpa [Ev.depth] using hw
theorem wo (e:Ev):e.max<2^64→∀ (H:Heap) (nx:Nat),Ω 159 [.p e.pv] H nx=some (.int .u64 e.max,[],[]):=by
 induction e with
 | leaf n=>
  intro _ H nx
  refine ae (ir:=ir159) (by kernel_rfl) 0 ?_
  simp [ir159,Ev.ptr_l,Ev.n_l,Ev.max,ssB,ssU,ssP,appO]
 | node n l r ihl ihr=>
  intro hd H nx
  have d1:=Ev.max_l n l r
  have d2:=Ev.max_r n l r
  have hl:=ihl (by omega)
  have hr:=ihr (by omega)
  refine ae (ir:=ir159) (by kernel_rfl) 0 ?_
  have hm:(Ev.node n l r).max=n+Max.max l.max r.max:=rfl
  have hw:IntKind.u64.wrap ((n:Int)+(if (r.max:Int)>l.max then (r.max:Int) else l.max))=(((Ev.node n l r).max:Nat):Int):=by
   rw [hm] at hd ⊢
   rw [aM _ (by split<;>omega) (by split<;>omega)]
   split<;>omega
  simp [ir159,Ev.ptr_n,Ev.n_n,hl,hr,ssB,ssU,ssP,appO]
  simpa using hw
def Ev.err (e:Ev):Nat:=if 16<e.depth then 3 else if 2^20<e.max then 4 else 0
theorem jM (e:Ev) (hd:e.depth<2^62) (hm:e.max<2^64) (H:Heap) (nx:Nat):Ω 116 [.p e.pv] H nx=some (.int .i64 e.err,[],[]):=by
 refine ae (ir:=ir116) (by kernel_rfl) 0 ?_
 have h1:=sf e hd
 have h2:=wo e hm
 unfold Ev.err
 by_cases c1:16<e.depth
 ·have c1' : ¬(e.depth:Int)≤16:=by omega
  simp [ir116,h1,h2,c1,c1',ssB,ssU,ssP,appO]
 ·have c1':(e.depth:Int)≤16:=by omega
  by_cases c2:2^20<e.max
  ·have c2' : ¬(e.max:Int)≤1048576:=by omega
   simp [ir116,h1,h2,c1,c1',c2,c2',ssB,ssU,ssP,appO]
  ·have c2':(e.max:Int)≤1048576:=by omega
   simp [ir116,h1,h2,c1,c1',c2,c2',ssB,ssU,ssP,appO]
def Ev.down (e:Ev) (k:Nat):Ev:=match e with
 | .leaf n=>.leaf (n-k)
 | .node n l r=>.node (n-k) l r
theorem Ev.down_n (e:Ev) (k:Nat):(e.down k).n=e.n-k:=by cases e<;>rfl
theorem Ev.down_ptr (e:Ev) (k:Nat):(e.down k).ptr=e.ptr:=by cases e<;>rfl
def Ev.mk (n:Nat) (l r:Ev):Ev:=if l.isLeaf=true∧r.isLeaf=true∧l.n=r.n then .leaf (n+l.n) else .node (n+Min.min l.n r.n) (l.down (Min.min l.n r.n)) (r.down (Min.min l.n r.n))
theorem qG (n a:Nat) (h1:n+a<2^64) (H:Heap) (nx:Nat):Ω 115 [.int .u64 n,.p (Ev.leaf a).pv,.p (Ev.leaf a).pv] H nx=some (.p (Ev.leaf (n+a)).pv,[],[]):=by
 refine ae (ir:=ir115) (by kernel_rfl) 0 ?_
 have hw:IntKind.u64.wrap ((n:Int)+a)=(n:Int)+a:=aM _ (by omega) (by omega)
 simp [ir115,Ev.n_l,Ev.ptr_l,ssB,ssU,ssP,appO,hw]
theorem qH (n:Nat) (l r:Ev) (hc : ¬(l.isLeaf=true∧r.isLeaf=true∧l.n=r.n)) (h1:n+l.n<2^64) (h2:r.n<2^64) (m:Nat) (hmm:Min.min l.n r.n=m) (H:Heap) (nx:Nat):Ω 115 [.int .u64 n,.p l.pv,.p r.pv] H nx=
  some (.p (.agg [.s (.int .u64 ((n+m:Nat):Int)),.imm [.s (.int .u64 ((l.n-m:Nat):Int)),l.ptr,.s (.int .u64 ((r.n-m:Nat):Int)),r.ptr] 0]),[],[]):=by
 refine ae (ir:=ir115) (by kernel_rfl) 0 ?_
 have hw:IntKind.u64.wrap ((n:Int)+l.n)=(n:Int)+l.n:=aM _ (by omega) (by omega)
 have hmin:(if (r.n:Int)<l.n then (r.n:Int) else l.n)=(m:Int):=by split<;>omega
 have hmin' : ∀ (i:Decidable (r.n<l.n)),@ite Int (r.n<l.n) i (r.n:Int) (l.n:Int)=(m:Int):=fun i=>by split<;>omega
 have hw1:IntKind.u64.wrap ((n:Int)+m)=(n:Int)+m:=aM _ (by omega) (by omega)
 have hw2:IntKind.u64.wrap ((l.n:Int)-m)=((l.n-m:Nat):Int):=by rw [aM _ (by omega) (by omega)];omega
 have hw3:IntKind.u64.wrap ((r.n:Int)-m)=((r.n-m:Nat):Int):=by rw [aM _ (by omega) (by omega)];omega
 generalize l.n-m=lm at*
 generalize r.n-m=rm at*
 cases l with
 | leaf a=>
  cases r with
  | leaf b=>
   have hln : ¬a=b:=fun h=>hc ⟨rfl,rfl,h⟩
   have e2:((a:Int)==b)=false:=by simp;omega
   simp only [Ev.n_l] at hw hmin hmin' hw2 hw3
   simp [ir115,Ev.n_l,Ev.ptr_l,ssB,ssU,ssP,appO,e2,hw,hmin',hw1,hw2,hw3]
  | node b b1 b2=>
   simp only [Ev.n_l,Ev.n_n] at hw hmin hmin' hw2 hw3
   simp [ir115,Ev.n_l,Ev.ptr_l,Ev.n_n,Ev.ptr_n,ssB,ssU,ssP,appO,hw,hmin',hw1,hw2,hw3]
 | node a a1 a2=>
  simp only [Ev.n_n] at hw hmin hmin' hw2
  simp [ir115,Ev.n_n,Ev.ptr_n,ssB,ssU,ssP,appO,hw,hmin',hw1,hw2,hw3]
theorem oR (n:Nat) (l r:Ev) (h1:n+l.n<2^64) (h2:r.n<2^64) (H:Heap) (nx:Nat):Ω 115 [.int .u64 n,.p l.pv,.p r.pv] H nx=some (.p (Ev.mk n l r).pv,[],[]):=by
 unfold Ev.mk
 by_cases hc:l.isLeaf=true∧r.isLeaf=true∧l.n=r.n
 ·rw [if_pos hc]
  cases l with
  | leaf a=>
   cases r with
   | leaf b=>
    obtain rfl:a=b:=hc.2.2
    exact qG n a h1 H nx
   | node b b1 b2=>cases hc.2.1
  | node a a1 a2=>cases hc.1
 ·rw [if_neg hc,qH n l r hc h1 h2 _ rfl]
  simp only [Ev.pv,Ev.n_n,Ev.ptr_n,Ev.down_n,Ev.down_ptr]
theorem ko (n:Nat) (h:n≤2^20) (H:Heap) (nx:Nat):Ω 62 [.int .u64 n] H nx=some (.tuple [.p (Ev.leaf n).pv,.int .i64 0],[],[]):=by
 refine ae (ir:=ir62) (by kernel_rfl) 0 ?_
 have h1:(n:Int)≤1048576:=by omega
 simp [ir62,Ev.n_l,Ev.ptr_l,ssB,ssU,ssP,appO,h1]
theorem oH (n:Nat) (l r:Ev) (hn:n≤2^20) (h1:(Ev.mk n l r).err=0) (h2:l.n≤2^21) (h3:r.n≤2^21) (hd:(Ev.mk n l r).depth<2^62) (hm:(Ev.mk n l r).max<2^64) (H:Heap) (nx:Nat):
  Ω 63 [.int .u64 n,.p l.pv,.p r.pv] H nx=some (.tuple [.p (Ev.mk n l r).pv,.int .i64 0],[],[]):=by
 refine ae (ir:=ir63) (by kernel_rfl) 0 ?_
 have hmin : ¬(2097152:Int)<n:=by omega
 have e1:=oR n l r (by omega) (by omega)
 have e2:=jM _ hd hm
 rw [h1] at e2
 generalize Ev.mk n l r=e at*
 simp [ir63,ssB,ssU,ssP,appO,e1,e2,hmin]
end Go.Proofs.YtppeggedcaabkaaGreatDoor
end

section
namespace Go.Proofs.YtppeggedcaabkaaGreatDoor
open Go Go.Sx
def addBit (p:List UInt8) (n:Nat) (b:Bool):List UInt8:=
 let q:=if n%8=0 then p++[0] else p
 if b then q.set (n/8) (q.getD (n/8) 0 ||| UInt8.ofNat (128 >>> (n%8))) else q
def addBits (p:List UInt8) (n:Nat):List Bool→List UInt8
 | []=>p
 | b::l=>addBits (addBit p n b) (n+1) l
theorem ba (p:List UInt8) (n:Nat) (l m:List Bool):addBits p n (l++m)=addBits (addBits p n l) (n+l.length) m:=by
 induction l generalizing p n with
 | nil=>rfl
 | cons b l ih=>rw [List.cons_append,addBits,addBits,ih,List.length_cons,Nat.add_assoc,Nat.add_comm 1]
def bitsOf (x:Nat):Nat→List Bool
 | 0=>[]
 | k+1=>x.testBit k::bitsOf x k
theorem aj (x:Nat) : ∀ k,(bitsOf x k).length=k
 | 0=>rfl
 | k+1=>by rw [bitsOf,List.length_cons,aj x k]
theorem iW (p:List UInt8) (n:Nat) (b:Bool) (h:p.length=(n+7)/8):(addBit p n b).length=(n+1+7)/8:=by
 unfold addBit
 by_cases h8:n%8=0<;>cases b<;>simp [h8,h]<;>omega
structure Wr (H:Heap) (nx wid pid:Nat) (p:List UInt8) (n:Nat):Prop where
 lt:wid<nx
 len:p.length=(n+7)/8
 small:n<2^30
 at':(n=0∧H wid=some (.cells [.p (.s (.slice none 0 0)),.int .i64 0])) ∨
  (0<n∧pid<nx∧pid≠wid∧H wid=some (.cells [.arr pid 0 p.length 1 p.length false,.int .i64 n])∧H pid=some (.cells (byt p)))
theorem pX (k:Nat) (hk:k≤64) (H:Heap) (nx:Nat):Ω 177 [.int .i64 k] H nx=some (.int .i64 k,[],[]):=by
 refine ae (ir:=ir177) (by kernel_rfl) 0 ?_
 have h1 : ¬(0:Int)>k:=by omega
 have h2 : ¬(64:Int)<k:=by omega
 have h3 : ¬64<k:=by omega
 simp [ir177,ssB,ssU,ssP,appO,h1,h2,h3]
theorem eM (k:IntKind) (x y:Int) (hy:y≠0):binI .rem k x y=some (.int k (x.tmod y)):=by simp [binI,hy]
theorem qb:binI .quo .i64 0 8=some (.int .i64 0):=rfl
section put
variable {H:Heap} {nx wid pid:Nat} {h:Hp} {p:List UInt8} {n:Nat}
theorem kY (x k:Nat) (hk:k≤64):shI .shr .u64 x k=some (.int .u64 (x >>> k:Nat)):=by
 have:shI .shr .u64 (x:Int) k=some (.int .u64 ((x:Int).fdiv (2^(min k 64)))):=by
  simp only [shI]
  rw [if_neg (by omega)]
  rfl
 rw [this,Nat.shiftRight_eq_div_pow,Int.fdiv_eq_ediv_of_nonneg _ (Int.le_of_lt (Int.pow_pos (by decide))),Nat.min_eq_left hk]
 norm_cast
theorem tN (x k:Nat) (hk:k≤64):shI .shl .u64 x k=some (.int .u64 (x*2^k%2^64:Nat)):=by
 have:shI .shl .u64 (x:Int) k=some (.int .u64 (IntKind.u64.wrap ((x:Int)*(2^(min k 64))))):=by
  simp only [shI]
  rw [if_neg (by omega)]
  rfl
 rw [this,Nat.min_eq_left hk]
 simp [IntKind.wrap,IntKind.signed,IntKind.bits]
theorem xh (y:Nat):binI .and .u64 y 1=some (.int .u64 (y%2:Nat)):=by
 have:binI .and .u64 (y:Int) 1=some (.int .u64 (IntKind.u64.wrap (BitVec.ofInt 64 (y:Int) &&& BitVec.ofInt 64 1).toNat)):=rfl
 rw [this,BitVec.ofInt_natCast,BitVec.toNat_and,BitVec.toNat_ofNat]
 have e:(BitVec.ofInt 64 1).toNat=1:=by decide
 rw [e,Nat.and_one_is_mod]
 have e2:y%2^64%2=y%2:=by omega
 rw [e2]
 simp [IntKind.wrap,IntKind.signed,IntKind.bits]
 omega
theorem vw (k:Nat) (hk:k<8):shI .shr .u8 128 k=some (.int .u8 ((UInt8.ofNat (128 >>> k)).toNat:Nat)):=by
 match k,hk with
 | 0,_|1,_|2,_|3,_|4,_|5,_|6,_|7,_=>rfl
theorem xN (x y:UInt8):binI .or .u8 x.toNat y.toNat=some (.int .u8 (x ||| y).toNat):=by
 have:binI .or .u8 (x.toNat:Int) (y.toNat:Int)=some (.int .u8 (IntKind.u8.wrap (BitVec.ofInt 8 (x.toNat:Int) ||| BitVec.ofInt 8 (y.toNat:Int)).toNat)):=rfl
 have hx:=x.toNat_lt
 have hy:=y.toNat_lt
 rw [this,BitVec.ofInt_natCast,BitVec.ofInt_natCast,BitVec.toNat_or,BitVec.toNat_ofNat,BitVec.toNat_ofNat,Nat.mod_eq_of_lt hx,Nat.mod_eq_of_lt hy,UInt8.toNat_or]
 have:=Nat.or_lt_two_pow (n:=8) hx hy
 simp [IntKind.wrap,IntKind.signed,IntKind.bits]
 omega
inductive UF (wid pid0:Nat):Upd→Prop where
 | u0:UF wid pid0 []
 | u1 (X:Ob):UF wid pid0 [(wid,X)]
 | u2 (X Z:Ob):UF wid pid0 [(pid0,Z),(wid,X)]
 | u3 (X Z:Ob):UF wid pid0 [(wid,X),(pid0,Z)]
 | u4 (Z:Ob):UF wid pid0 [(pid0,Z)]
theorem UF.setW {wid pid0:Nat} (hne:pid0≠wid) {u:Upd} (h:UF wid pid0 u) (X:Ob):UF wid pid0 (setU u wid X):=by
 have h1 : ¬wid=pid0:=fun e=>hne e.symm
 cases h<;>simp [setU,h1]<;>constructor
theorem UF.setP {wid pid0:Nat} (hne:pid0≠wid) {u:Upd} (h:UF wid pid0 u) (Z:Ob):UF wid pid0 (setU u pid0 Z):=by
 cases h<;>simp [setU,hne]<;>constructor
theorem bO (nx:Nat) (x:Hp) (id:Nat) (o:Ob) (h:id<nx):(Go.Sx.setObj nx x id o).upd=setU x.upd id o:=by simp [Go.Sx.setObj,h]
theorem aY (u:Upd) (id j:Nat) (o:Ob):findU (setU u id o) j=if j=id then some o else findU u j:=fE j
structure UZ (nx wid pid0:Nat) (h:Hp):Prop where
 uf:UF wid pid0 h.upd
 zz : ∀ o,findU h.upd pid0=some o→o=none∨∃ l,o=some (.cells (byt l))
 kk : ∀ id o,findU h.upd id=some o→id<nx
theorem UZ.push {nx wid pid0:Nat} {h:Hp} (g:UZ nx wid pid0 h) (o:Go.Sx.Obj):UZ nx wid pid0 (Go.Sx.push h o):=⟨g.uf,g.zz,g.kk⟩
theorem UZ.objW {nx wid pid0:Nat} {h:Hp} (hlt:wid<nx) (hne:pid0≠wid) (g:UZ nx wid pid0 h) (o:Ob):UZ nx wid pid0 (Go.Sx.setObj nx h wid o):=by
 refine ⟨?_,fun q hq => ?_,fun id q hq => ?_⟩
 ·rw [bO _ _ _ _ hlt];exact g.uf.setW hne o
 ·rw [bO _ _ _ _ hlt,aY,if_neg hne] at hq;exact g.zz q hq
 ·rw [bO _ _ _ _ hlt,aY] at hq
  split at hq
  ·rename_i e;rw [e];exact hlt
  ·exact g.kk id q hq
theorem UZ.objP {nx wid pid0 pid:Nat} {h:Hp} (hne:pid0≠wid) (hp:pid=pid0∨nx≤pid) (g:UZ nx wid pid0 h) (o:Ob) (ho:o=none∨∃ l,o=some (.cells (byt l))):UZ nx wid pid0 (Go.Sx.setObj nx h pid o):=by
 by_cases hlt:pid<nx
 ·obtain rfl:pid=pid0:=by
   rcases hp with h|h
   ·exact h
   ·omega
  refine ⟨?_,fun q hq => ?_,fun id q hq => ?_⟩
  ·rw [bO _ _ _ _ hlt];exact g.uf.setP hne o
  ·rw [bO _ _ _ _ hlt,aY,if_pos rfl] at hq
   obtain rfl:=Option.some.inj hq
   exact ho
  ·rw [bO _ _ _ _ hlt,aY] at hq
   split at hq
   ·rename_i e;rw [e];exact hlt
   ·exact g.kk id q hq
 ·exact ⟨by rw [cX _ _ _ _ hlt];exact g.uf,fun q hq=>g.zz q (by rwa [cX _ _ _ _ hlt] at hq),fun id q hq=>g.kk id q (by rwa [cX _ _ _ _ hlt] at hq)⟩
structure WrH (H:Heap) (nx:Nat) (h:Hp) (wid pid0 pid:Nat) (p:List UInt8) (n:Nat):Prop where
 lt:wid<nx
 ne0:pid0≠wid
 len:p.length=(n+7)/8
 small:n<2^30
 uz:UZ nx wid pid0 h
 at':(n=0∧Go.Sx.look H nx h wid=some (.cells [.p (.s (.slice none 0 0)),.int .i64 0])) ∨
  (0<n∧pid<nx+h.new.length∧pid≠wid∧(pid=pid0∨nx≤pid)∧Go.Sx.look H nx h wid=some (.cells [.arr pid 0 p.length 1 p.length false,.int .i64 n])∧Go.Sx.look H nx h pid=some (.cells (byt p)))
section bit
variable {H:Heap} {nx wid pid0 pid:Nat} {h:Hp} {p:List UInt8} {n:Nat}
theorem yf (n:Nat):(n:Int).tmod 8=((n%8:Nat):Int):=by
 rw [Int.tmod_eq_emod_of_nonneg (by omega)];norm_cast
theorem ye (n:Nat):(n:Int).tdiv 8=((n/8:Nat):Int):=by
 rw [Int.tdiv_eq_ediv_of_nonneg (by omega)];norm_cast
theorem yo (N:Nat) (g:WrH H nx h wid pid0 pid p n) (hs:n+1<2^30) (x i:Nat) (hi:i<64) : ∃ h' pid',
  runCS ⟨Ω,noG,H,nx⟩ N ir136_0 ⟨[(0,.ref wid 0),(1,.int .u64 x),(6,.int .i64 i)],h⟩=some (.normal,⟨[(0,.ref wid 0),(1,.int .u64 x),(6,.int .i64 ((i:Int)-1))],h'⟩) ∧
  WrH H nx h' wid pid0 pid' (addBit p n (x.testBit i)) (n+1)∧(findU h'.upd wid).isSome=true:=by
 have hlt:=g.lt
 have hne:=g.ne0
 have hlen:=iW p n (x.testBit i) g.len
 have hi0:(0:Int)≤i:=by omega
 have hwi:IntKind.i64.wrap ((i:Int)-1)=(i:Int)-1:=am _ (by omega) (by omega)
 have hwn:IntKind.i64.wrap ((n:Int)+1)=(n:Int)+1:=am _ (by omega) (by omega)
 have hw1:IntKind.i64.wrap 1=1:=rfl
 have hsh:=kY x i (by omega)
 have han:=xh (x >>> i)
 have htb:x >>> i%2=(if x.testBit i then 1 else 0):=by
  rw [Nat.testBit_eq_decide_div_mod_eq,Nat.shiftRight_eq_div_pow]
  have:=Nat.mod_two_eq_zero_or_one (x/2^i)
  by_cases h:x/2^i%2=1<;>simp [h]
  omega
 have hr8:binI .rem .i64 n 8=some (.int .i64 (n%8:Nat)):=by rw [eM _ _ _ (by decide),yf]
 have hq8:binI .quo .i64 n 8=some (.int .i64 (n/8:Nat)):=by
  have:binI .quo .i64 (n:Int) 8=some (.int .i64 (IntKind.i64.wrap ((n:Int).tdiv 8))):=by simp [binI]
  rw [this,ye,am _ (by omega) (by omega)]
 have htop:=vw (n%8) (Nat.mod_lt _ (by decide))
 have k1 : ∀ k,wid<nx+(h.new.length+k):=fun k=>by omega
 have k2 : ∀ k,¬wid=nx+(h.new.length+k):=fun k=>by omega
 have k3 : ¬wid=nx+h.new.length:=by omega
 have k4:wid<nx+h.new.length:=by omega
 have k5 : ∀ k,¬nx+(h.new.length+k)=wid:=fun k=>by omega
 have k6 : ¬nx+h.new.length=wid:=by omega
 rw [htb] at han
 generalize x >>> i=s at*
 rcases g.at' with ⟨rfl,l1⟩|⟨h0,p1,p2,p3,l1,l2⟩
 ·
  have hp:p=[]:=List.length_eq_zero_iff.1 (by rw [g.len])
  subst hp
  have b0:byt [0]=[.int .u8 0]:=rfl
  cases hb:x.testBit i
  ·have e:=Eq.refl (runCS ⟨Ω,noG,H,nx⟩ N ir136_0 ⟨[(0,.ref wid 0),(1,.int .u64 x),(6,.int .i64 i)],h⟩)
   rw [hb] at han hlen
   conv at e=>
    rhs
    simp [ir136_0,ssB,ssU,ay,ax,bB,Go.Sx.splice,Go.Sx.finish,Go.Sx.setAll,appO,Go.Sx.leI_eq,ltF,aF,aR,aB,bv,Nat.add_assoc,hi0,hwi,hw1,hsh,han,k1,k2,k3,k4,k5,k6,l1,eM]
   rw [hb] at*
   refine ⟨_,nx+(h.new.length+1),e,⟨hlt,hne,hlen,hs,?_,.inr ⟨by omega,?_,?_,.inr ?_,?_,?_⟩⟩,by simp [bO _ _ _ _ hlt,aY]⟩
   ·repeat (first|exact g.uz|apply UZ.push|refine UZ.objW hlt hne ?_ _|refine UZ.objP hne (.inr (by omega)) ?_ _ (.inr ⟨_,rfl⟩))
   all_goals simp [aF,aR,aB,bv,Nat.add_assoc,k1,k2,k3,k4,k5,k6,addBit,byt]
   all_goals try omega
  ·have htop0:shI .shr .u8 128 0=some (.int .u8 128):=rfl
   have hor0:binI .or .u8 0 128=some (.int .u8 128):=rfl
   have e:=Eq.refl (runCS ⟨Ω,noG,H,nx⟩ N ir136_0 ⟨[(0,.ref wid 0),(1,.int .u64 x),(6,.int .i64 i)],h⟩)
   rw [hb] at han hlen
   conv at e=>
    rhs
    simp [ir136_0,ssB,ssU,ay,ax,bB,Go.Sx.splice,Go.Sx.finish,Go.Sx.setAll,appO,Go.Sx.leI_eq,ltF,aF,aR,aB,bv,Nat.add_assoc,hi0,hwi,hw1,hsh,han,k1,k2,k3,k4,k5,k6,l1,eM,qb,htop0,hor0]
   refine ⟨_,nx+(h.new.length+1),e,⟨hlt,hne,hlen,hs,?_,.inr ⟨by omega,?_,?_,.inr ?_,?_,?_⟩⟩,by simp [bO _ _ _ _ hlt,aY]⟩
   ·exact UZ.objW hlt hne (UZ.objP hne (.inr (by omega)) (UZ.objW hlt hne (UZ.push (UZ.push g.uz _) _) _) _ (.inr ⟨[128],rfl⟩)) _
   all_goals simp [aF,aR,aB,bv,Nat.add_assoc,k1,k2,k3,k4,k5,k6,addBit,byt]
   all_goals try omega
 ·have p2' : ¬pid=wid:=p2
  have p2'' : ¬wid=pid:=fun e=>p2 e.symm
  have q1 : ∀ k,pid<nx+(h.new.length+k):=fun k=>by omega
  have q2 : ∀ k,¬pid=nx+(h.new.length+k):=fun k=>by omega
  have q3 : ¬pid=nx+h.new.length:=by omega
  have q4:pid<nx+h.new.length:=by omega
  have q5 : ∀ k,¬nx+(h.new.length+k)=pid:=fun k=>by omega
  have q6 : ¬nx+h.new.length=pid:=by omega
  have hL:=g.len
  have hLb:=ak p
  by_cases h8:n%8=0
  ·have hL8:p.length=n/8:=by omega
   have r0:binI .rem .i64 n 8=some (.int .i64 0):=by rw [hr8,h8];rfl
   rw [h8] at htop
   have htop0:shI .shr .u8 128 0=some (.int .u8 128):=rfl
   have hor0:binI .or .u8 0 128=some (.int .u8 128):=rfl
   have hq8':binI .quo .i64 n 8=some (.int .i64 p.length):=by rw [hq8,hL8]
   have h41 : ¬1099511627776<p.length+1:=by omega
   have h42:p.length+1≤1099511627776:=by omega
   have htk:List.take p.length (byt p)=byt p:=au p
   cases hb:x.testBit i
   ·have e:=Eq.refl (runCS ⟨Ω,noG,H,nx⟩ N ir136_0 ⟨[(0,.ref wid 0),(1,.int .u64 x),(6,.int .i64 i)],h⟩)
    rw [hb] at han hlen
    conv at e=>
     rhs
     simp [ir136_0,ssB,ssU,ay,ax,bB,Go.Sx.splice,Go.Sx.finish,Go.Sx.setAll,appO,Go.Sx.leI_eq,ltF,aF,aR,aB,bv,Nat.add_assoc,hi0,hwi,hwn,hsh,han,k1,k2,k3,k4,k5,k6,q1,q2,q3,q4,q5,q6,p1,p2',p2'',l1,l2,hLb,r0,h41,h42,htk]
    have hadd:addBit p n false=p++[0]:=by simp [addBit,h8]
    rw [hadd] at hlen ⊢
    refine ⟨_,nx+(h.new.length+1),e,⟨hlt,hne,hlen,hs,?_,.inr ⟨by omega,?_,?_,.inr ?_,?_,?_⟩⟩,by simp [bO _ _ _ _ hlt,aY]⟩
    ·exact UZ.objW hlt hne (UZ.objW hlt hne (UZ.push (UZ.objP hne p3 (UZ.push g.uz _) none (.inl rfl)) _) _) _
    all_goals simp [aF,aR,aB,bv,Nat.add_assoc,k1,k2,k3,k4,k5,k6,q1,q2,q3,q4,q5,q6,p1,p2',p2'',l1,l2,hLb,byt]
    all_goals try omega
   ·have hget:(byt p++[.int .u8 0])[p.length]?=some (.int .u8 0):=by rw [List.getElem?_append_right (by rw [ak];omega),ak,Nat.sub_self];rfl
    have hspl:List.take p.length (byt p++[.int .u8 0]) ++ .int .u8 128::List.drop (p.length+1) (byt p++[.int .u8 0])=byt (p++[128]):=by
     rw [List.take_left' (ak p),List.drop_of_length_le (by simp [ak]),aP];rfl
    have e:=Eq.refl (runCS ⟨Ω,noG,H,nx⟩ N ir136_0 ⟨[(0,.ref wid 0),(1,.int .u64 x),(6,.int .i64 i)],h⟩)
    rw [hb] at han hlen
    conv at e=>
     rhs
     simp [ir136_0,ssB,ssU,ay,ax,bB,Go.Sx.splice,Go.Sx.finish,Go.Sx.setAll,appO,Go.Sx.leI_eq,ltF,aF,aR,aB,bv,Nat.add_assoc,hi0,hwi,hwn,hsh,han,k1,k2,k3,k4,k5,k6,q1,q2,q3,q4,q5,q6,p1,p2',p2'',l1,l2,hLb,r0,h41,h42,htk,hq8',htop0,hor0,hget,hspl]
    have hadd:addBit p n true=p++[128]:=by
     simp [addBit,h8,←hL8]
    rw [hadd] at hlen ⊢
    refine ⟨_,nx+(h.new.length+1),e,⟨hlt,hne,hlen,hs,?_,.inr ⟨by omega,?_,?_,.inr ?_,?_,?_⟩⟩,by simp [bO _ _ _ _ hlt,aY]⟩
    ·exact UZ.objW hlt hne (UZ.objP hne (.inr (by omega)) (UZ.objW hlt hne (UZ.push (UZ.objP hne p3 (UZ.push g.uz _) none (.inl rfl)) _) _) _ (.inr ⟨p++[128],by rw [List.drop_of_length_le (by simp [ak]),aP];rfl⟩)) _
    all_goals simp [aF,aR,aB,bv,Nat.add_assoc,k1,k2,k3,k4,k5,k6,q1,q2,q3,q4,q5,q6,p1,p2',p2'',l1,l2,hLb,byt]
    all_goals try omega
  ·have hlt8:n/8<p.length:=by omega
   have hr0 : ¬n%8=0:=h8
   have hrem:(((n%8:Nat):Int)==0)=false:=by simp;omega
   obtain ⟨b,hbq⟩ : ∃ b,p[n/8]?=some b:=⟨p[n/8],List.getElem?_eq_getElem hlt8⟩
   have hbb:(byt p)[n/8]?=some (.int .u8 b.toNat):=by simp [byt,hbq]
   have hbb2 : ∀ h:n/8<(byt p).length,(byt p)[n/8] = .int .u8 b.toNat:=fun h=>(List.getElem?_eq_some_iff.1 hbb).2
   have hor:=xN b (UInt8.ofNat (128 >>> (n%8)))
   have hset:List.take (n/8) (byt p) ++ .int .u8 (b ||| UInt8.ofNat (128 >>> (n%8))).toNat::List.drop (n/8+1) (byt p)=byt (p.set (n/8) (b ||| UInt8.ofNat (128 >>> (n%8)))):=by
    rw [List.set_eq_take_append_cons_drop,if_pos hlt8]
    simp [byt]
   have hsl:(p.set (n/8) (b ||| UInt8.ofNat (128 >>> (n%8)))).length=p.length:=by simp
   have hgd:p.getD (n/8) 0=b:=by rw [List.getD,hbq];rfl
   have hle1:n/8+1≤p.length:=by omega
   have haddt:addBit p n true=p.set (n/8) (b ||| UInt8.ofNat (128 >>> (n%8))):=by simp only [addBit,if_neg h8,hgd,if_true]
   have haddf:addBit p n false=p:=by simp [addBit,h8]
   generalize UInt8.ofNat (128 >>> (n%8))=tb at*
   generalize b ||| tb=z at*
   generalize n%8=r at*
   generalize n/8=q at*
   cases hb:x.testBit i
   ·have e:=Eq.refl (runCS ⟨Ω,noG,H,nx⟩ N ir136_0 ⟨[(0,.ref wid 0),(1,.int .u64 x),(6,.int .i64 i)],h⟩)
    rw [hb] at han hlen
    conv at e=>
     rhs
     simp [ir136_0,ssB,ssU,ay,ax,bB,Go.Sx.splice,Go.Sx.finish,Go.Sx.setAll,appO,Go.Sx.leI_eq,ltF,aF,aR,aB,bv,Nat.add_assoc,hi0,hwi,hwn,hsh,han,k1,k2,k3,k4,k5,k6,q1,q2,q3,q4,q5,q6,p1,p2',p2'',l1,l2,hLb,hr8,hrem,hr0]
    rw [haddf] at hlen ⊢
    refine ⟨_,pid,e,⟨hlt,hne,hlen,hs,UZ.objW hlt hne g.uz _,.inr ⟨by omega,?_,p2,p3,?_,?_⟩⟩,by simp [bO _ _ _ _ hlt,aY]⟩
    all_goals simp [aF,aR,aB,bv,Nat.add_assoc,k1,k2,k3,k4,k5,k6,q1,q2,q3,q4,q5,q6,p1,p2',p2'',l1,l2,hLb,ak]
    all_goals try omega
   ·have e:=Eq.refl (runCS ⟨Ω,noG,H,nx⟩ N ir136_0 ⟨[(0,.ref wid 0),(1,.int .u64 x),(6,.int .i64 i)],h⟩)
    rw [hb] at han hlen
    conv at e=>
     rhs
     simp [ir136_0,ssB,ssU,ay,ax,bB,Go.Sx.splice,Go.Sx.finish,Go.Sx.setAll,appO,Go.Sx.leI_eq,ltF,aF,aR,aB,bv,Nat.add_assoc,hi0,hwi,hwn,hsh,han,k1,k2,k3,k4,k5,k6,q1,q2,q3,q4,q5,q6,p1,p2',p2'',l1,l2,hLb,hr8,hrem,hr0,hq8,htop,hor,hbb,hbb2,hset,hlt8,hle1]
    rw [haddt] at hlen ⊢
    rw [hsl] at hlen
    refine ⟨_,pid,e,⟨hlt,hne,by rw [hsl];exact hlen,hs,?_,.inr ⟨by omega,?_,p2,p3,?_,?_⟩⟩,by simp [bO _ _ _ _ hlt,aY]⟩
    ·exact UZ.objW hlt hne (UZ.objP hne p3 g.uz _ (.inr ⟨_,rfl⟩)) _
    all_goals simp [aF,aR,aB,bv,Nat.add_assoc,k1,k2,k3,k4,k5,k6,q1,q2,q3,q4,q5,q6,p1,p2',p2'',l1,l2,hLb,ak,hsl]
    all_goals try omega
theorem vh (N:Nat) (x:LV) (wr:LV):runCS ⟨Ω,noG,H,nx⟩ N ir136_0 ⟨[(0,wr),(1,x),(6,.int .i64 (-1))],h⟩=some (.exit 0,⟨[(0,wr),(1,x),(6,.int .i64 (-1)),(13,.bool false)],h⟩):=by
 simp [ir136_0,ssB,ssU,ay,ax,bB,Go.Sx.splice,Go.Sx.finish,Go.Sx.setAll,appO,Go.Sx.leI_eq,ltF]
end bit
theorem tB {H:Heap} {nx wid pid0:Nat} (N:Nat) (x:Nat) : ∀ (k q pid n:Nat) (h:Hp) (p:List UInt8),k≤64→k<q→n+k<2^30→WrH H nx h wid pid0 pid p n→∃ h' pid',
  iter (runCS ⟨Ω,noG,H,nx⟩ N ir136_0) q ⟨[(0,.ref wid 0),(1,.int .u64 x),(6,.int .i64 ((k:Int)-1))],h⟩=some (.exit 0,⟨[(0,.ref wid 0),(1,.int .u64 x),(6,.int .i64 (-1)),(13,.bool false)],h'⟩) ∧
  WrH H nx h' wid pid0 pid' (addBits p n (bitsOf x k)) (n+k)∧(0<k→(findU h'.upd wid).isSome=true)∧(k=0→h'=h):=by
 intro k
 induction k with
 | zero=>
  intro q pid n h p _ hq _ g
  obtain ⟨q,rfl⟩ : ∃ r,q=r+1:=⟨q-1,by omega⟩
  exact ⟨h,pid,bw (vh N _ _) (by simp),g,fun h=>absurd h (Nat.lt_irrefl 0),fun _=>rfl⟩
 | succ k ih=>
  intro q pid n h p hk hq hn g
  obtain ⟨q,rfl⟩ : ∃ r,q=r+1:=⟨q-1,by omega⟩
  obtain ⟨h1,pid1,e1,g1,f1⟩:=yo N g (by omega) x k (by omega)
  have e0:((k+1:Nat):Int)-1=k:=by omega
  rw [e0,bI e1]
  obtain ⟨h2,pid2,e2,g2,f2,f3⟩:=ih q pid1 (n+1) h1 _ (by omega) (by omega) (by omega) g1
  refine ⟨h2,pid2,e2,?_,fun _ => ?_,fun h=>by omega⟩
  ·rw [bitsOf,addBits,show n+(k+1)=n+1+k by omega]
   exact g2
  ·by_cases hk0:k=0
   ·rw [f3 hk0];exact f1
   ·exact f2 (by omega)
inductive UForm (wid pid nx:Nat):Upd→Prop where
 | f1 (X:Ob):UForm wid pid nx [(wid,X)]
 | f2 (X Z:Ob) (h:pid<nx) (hz:Z=none∨∃ l,Z=some (.cells (byt l))):UForm wid pid nx [(pid,Z),(wid,X)]
 | f3 (X Z:Ob) (h:pid<nx) (hz:Z=none∨∃ l,Z=some (.cells (byt l))):UForm wid pid nx [(wid,X),(pid,Z)]
structure Post (H:Heap) (nx wid pid n:Nat) (u:Upd) (m:List (Ob)) (pid':Nat) (p':List UInt8) (n':Nat):Prop where
 form:UForm wid (if n=0 then nx+wid+1 else pid) nx u
 keys : ∀ id o,findU u id=some o→id<nx
 wr:Wr (Go.Sx.look H nx ⟨u,m⟩) (nx+m.length) wid pid' p' n'
 pp:(0<n∧pid'=pid)∨nx≤pid'
 frame : ∀ id,id<nx→id≠wid→(n=0∨id≠pid)→Go.Sx.look H nx ⟨u,m⟩ id=H id
theorem xB {nx a:Nat} {X:Ob} (h:a<nx) : ∀ id o,findU [(a,X)] id=some o→id<nx:=fun id o hf=>by
 simp only [findU] at hf
 split at hf
 ·rename_i e;rw [e];exact h
 ·cases hf
theorem vW {nx a b:Nat} {X Y:Ob} (h:a<nx) (h':b<nx) : ∀ id o,findU [(a,X),(b,Y)] id=some o→id<nx:=fun id o hf=>by
 simp only [findU] at hf
 split at hf
 ·rename_i e;rw [e];exact h
 ·split at hf
  ·rename_i e;rw [e];exact h'
  ·cases hf
theorem wu {H:Heap} {nx wid pid0 pid:Nat} {h:Hp} {p:List UInt8} {n:Nat} (own:Bool) (g:WrH H nx h wid pid0 pid p n) (hn:0<n) (hw:(findU h.upd wid).isSome=true):
  ∃ u m pid',finish own H nx (.tuple []) h=some (.tuple [],u,m)∧UForm wid pid0 nx u∧(∀ id o,findU u id=some o→id<nx)∧Wr (Go.Sx.look H nx ⟨u,m⟩) (nx+m.length) wid pid' p n∧((pid<nx∧pid'=pid)∨(nx≤pid∧pid'=nx)) ∧
   (∀ id,id<nx→id≠wid→id≠pid0→Go.Sx.look H nx ⟨u,m⟩ id=H id):=by
 have hlt:=g.lt
 have hne:=g.ne0
 have hne' : ¬wid=pid0:=fun e=>hne e.symm
 obtain ⟨uf,zz,kk⟩:=g.uz
 rcases g.at' with ⟨h0,_⟩|⟨_,p1,p2,p3,l1,l2⟩
 ·omega
 have hup : ∀ X,findU h.upd wid=some X→X=some (.cells [.arr pid 0 p.length 1 p.length false,.int .i64 n]):=fun X hX=>by
  have:=l1
  simp only [Go.Sx.look,if_pos hlt,hX] at this
  exact this
 have hpw : ¬wid=pid:=fun e=>p2 e.symm
 obtain ⟨ud,nw⟩:=h
 simp only at uf zz kk hw hup
 by_cases hp:pid<nx
 ·have hp0:pid=pid0:=by
   rcases p3 with h|h
   ·exact h
   ·omega
  have l2':findU ud pid=some (some (.cells (byt p)))∨(findU ud pid=none∧H pid=some (.cells (byt p))):=by
   simp only [Go.Sx.look,if_pos hp] at l2
   cases hf:findU ud pid with
   | none=>rw [hf] at l2;exact .inr ⟨rfl,l2⟩
   | some o=>rw [hf] at l2;exact .inl (by rw [←l2])
  cases uf with
  | u0=>simp [findU] at hw
  | u4 Z=>simp [findU,hne'] at hw
  | u1 X=>
   obtain rfl:=hup X (by simp [findU])
   refine ⟨[(wid,some (.cells [.arr pid 0 p.length 1 p.length false,.int .i64 n]))],[],pid,by cases own<;>simp [ssB,ssU,Go.Sx.callO,Go.Sx.splice,Go.Sx.finish,Go.Sx.push,Go.Sx.setObj,Go.Sx.setU,Go.Sx.setAll,appO,Go.Sx.leI_eq,ltF,hp],.f1 _,kk,⟨by simp;omega,g.len,g.small,.inr ⟨hn,by simp;exact hp,p2,by simp [Go.Sx.look,findU,hlt],?_⟩⟩,.inl ⟨hp,rfl⟩,fun id h1 h2 h3=>by simp [Go.Sx.look,findU,h1,h2]⟩
   simp only [findU,if_neg p2] at l2'
   have l3:H pid=some (.cells (byt p)):=by simpa using l2'
   simp [Go.Sx.look,findU,hp,p2,l3]
  | u2 X Z=>
   subst hp0
   obtain rfl:=hup X (by simp [findU,hne'])
   have hZ:Z=some (.cells (byt p)):=by simpa [findU] using l2'
   subst hZ
   refine ⟨[(pid,some (.cells (byt p))),(wid,some (.cells [.arr pid 0 p.length 1 p.length false,.int .i64 n]))],[],pid,by cases own<;>simp [ssB,ssU,Go.Sx.callO,Go.Sx.splice,Go.Sx.finish,Go.Sx.push,Go.Sx.setObj,Go.Sx.setU,Go.Sx.setAll,appO,Go.Sx.leI_eq,ltF,hp,ak,aa,au,aE,aG,aD,aI,av,aA],.f2 _ _ hp (.inr ⟨_,rfl⟩),kk,⟨by simp;omega,g.len,g.small,.inr ⟨hn,by simp;exact hp,p2,by simp [Go.Sx.look,findU,hlt,hpw],by simp [Go.Sx.look,findU,hp]⟩⟩,.inl ⟨hp,rfl⟩,fun id h1 h2 h3=>by simp [Go.Sx.look,findU,h1,h2,h3]⟩
  | u3 X Z=>
   subst hp0
   obtain rfl:=hup X (by simp [findU])
   have hZ:Z=some (.cells (byt p)):=by simpa [findU,p2] using l2'
   subst hZ
   refine ⟨[(wid,some (.cells [.arr pid 0 p.length 1 p.length false,.int .i64 n])),(pid,some (.cells (byt p)))],[],pid,by cases own<;>simp [ssB,ssU,Go.Sx.callO,Go.Sx.splice,Go.Sx.finish,Go.Sx.push,Go.Sx.setObj,Go.Sx.setU,Go.Sx.setAll,appO,Go.Sx.leI_eq,ltF,hp,ak,aa,au,aE,aG,aD,aI,av,aA],.f3 _ _ hp (.inr ⟨_,rfl⟩),kk,⟨by simp;omega,g.len,g.small,.inr ⟨hn,by simp;exact hp,p2,by simp [Go.Sx.look,findU,hlt,hpw],by simp [Go.Sx.look,findU,hp,p2]⟩⟩,.inl ⟨hp,rfl⟩,fun id h1 h2 h3=>by simp [Go.Sx.look,findU,h1,h2,h3]⟩
 ·have hge:nx≤pid:=by omega
  have hnn : ¬nx<nx:=by omega
  have hxw : ¬nx=wid:=by omega
  have hwx : ¬wid=nx:=by omega
  cases uf with
  | u0=>simp [findU] at hw
  | u4 Z=>simp [findU,hne'] at hw
  | u1 X=>
   obtain rfl:=hup X (by simp [findU])
   refine ⟨[(wid,some (.cells [.arr nx 0 p.length 1 p.length false,.int .i64 n]))],[some (.cells (byt p))],nx,by cases own<;>simp [ssB,ssU,Go.Sx.callO,Go.Sx.splice,Go.Sx.finish,Go.Sx.push,Go.Sx.setObj,Go.Sx.setU,Go.Sx.setAll,appO,Go.Sx.leI_eq,ltF,hp,l2,hlt,ak,aa,au,aE,aG,aD,aI,av,aA],.f1 _,xB hlt,⟨by simp;omega,g.len,g.small,.inr ⟨hn,by simp,hxw,by simp [Go.Sx.look,findU,hlt],by simp [Go.Sx.look]⟩⟩,.inr ⟨hge,rfl⟩,fun id h1 h2 h3=>by simp [Go.Sx.look,findU,h1,h2]⟩
  | u2 X Z=>
   obtain rfl:=hup X (by simp [findU,hne'])
   have h0:pid0<nx:=kk pid0 Z (by simp [findU])
   have h0x : ¬nx=pid0:=by omega
   refine ⟨[(pid0,Z),(wid,some (.cells [.arr nx 0 p.length 1 p.length false,.int .i64 n]))],[some (.cells (byt p))],nx,?_,.f2 _ _ h0 (zz Z (by simp [findU])),vW h0 hlt,⟨by simp;omega,g.len,g.small,.inr ⟨hn,by simp,hxw,by simp [Go.Sx.look,findU,hlt,hne'],by simp [Go.Sx.look]⟩⟩,.inr ⟨hge,rfl⟩,fun id h1 h2 h3=>by simp [Go.Sx.look,findU,h1,h2,h3]⟩
   rcases zz Z (by simp [findU]) with rfl|⟨l,rfl⟩<;>cases own<;>simp [ssB,ssU,Go.Sx.callO,Go.Sx.splice,Go.Sx.finish,Go.Sx.push,Go.Sx.setObj,Go.Sx.setU,Go.Sx.setAll,appO,Go.Sx.leI_eq,ltF,hp,l2,hlt,h0,ak,aa,au,aE,aG,aD,aI,av,aA]
  | u3 X Z=>
   obtain rfl:=hup X (by simp [findU])
   have h0:pid0<nx:=kk pid0 Z (by simp [findU,hne])
   have h0x : ¬nx=pid0:=by omega
   refine ⟨[(wid,some (.cells [.arr nx 0 p.length 1 p.length false,.int .i64 n])),(pid0,Z)],[some (.cells (byt p))],nx,?_,.f3 _ _ h0 (zz Z (by simp [findU,hne])),vW hlt h0,⟨by simp;omega,g.len,g.small,.inr ⟨hn,by simp,hxw,by simp [Go.Sx.look,findU,hlt],by simp [Go.Sx.look]⟩⟩,.inr ⟨hge,rfl⟩,fun id h1 h2 h3=>by simp [Go.Sx.look,findU,h1,h2,h3]⟩
   rcases zz Z (by simp [findU,hne]) with rfl|⟨l,rfl⟩<;>cases own<;>simp [ssB,ssU,Go.Sx.callO,Go.Sx.splice,Go.Sx.finish,Go.Sx.push,Go.Sx.setObj,Go.Sx.setU,Go.Sx.setAll,appO,Go.Sx.leI_eq,ltF,hp,l2,hlt,h0,ak,aa,au,aE,aG,aD,aI,av,aA]
end put
end Go.Proofs.YtppeggedcaabkaaGreatDoor
end

section
namespace Go.Proofs.YtppeggedcaabkaaGreatDoor
open Go Go.Sx
theorem uz0 (nx wid pid0:Nat):UZ nx wid pid0 ⟨[],[]⟩:=⟨.u0,fun o h=>by simp [findU] at h,fun id o h=>by simp [findU] at h⟩
theorem Wr.toH {H:Heap} {nx wid pid:Nat} {p:List UInt8} {n:Nat} (g:Wr H nx wid pid p n) : ∃ pid0,WrH H nx ⟨[],[]⟩ wid pid0 pid0 p n∧((0<n∧pid0=pid)∨(n=0∧pid0=nx+wid+1)):=by
 have hlt:=g.lt
 rcases g.at' with ⟨h0,h1⟩|⟨h0,h1,h2,h3,h4⟩
 ·refine ⟨nx+wid+1,⟨hlt,by omega,g.len,g.small,uz0 nx wid _,.inl ⟨h0,by simp [Go.Sx.look,findU,hlt,h1]⟩⟩,.inr ⟨h0,rfl⟩⟩
 ·exact ⟨pid,⟨hlt,h2,g.len,g.small,uz0 nx wid _,.inr ⟨h0,by simp;omega,h2,.inl rfl,by simp [Go.Sx.look,findU,hlt,h3],by simp [Go.Sx.look,findU,h1,h4]⟩⟩,.inl ⟨h0,rfl⟩⟩
theorem pE {H:Heap} {nx wid pid pid0 pid1:Nat} {h:Hp} {p':List UInt8} {n n':Nat} (own:Bool) (h0:(0<n∧pid0=pid)∨(n=0∧pid0=nx+wid+1)) (g:WrH H nx h wid pid0 pid1 p' n') (hn:0<n') (hw:(findU h.upd wid).isSome=true) (hp:pid1=pid0∨nx≤pid1):
  ∃ u m pid',finish own H nx (.tuple []) h=some (.tuple [],u,m)∧Post H nx wid pid n u m pid' p' n':=by
 obtain ⟨u,m,pid',e1,e0,e2,e3,e4,e5⟩:=wu own g hn hw
 have hp0:pid0=if n=0 then nx+wid+1 else pid:=by
  rcases h0 with ⟨c,d⟩|⟨c,d⟩
  ·rw [if_neg (by omega),d]
  ·rw [if_pos c,d]
 refine ⟨u,m,pid',e1,⟨hp0▸e0,e2,e3,?_,?_⟩⟩
 ·rcases e4 with ⟨a,b⟩|⟨a,b⟩
  ·rcases hp with rfl|hp
   ·rcases h0 with ⟨c,d⟩|⟨c,d⟩
    ·exact .inl ⟨c,by rw [b,d]⟩
    ·omega
   ·omega
  ·exact .inr (by omega)
 ·intro id h1 h2 h3
  refine e5 id h1 h2 ?_
  rcases h0 with ⟨c,d⟩|⟨c,d⟩
  ·rcases h3 with h3|h3
   ·omega
   ·rw [d];exact h3
  ·omega
theorem wR {H:Heap} {nx wid pid:Nat} {p:List UInt8} {n:Nat} (g:Wr H nx wid pid p n) (x k:Nat) (hk0:0<k) (hk:k≤64) (hn:n+k<2^30):
  ∃ u m pid',Ω 136 [.ref wid 0,.int .u64 x,.int .i64 k] H nx=some (.tuple [],u,m)∧Post H nx wid pid n u m pid' (addBits p n (bitsOf x k)) (n+k):=by
 obtain ⟨pid0,g0,h0⟩:=g.toH
 obtain ⟨h',pid1,e1,g1,f1,f2⟩:=tB (k+1) x k (k+1) pid0 n ⟨[],[]⟩ p hk (by omega) hn g0
 have hp1:pid1=pid0∨nx≤pid1:=by
  rcases g1.at' with ⟨a,_⟩|⟨_,_,_,a,_⟩
  ·omega
  ·exact a
 obtain ⟨u,m,pid',e2,e3⟩:=pE true h0 g1 (by omega) (f1 hk0) hp1
 refine ⟨u,m,pid',?_,e3⟩
 refine ae (ir:=ir136) (by kernel_rfl) (k+1) ?_
 have hw:=pX k hk
 have hwi:IntKind.i64.wrap ((k:Int)-1)=(k:Int)-1:=am _ (by omega) (by omega)
 simp [ir136,ssB,ssU,ay,ax,af,Go.Sx.splice,appO,Go.Sx.leI_eq,ltF,hw,hwi,e1,e2]
structure At (H:Heap) (nx:Nat) (h:Hp) (wid P pid:Nat) (p:List UInt8) (n:Nat):Prop where
 wr:Wr (Go.Sx.look H nx h) (nx+h.new.length) wid pid p n
 lt:wid<nx
 ne:P≠wid
 pp:n=0∨pid=P∨nx≤pid
 uz:UZ nx wid P h
theorem UZ.all {nx wid P pid B:Nat} {h:Hp} {u:Upd} (hlt:wid<nx) (hne:P≠wid) (g:UZ nx wid P h) (hp:pid=P∨nx≤pid) (hu:UForm wid pid B u):UZ nx wid P (setAll nx h u)∧(findU (setAll nx h u).upd wid).isSome=true:=by
 cases hu with
 | f1 X=>exact ⟨g.objW hlt hne X,by simp [setAll,bO _ _ _ _ hlt,aY]⟩
 | f2 X Z h1 hz=>
  refine ⟨UZ.objP hne hp (g.objW hlt hne X) Z hz,?_⟩
  simp only [setAll]
  by_cases hp2:pid<nx
  ·rw [bO _ _ _ _ hp2,aY,bO _ _ _ _ hlt]
   split
   ·rfl
   ·simp [aY]
  ·rw [cX _ _ _ _ hp2,bO _ _ _ _ hlt,aY];simp
 | f3 X Z h1 hz=>
  refine ⟨UZ.objW hlt hne (UZ.objP hne hp g Z hz) X,?_⟩
  simp [setAll,bO _ _ _ _ hlt,aY]
theorem At.put {H:Heap} {nx wid P pid n:Nat} {h:Hp} {p:List UInt8} (g:At H nx h wid P pid p n) (x k:Nat) (hk0:0<k) (hk:k≤64) (hn:n+k<2^30):
  ∃ u m pid',Ω 136 [.ref wid 0,.int .u64 x,.int .i64 k] (Go.Sx.look H nx h) (nx+h.new.length)=some (.tuple [],u,m)∧At H nx (aft nx h u m) wid P pid' (addBits p n (bitsOf x k)) (n+k) ∧
   (∀ id,id<nx+h.new.length→id≠wid→(n=0∨id≠pid)→Go.Sx.look H nx (aft nx h u m) id=Go.Sx.look H nx h id)∧h.new.length≤(aft nx h u m).new.length∧(findU (aft nx h u m).upd wid).isSome=true∧(pid'=pid∨nx+h.new.length≤pid'):=by
 obtain ⟨u,m,pid',e1,e2⟩:=wR g.wr x k hk0 hk hn
 have hlook : ∀ id,Go.Sx.look H nx (aft nx h u m) id=Go.Sx.look (Go.Sx.look H nx h) (nx+h.new.length) ⟨u,m⟩ id:=fun id=>dD e2.keys id
 have hlen:(aft nx h u m).new.length=h.new.length+m.length:=by simp [aft,bp]
 have hfun:Go.Sx.look H nx (aft nx h u m)=Go.Sx.look (Go.Sx.look H nx h) (nx+h.new.length) ⟨u,m⟩:=funext hlook
 have hupd:(aft nx h u m).upd=(setAll nx h u).upd:=rfl
 have hal:=UZ.all g.lt g.ne g.uz (pid:=if n=0 then nx+h.new.length+wid+1 else pid) (by
  by_cases h0:n=0
  ·rw [if_pos h0];exact .inr (by omega)
  ·rw [if_neg h0];exact g.pp.resolve_left h0) e2.form
 have hpp:pid'=pid∨nx+h.new.length≤pid':=by
  rcases e2.pp with ⟨a,b⟩|b
  ·exact .inl b
  ·exact .inr b
 refine ⟨u,m,pid',e1,⟨?_,g.lt,g.ne,?_,⟨hal.1.uf,hal.1.zz,hal.1.kk⟩⟩,fun id h1 h2 h3=>by rw [hlook];exact e2.frame id h1 h2 h3,by omega,hal.2,hpp⟩
 ·rw [hfun,hlen,←Nat.add_assoc]
  exact e2.wr
 ·rcases e2.pp with ⟨a,b⟩|b
  ·rw [b]
   rcases g.pp with h|h
   ·omega
   ·exact .inr h
  ·exact .inr (.inr (by omega))
end Go.Proofs.YtppeggedcaabkaaGreatDoor
end

section
namespace Go.Proofs.YtppeggedcaabkaaGreatDoor
open Go Go.Sx
def numBits (v b:Nat):Nat→List Bool
 | 0=>false::bitsOf v b
 | f+1=>if 0<v >>> b then true::numBits (v-2^b) (b+1) f else false::bitsOf v b
theorem At.init {H:Heap} {nx wid pid:Nat} {p:List UInt8} {n:Nat} (g:Wr H nx wid pid p n):At H nx ⟨[],[]⟩ wid (if n=0 then nx+wid+1 else pid) pid p n:=by
 have hlt:=g.lt
 have hl : ∀ id,id<nx→Go.Sx.look H nx ⟨[],[]⟩ id=H id:=fun id h=>by simp [Go.Sx.look,findU,h]
 refine ⟨⟨by simp;omega,g.len,g.small,?_⟩,hlt,?_,?_,uz0 nx wid _⟩
 ·rcases g.at' with ⟨h0,h1⟩|⟨h0,h1,h2,h3,h4⟩
  ·exact .inl ⟨h0,by rw [hl _ hlt];exact h1⟩
  ·exact .inr ⟨h0,by simp;exact h1,h2,by rw [hl _ hlt];exact h3,by rw [hl _ h1];exact h4⟩
 ·split
  ·omega
  ·rcases g.at' with ⟨h0,h1⟩|⟨h0,h1,h2,h3,h4⟩
   ·omega
   ·exact h2
 ·by_cases h0:n=0
  ·exact .inl h0
  ·rw [if_neg h0];exact .inr (.inl rfl)
theorem At.post {H:Heap} {nx wid pid0 pid n0 n:Nat} {h:Hp} {p:List UInt8} (own:Bool) (g:At H nx h wid (if n0=0 then nx+wid+1 else pid0) pid p n) (hn:0<n) (hw:(findU h.upd wid).isSome=true):
  ∃ u m pid',finish own H nx (.tuple []) h=some (.tuple [],u,m)∧Post H nx wid pid0 n0 u m pid' p n:=by
 have hp:pid=(if n0=0 then nx+wid+1 else pid0)∨nx≤pid:=g.pp.resolve_left (by omega)
 have hW:WrH H nx h wid (if n0=0 then nx+wid+1 else pid0) pid p n:=by
  refine ⟨g.lt,g.ne,g.wr.len,g.wr.small,g.uz,?_⟩
  rcases g.wr.at' with ⟨h0,h1⟩|⟨h0,h1,h2,h3,h4⟩
  ·omega
  ·exact .inr ⟨h0,h1,h2,hp,h3,h4⟩
 refine pE own ?_ hW hn hw hp
 by_cases h0:n0=0
 ·exact .inr ⟨h0,by rw [if_pos h0]⟩
 ·exact .inl ⟨by omega,by rw [if_neg h0]⟩
section num
variable {H:Heap} {nx wid P pid n:Nat} {h:Hp} {p:List UInt8}
theorem rc (N:Nat) (g:At H nx h wid P pid p n) (v b:Nat) (hb:b<64) (hv:v<2^64) (hvb:0<v >>> b) (hn:n+1<2^30) : ∃ h' pid',
  runCS ⟨Ω,noG,H,nx⟩ N ir137_0 ⟨[(0,.ref wid 0),(1,.int .u64 v),(4,.int .i64 b)],h⟩=some (.normal,⟨[(0,.ref wid 0),(1,.int .u64 (v-2^b:Nat)),(4,.int .i64 (b+1:Nat))],h'⟩) ∧
  At H nx h' wid P pid' (addBits p n [true]) (n+1):=by
 obtain ⟨u,m,pid',e1,e2,_⟩:=g.put 1 1 (by decide) (by decide) hn
 have c1:((1:Nat):Int)=1:=rfl
 rw [c1] at e1
 refine ⟨_,pid',?_,e2⟩
 have hb64 : ¬(64:Int)≤b:=by omega
 have hsh:=kY v b (by omega)
 have hs0 : ¬((v >>> b:Nat):Int)≤0:=by omega
 have hshl:=tN 1 b (by omega)
 have h2b:(2:Nat)^b≤v:=by
  rw [Nat.shiftRight_eq_div_pow] at hvb
  have h2:0<(2:Nat)^b:=Nat.pow_pos (by decide)
  have:=(Nat.div_pos_iff).1 hvb
  omega
 have h2b64:(2:Nat)^b<2^64:=by omega
 have hpw:(1*2^b%2^64:Nat)=2^b:=by rw [Nat.one_mul,Nat.mod_eq_of_lt h2b64]
 rw [hpw,c1] at hshl
 have hw:IntKind.u64.wrap ((v:Int)-((2^b:Nat):Int))=((v-2^b:Nat):Int):=by rw [aM _ (by omega) (by omega)];omega
 have hw2:IntKind.i64.wrap ((b:Int)+1)=(b:Int)+1:=am _ (by omega) (by omega)
 generalize v >>> b=s at*
 generalize v-2^b=w at*
 generalize 2^b=t at*
 have hs00 : ¬s=0:=by omega
 simp [ir137_0,ssB,ssU,ay,ax,af,Go.Sx.splice,appO,Go.Sx.leI_eq,ltF,hb64,hsh,hs0,hs00,e1,hshl,hw,hw2]
theorem mz (N:Nat) (v b:Nat) (hb:b≤64) (hvb:b=64∨v >>> b=0) (x:LV):
  ∃ c,runCS ⟨Ω,noG,H,nx⟩ N ir137_0 ⟨[(0,x),(1,.int .u64 v),(4,.int .i64 b)],h⟩=some (.exit 0,⟨[(0,x),(1,.int .u64 v),(4,.int .i64 b),(12,c)],h⟩):=by
 refine ⟨.bool false,?_⟩
 by_cases h64:b=64
 ·subst h64
  have c1:((64:Nat):Int)=64:=rfl
  simp [ir137_0,ssB,ssU,ay,ax,af,Go.Sx.splice,appO,Go.Sx.leI_eq,ltF,c1]
 ·have hb64 : ¬(64:Int)≤b:=by omega
  have hsh:=kY v b hb
  rw [hvb.resolve_left h64] at hsh
  have c0:((0:Nat):Int)=0:=rfl
  rw [c0] at hsh
  simp [ir137_0,ssB,ssU,ay,ax,af,Go.Sx.splice,appO,Go.Sx.leI_eq,ltF,hb64,hsh]
end num
theorem ip (f:Nat) : ∀ (v b:Nat),(numBits v b f).length≤1+b+f+f:=by
 induction f with
 | zero=>intro v b;simp [numBits,aj];omega
 | succ f ih=>
  intro v b
  rw [numBits]
  split
  ·have:=ih (v-2^b) (b+1);simp;omega
  ·simp [aj];omega
theorem rb {H:Heap} {nx wid P:Nat} (N:Nat) : ∀ (f q v b pid n:Nat) (h:Hp) (p:List UInt8),b+f=64→f<q→v<2^64→n+f<2^30→At H nx h wid P pid p n →
  ∃ h' pid' v' b' c k,iter (runCS ⟨Ω,noG,H,nx⟩ N ir137_0) q ⟨[(0,.ref wid 0),(1,.int .u64 v),(4,.int .i64 b)],h⟩=some (.exit 0,⟨[(0,.ref wid 0),(1,.int .u64 (v':Nat)),(4,.int .i64 (b':Nat)),(12,c)],h'⟩) ∧
   At H nx h' wid P pid' (addBits p n (List.replicate k true)) (n+k)∧numBits v b f=List.replicate k true++false::bitsOf v' b'∧b'≤64∧0<b'+(if b=0 then 1 else 0)∧v'<2^64∧k≤f:=by
 intro f
 induction f with
 | zero=>
  intro q v b pid n h p hb hq hv hn g
  obtain ⟨q,rfl⟩ : ∃ r,q=r+1:=⟨q-1,by omega⟩
  obtain ⟨c,hc⟩:=mz (H:=H) (nx:=nx) (h:=h) N v b (by omega) (.inl (by omega)) (.ref wid 0)
  exact ⟨h,pid,v,b,c,0,bw hc (by simp),g,rfl,by omega,by split<;>omega,hv,Nat.le_refl _⟩
 | succ f ih=>
  intro q v b pid n h p hb hq hv hn g
  obtain ⟨q,rfl⟩ : ∃ r,q=r+1:=⟨q-1,by omega⟩
  by_cases hs:0<v >>> b
  ·obtain ⟨h1,pid1,e1,g1⟩:=rc N g v b (by omega) hv hs (by omega)
   rw [bI e1]
   obtain ⟨h',pid',v',b',c,k,e2,g2,e3,e4,e5,e6,e7⟩:=ih q (v-2^b) (b+1) pid1 (n+1) h1 _ (by omega) (by omega) (Nat.lt_of_le_of_lt (Nat.sub_le _ _) hv) (by omega) g1
   refine ⟨h',pid',v',b',c,k+1,e2,?_,?_,e4,?_,e6,by omega⟩
   ·have:addBits p n (List.replicate (k+1) true)=addBits (addBits p n [true]) (n+1) (List.replicate k true):=rfl
    rw [this,show n+(k+1)=n+1+k by omega]
    exact g2
   ·rw [numBits,if_pos hs,e3];rfl
   ·rw [if_neg (by omega)] at e5;omega
  ·obtain ⟨c,hc⟩:=mz (H:=H) (nx:=nx) (h:=h) N v b (by omega) (.inr (Nat.eq_zero_of_not_pos hs)) (.ref wid 0)
   exact ⟨h,pid,v,b,c,0,bw hc (by simp),g,by rw [numBits,if_neg hs];rfl,by omega,by split<;>omega,hv,Nat.zero_le _⟩
theorem vZ {H:Heap} {nx wid pid:Nat} {p:List UInt8} {n:Nat} (g:Wr H nx wid pid p n) (v:Nat) (hv:v<2^64) (hn:n+200<2^30):
  ∃ u m pid',Ω 137 [.ref wid 0,.int .u64 v] H nx=some (.tuple [],u,m)∧Post H nx wid pid n u m pid' (addBits p n (numBits v 2 62)) (n+(numBits v 2 62).length):=by
 obtain ⟨h1,pid1,v',b',c,k,e1,g1,e3,e4,e5,e6,e7⟩:=rb (N:=63) 62 63 v 2 pid n ⟨[],[]⟩ p rfl (by decide) hv (by omega) (At.init g)
 obtain ⟨u2,m2,pid2,f1,g2,_⟩:=g1.put 0 1 (by decide) (by decide) (by omega)
 have hb':0<b':=by simpa using e5
 obtain ⟨u3,m3,pid3,f2,g3,_,_,w3,_⟩:=g2.put v' b' hb' e4 (by omega)
 have hlist:numBits v 2 62=List.replicate k true++bitsOf 0 1++bitsOf v' b':=by rw [e3];simp [bitsOf]
 have hbits:addBits (addBits (addBits p n (List.replicate k true)) (n+k) (bitsOf 0 1)) (n+k+1) (bitsOf v' b')=addBits p n (numBits v 2 62):=by
  rw [hlist,ba,ba]
  simp [aj,Nat.add_assoc]
 have hlen:n+k+1+b'=n+(numBits v 2 62).length:=by rw [hlist];simp [aj];omega
 rw [hbits,hlen] at g3
 obtain ⟨u,m,pid',f3,f4⟩:=g3.post true (pid0:=pid) (n0:=n) (by omega) w3
 refine ⟨u,m,pid',?_,f4⟩
 have c0:((0:Nat):Int)=0:=rfl
 have c1:((1:Nat):Int)=1:=rfl
 have c2:((2:Nat):Int)=2:=rfl
 rw [c0,c1] at f1
 rw [c2] at e1
 refine ae (ir:=ir137) (by kernel_rfl) 63 ?_
 simp [ir137,ssB,ssU,ay,ax,af,Go.Sx.splice,appO,Go.Sx.leI_eq,ltF,e1,f1,f2,f3]
end Go.Proofs.YtppeggedcaabkaaGreatDoor
end
