/- What the proof of the claim leans on, part 4 of 6: the value machine, the functions as it has them, their specifications. No condition. -/
import Derived.Test.YtppeggedcaabkaaGreatDoorB3
import Derived.Test.YtppeggedcaabkaaGreatDoorChecked
import Derived.KernelRfl
import Derived.WalkKit
set_option linter.all false
set_option linter.unnecessarySimpa false
set_option linter.unusedSimpArgs false
set_option linter.unusedVariables false
set_option linter.constructorNameAsVariable false
section
namespace Go.Proofs.YtppeggedcaabkaaGreatDoor
open Go Go.Sx
/-- kinfolk/code.PutID -/
def ir132 : IRF := ⟨[0, 1], (.seq (.region [⟨(some 3), (.box false (.t 1)), none⟩] none [0, 3])
  (.seq (.region [⟨(some 6), (.load 2 true (.t 3)), none⟩,
    ⟨(some 7), (.call 175 [(.t 6)]), none⟩,
    ⟨(some 8), (.load 2 true (.t 3)), none⟩,
    ⟨(some 9), (.call 176 [(.t 8)]), none⟩,
    ⟨(some 4), (.alloc false [(.s (.bool false)), (.s (.pointer none))]), none⟩,
    ⟨(some 5), (.alloc false [(.s (.bool false)), (.s (.pointer none))]), none⟩,
    ⟨none, (.store 2 (.t 4) (.t 7)), none⟩,
    ⟨none, (.store 2 (.t 5) (.t 9)), none⟩] (some [0, 1, 0, 7, 0, 0, 63, 127]) [0, 3, 4, 5])
  (.block 0 (.seq (.region [⟨(some 19), (.load 2 true (.t 3)), none⟩,
    ⟨(some 20), (.call 86 [(.t 19)]), none⟩,
    ⟨(some 18), (.mv (.t 20)), none⟩] none [0, 3, 4, 5, 18])
  (.cond (.t 18) (.seq (.region [⟨(some 21), (.mv (.t 0)), none⟩,
    ⟨(some 22), (.call 136 [(.t 21), (.c (.p (.s (.int .u64 0)))), (.c (.p (.s (.int .i64 2))))]), none⟩] none [0])
  (.region [⟨(some 23), (.mv (.t 0)), none⟩,
    ⟨(some 24), (.call 136 [(.t 23), (.c (.p (.s (.int .u64 0)))), (.c (.p (.s (.int .i64 1))))]), none⟩] none [])) (.seq (.region [⟨(some 26), (.load 2 true (.t 3)), none⟩,
    ⟨(some 27), (.call 160 [(.t 26)]), none⟩,
    ⟨(some 25), (.mv (.t 27)), none⟩] none [0, 4, 5, 25])
  (.cond (.t 25) (.seq (.region [⟨(some 28), (.mv (.t 0)), none⟩,
    ⟨(some 29), (.call 136 [(.t 28), (.c (.p (.s (.int .u64 0)))), (.c (.p (.s (.int .i64 2))))]), none⟩] none [0])
  (.region [⟨(some 30), (.mv (.t 0)), none⟩,
    ⟨(some 31), (.call 136 [(.t 30), (.c (.p (.s (.int .u64 1)))), (.c (.p (.s (.int .i64 1))))]), none⟩] none [])) (.seq (.region [⟨(some 33), (.load 2 true (.t 4)), none⟩,
    ⟨(some 34), (.call 86 [(.t 33)]), none⟩,
    ⟨(some 32), (.mv (.t 34)), none⟩] none [0, 4, 5, 32])
  (.cond (.t 32) (.seq (.region [⟨(some 35), (.mv (.t 0)), none⟩,
    ⟨(some 36), (.call 136 [(.t 35), (.c (.p (.s (.int .u64 1)))), (.c (.p (.s (.int .i64 2))))]), none⟩] none [0, 5])
  (.region [⟨(some 37), (.mv (.t 0)), none⟩,
    ⟨(some 38), (.load 2 true (.t 5)), none⟩,
    ⟨(some 39), (.call 132 [(.t 37), (.t 38)]), none⟩] none [])) (.seq (.region [⟨(some 41), (.load 2 true (.t 5)), none⟩,
    ⟨(some 42), (.call 86 [(.t 41)]), none⟩,
    ⟨(some 40), (.mv (.t 42)), none⟩] none [0, 4, 5, 40])
  (.cond (.t 40) (.seq (.region [⟨(some 43), (.mv (.t 0)), none⟩,
    ⟨(some 44), (.call 136 [(.t 43), (.c (.p (.s (.int .u64 2)))), (.c (.p (.s (.int .i64 2))))]), none⟩] none [0, 4])
  (.region [⟨(some 45), (.mv (.t 0)), none⟩,
    ⟨(some 46), (.load 2 true (.t 4)), none⟩,
    ⟨(some 47), (.call 132 [(.t 45), (.t 46)]), none⟩] none [])) (.seq (.region [⟨(some 10), (.mv (.t 0)), none⟩,
    ⟨(some 11), (.call 136 [(.t 10), (.c (.p (.s (.int .u64 3)))), (.c (.p (.s (.int .i64 2))))]), none⟩] none [0, 4, 5])
  (.seq (.region [⟨(some 12), (.mv (.t 0)), none⟩,
    ⟨(some 13), (.load 2 true (.t 4)), none⟩,
    ⟨(some 14), (.call 132 [(.t 12), (.t 13)]), none⟩] none [0, 5])
  (.region [⟨(some 15), (.mv (.t 0)), none⟩,
    ⟨(some 16), (.load 2 true (.t 5)), none⟩,
    ⟨(some 17), (.call 132 [(.t 15), (.t 16)]), none⟩] none [])))))))))))))), [], false⟩
/-- (kinfolk/event.Event).Left -/
def ir133 : IRF := ⟨[0], (.seq (.region [⟨(some 1), (.box false (.t 0)), none⟩,
    ⟨(some 2), (.alloc false [(.s (.int .u64 0)), (.s (.pointer none))]), none⟩] none [1, 2])
  (.seq (.seq (.region [⟨(some 3), (.fieldAddr 1 (.t 1)), none⟩,
    ⟨(some 4), (.load 1 false (.t 3)), none⟩,
    ⟨(some 5), (.eq false .ptr (.t 4) (.c (.p (.s (.pointer none))))), none⟩] none [1, 2, 5])
  (.cond (.t 5) (.seq (.region [⟨(some 6), (.build [(.s (.int .u64 0)), (.s (.pointer none))] []), none⟩,
    ⟨none, (.store 2 (.t 2) (.t 6)), none⟩] none [2])
  .ret) .skip))
  (.seq (.region [⟨(some 7), (.fieldAddr 1 (.t 1)), none⟩,
    ⟨(some 8), (.load 1 false (.t 7)), none⟩,
    ⟨(some 9), (.nilCk (.t 8)), none⟩,
    ⟨(some 10), (.fieldAddr 0 (.t 9)), none⟩,
    ⟨(some 11), (.load 2 true (.t 10)), none⟩,
    ⟨none, (.store 2 (.t 2) (.t 11)), none⟩] none [2])
  .ret))), [(2, some (2, true))], false⟩
/-- (kinfolk/event.Event).Right -/
def ir134 : IRF := ⟨[0], (.seq (.region [⟨(some 1), (.box false (.t 0)), none⟩,
    ⟨(some 2), (.alloc false [(.s (.int .u64 0)), (.s (.pointer none))]), none⟩] none [1, 2])
  (.seq (.seq (.region [⟨(some 3), (.fieldAddr 1 (.t 1)), none⟩,
    ⟨(some 4), (.load 1 false (.t 3)), none⟩,
    ⟨(some 5), (.eq false .ptr (.t 4) (.c (.p (.s (.pointer none))))), none⟩] none [1, 2, 5])
  (.cond (.t 5) (.seq (.region [⟨(some 6), (.build [(.s (.int .u64 0)), (.s (.pointer none))] []), none⟩,
    ⟨none, (.store 2 (.t 2) (.t 6)), none⟩] none [2])
  .ret) .skip))
  (.seq (.region [⟨(some 7), (.fieldAddr 1 (.t 1)), none⟩,
    ⟨(some 8), (.load 1 false (.t 7)), none⟩,
    ⟨(some 9), (.nilCk (.t 8)), none⟩,
    ⟨(some 10), (.fieldAddr 2 (.t 9)), none⟩,
    ⟨(some 11), (.load 2 true (.t 10)), none⟩,
    ⟨none, (.store 2 (.t 2) (.t 11)), none⟩] none [2])
  .ret))), [(2, some (2, true))], false⟩
/-- (kinfolk/event.Event).IsLeaf -/
def ir135 : IRF := ⟨[0], (.seq (.region [⟨(some 1), (.box false (.t 0)), none⟩,
    ⟨(some 2), (.mv (.c (.p (.s (.bool false))))), none⟩] none [1])
  (.seq (.region [⟨(some 3), (.fieldAddr 1 (.t 1)), none⟩,
    ⟨(some 4), (.load 1 false (.t 3)), none⟩,
    ⟨(some 5), (.eq false .ptr (.t 4) (.c (.p (.s (.pointer none))))), none⟩,
    ⟨(some 2), (.mv (.t 5)), none⟩] none [2])
  .ret)), [(2, none)], false⟩
/-- (*kinfolk/bits.Writer).Put -/
def ir136_0 : IRC := (.seq (.seq (.region [⟨(some 12), (.mv (.t 6)), none⟩,
    ⟨(some 13), (.bin .geq (.t 12) (.c (.p (.s (.int .i64 0))))), none⟩] none [0, 1, 6, 13])
  (.cond (.t 13) .skip (.exit 0)))
  (.seq (.block 1 (.seq (.seq (.region [⟨(some 16), (.mv (.t 0)), none⟩,
    ⟨(some 17), (.nilCk (.t 16)), none⟩,
    ⟨(some 18), (.fieldAddr 1 (.t 17)), none⟩,
    ⟨(some 19), (.load 1 false (.t 18)), none⟩,
    ⟨(some 20), (.bin .rem (.t 19) (.c (.p (.s (.int .i64 8))))), none⟩,
    ⟨(some 21), (.bin .eql (.t 20) (.c (.p (.s (.int .i64 0))))), none⟩] none [0, 1, 6, 21])
  (.cond (.t 21) (.region [⟨(some 22), (.mv (.t 0)), none⟩,
    ⟨(some 23), (.mv (.t 0)), none⟩,
    ⟨(some 24), (.nilCk (.t 23)), none⟩,
    ⟨(some 25), (.fieldAddr 0 (.t 24)), none⟩,
    ⟨(some 26), (.load 1 false (.t 25)), none⟩,
    ⟨(some 27), (.mkSl false 1 1 [(.s (.int .u8 0))] [(0, 1, (.c (.p (.s (.int .u8 0)))))]), none⟩,
    ⟨(some 28), (.app 1 1 (.t 26) (.t 27)), none⟩,
    ⟨(some 29), (.nilCk (.t 22)), none⟩,
    ⟨(some 30), (.fieldAddr 0 (.t 29)), none⟩,
    ⟨none, (.store 1 (.t 30) (.t 28)), none⟩] none [0, 1, 6]) .skip))
  (.seq (.seq (.region [⟨(some 31), (.mv (.t 1)), none⟩,
    ⟨(some 32), (.mv (.t 6)), none⟩,
    ⟨(some 33), (.bin .shr (.t 31) (.t 32)), none⟩,
    ⟨(some 34), (.bin .and (.t 33) (.c (.p (.s (.int .u64 1))))), none⟩,
    ⟨(some 35), (.bin .eql (.t 34) (.c (.p (.s (.int .u64 1))))), none⟩] none [0, 1, 6, 35])
  (.cond (.t 35) (.region [⟨(some 36), (.mv (.t 0)), none⟩,
    ⟨(some 37), (.nilCk (.t 36)), none⟩,
    ⟨(some 38), (.fieldAddr 0 (.t 37)), none⟩,
    ⟨(some 39), (.load 1 false (.t 38)), none⟩,
    ⟨(some 40), (.mv (.t 0)), none⟩,
    ⟨(some 41), (.nilCk (.t 40)), none⟩,
    ⟨(some 42), (.fieldAddr 1 (.t 41)), none⟩,
    ⟨(some 43), (.load 1 false (.t 42)), none⟩,
    ⟨(some 44), (.bin .quo (.t 43) (.c (.p (.s (.int .i64 8))))), none⟩,
    ⟨(some 45), (.idxASl 1 (.t 39) (.t 44)), none⟩,
    ⟨(some 46), (.load 1 false (.t 45)), none⟩,
    ⟨(some 47), (.mv (.t 0)), none⟩,
    ⟨(some 48), (.nilCk (.t 47)), none⟩,
    ⟨(some 49), (.fieldAddr 1 (.t 48)), none⟩,
    ⟨(some 50), (.load 1 false (.t 49)), none⟩,
    ⟨(some 51), (.bin .rem (.t 50) (.c (.p (.s (.int .i64 8))))), none⟩,
    ⟨(some 52), (.bin .shr (.c (.p (.s (.int .u8 128)))) (.t 51)), none⟩,
    ⟨(some 53), (.bin .or (.t 46) (.t 52)), none⟩,
    ⟨(some 54), (.idxASl 1 (.t 39) (.t 44)), none⟩,
    ⟨none, (.store 1 (.t 54) (.t 53)), none⟩] (some [0, 1, 3, 7, 0, 16, 48, 112, 240, 511, 1023, 0, 2048, 6144, 14336, 30720, 63488, 131071, 262143, 524287]) [0, 1, 6]) .skip))
  (.region [⟨(some 55), (.mv (.t 0)), none⟩,
    ⟨(some 56), (.nilCk (.t 55)), none⟩,
    ⟨(some 57), (.fieldAddr 1 (.t 56)), none⟩,
    ⟨(some 58), (.load 1 false (.t 57)), none⟩,
    ⟨(some 59), (.bin .add (.t 58) (.c (.p (.s (.int .i64 1))))), none⟩,
    ⟨(some 60), (.nilCk (.t 55)), none⟩,
    ⟨(some 61), (.fieldAddr 1 (.t 60)), none⟩,
    ⟨none, (.store 1 (.t 61) (.t 59)), none⟩] none [0, 1, 6]))))
  (.region [⟨(some 14), (.mv (.t 6)), none⟩,
    ⟨(some 15), (.bin .sub (.t 14) (.c (.p (.s (.int .i64 1))))), none⟩,
    ⟨(some 6), (.mv (.t 15)), none⟩] none [0, 1, 6])))
def ir136 : IRF := ⟨[0, 1, 2], (.seq (.seq (.region [⟨(some 7), (.mv (.t 0)), none⟩,
    ⟨(some 8), (.eq false .ptr (.t 7) (.c (.p (.s (.pointer none))))), none⟩] none [0, 1, 2, 8])
  (.cond (.t 8) .ret .skip))
  (.seq (.region [⟨(some 9), (.mv (.t 2)), none⟩,
    ⟨(some 10), (.call 177 [(.t 9)]), none⟩,
    ⟨(some 11), (.bin .sub (.t 10) (.c (.p (.s (.int .i64 1))))), none⟩,
    ⟨(some 6), (.mv (.t 11)), none⟩] none [0, 1, 6])
  (.block 0 (.loop ir136_0)))), [], true⟩
/-- (*kinfolk/bits.Writer).Num -/
def ir137_0 : IRC := (.seq (.seq (.region [⟨(some 5), (.mv (.t 4)), none⟩,
    ⟨(some 6), (.bin .lss (.t 5) (.c (.p (.s (.int .i64 64))))), none⟩,
    ⟨(some 7), (.mv (.t 6)), none⟩,
    ⟨(some 8), (.mv (.t 1)), (some (7, true))⟩,
    ⟨(some 9), (.mv (.t 4)), (some (7, true))⟩,
    ⟨(some 10), (.bin .shr (.t 8) (.t 9)), (some (7, true))⟩,
    ⟨(some 11), (.bin .gtr (.t 10) (.c (.p (.s (.int .u64 0))))), (some (7, true))⟩,
    ⟨(some 12), (.pick (.t 7) (.t 11) (.c (.p (.s (.bool false))))), none⟩] none [0, 1, 4, 12])
  (.cond (.t 12) .skip (.exit 0)))
  (.block 1 (.seq (.region [⟨(some 13), (.mv (.t 0)), none⟩,
    ⟨(some 14), (.call 136 [(.t 13), (.c (.p (.s (.int .u64 1)))), (.c (.p (.s (.int .i64 1))))]), none⟩] none [0, 1, 4])
  (.seq (.region [⟨(some 15), (.mv (.t 1)), none⟩,
    ⟨(some 16), (.mv (.t 4)), none⟩,
    ⟨(some 17), (.bin .shl (.c (.p (.s (.int .u64 1)))) (.t 16)), none⟩,
    ⟨(some 18), (.bin .sub (.t 15) (.t 17)), none⟩,
    ⟨(some 1), (.mv (.t 18)), none⟩] none [0, 1, 4])
  (.region [⟨(some 19), (.mv (.t 4)), none⟩,
    ⟨(some 20), (.bin .add (.t 19) (.c (.p (.s (.int .i64 1))))), none⟩,
    ⟨(some 4), (.mv (.t 20)), none⟩] none [0, 1, 4])))))
def ir137 : IRF := ⟨[0, 1], (.seq (.region [⟨(some 4), (.mv (.c (.p (.s (.int .i64 2))))), none⟩] none [0, 1, 4])
  (.seq (.block 0 (.loop ir137_0))
  (.seq (.region [⟨(some 21), (.mv (.t 0)), none⟩,
    ⟨(some 22), (.call 136 [(.t 21), (.c (.p (.s (.int .u64 0)))), (.c (.p (.s (.int .i64 1))))]), none⟩] none [0, 1, 4])
  (.region [⟨(some 23), (.mv (.t 0)), none⟩,
    ⟨(some 24), (.mv (.t 1)), none⟩,
    ⟨(some 25), (.mv (.t 4)), none⟩,
    ⟨(some 26), (.call 136 [(.t 23), (.t 24), (.t 25)]), none⟩] none [])))), [], true⟩
/-- (kinfolk/event.Event).Base -/
def ir138 : IRF := ⟨[0], (.seq (.region [⟨(some 1), (.box false (.t 0)), none⟩,
    ⟨(some 2), (.mv (.c (.p (.s (.int .u64 0))))), none⟩] none [1])
  (.seq (.region [⟨(some 3), (.fieldAddr 0 (.t 1)), none⟩,
    ⟨(some 4), (.load 1 false (.t 3)), none⟩,
    ⟨(some 2), (.mv (.t 4)), none⟩] none [2])
  .ret)), [(2, none)], false⟩
/-- kinfolk/code.zero -/
def ir139 : IRF := ⟨[0], (.seq (.region [⟨(some 1), (.box false (.t 0)), none⟩,
    ⟨(some 2), (.mv (.c (.p (.s (.bool false))))), none⟩] none [1])
  (.seq (.region [⟨(some 3), (.load 2 true (.t 1)), none⟩,
    ⟨(some 4), (.call 135 [(.t 3)]), none⟩,
    ⟨(some 5), (.mv (.t 4)), none⟩,
    ⟨(some 6), (.load 2 true (.t 1)), (some (5, true))⟩,
    ⟨(some 7), (.call 138 [(.t 6)]), (some (5, true))⟩,
    ⟨(some 8), (.bin .eql (.t 7) (.c (.p (.s (.int .u64 0))))), (some (5, true))⟩,
    ⟨(some 9), (.pick (.t 5) (.t 8) (.c (.p (.s (.bool false))))), none⟩,
    ⟨(some 2), (.mv (.t 9)), none⟩] none [2])
  .ret)), [(2, none)], false⟩
/-- kinfolk/paper.PutCard -/
def ir140 : IRF := ⟨[0, 1], (.seq (.region [⟨(some 3), (.box false (.t 1)), none⟩,
    ⟨(some 4), (.mv (.c (.p (.s (.slice none 0 0))))), none⟩] none [0, 3])
  (.seq (.region [⟨(some 5), (.mv (.t 0)), none⟩,
    ⟨(some 6), (.load 1 true (.t 3)), none⟩,
    ⟨(some 7), (.call 179 [(.t 6)]), none⟩,
    ⟨(some 8), (.call 178 [(.t 5), (.t 7)]), none⟩,
    ⟨(some 4), (.mv (.t 8)), none⟩] none [4])
  .ret)), [(4, none)], false⟩
/-- kinfolk/kinfolkref05.power -/
def ir141_0 : IRC := (.seq (.seq (.region [⟨(some 5), (.mv (.t 4)), none⟩,
    ⟨(some 6), (.mv (.t 0)), none⟩,
    ⟨(some 7), (.bin .lss (.t 5) (.t 6)), none⟩] none [0, 3, 4, 7])
  (.cond (.t 7) .skip (.exit 0)))
  (.seq (.block 1 (.region [⟨(some 10), (.mv (.t 3)), none⟩,
    ⟨(some 11), (.bin .mul (.t 10) (.c (.p (.s (.int .u64 2))))), none⟩,
    ⟨(some 3), (.mv (.t 11)), none⟩] none [0, 3, 4]))
  (.region [⟨(some 8), (.mv (.t 4)), none⟩,
    ⟨(some 9), (.bin .add (.t 8) (.c (.p (.s (.int .i64 1))))), none⟩,
    ⟨(some 4), (.mv (.t 9)), none⟩] none [0, 3, 4])))
def ir141 : IRF := ⟨[0], (.seq (.region [⟨(some 2), (.mv (.c (.p (.s (.int .u64 0))))), none⟩] none [0])
  (.seq (.region [⟨(some 3), (.mv (.c (.p (.s (.int .u64 1))))), none⟩] none [0, 3])
  (.seq (.seq (.region [⟨(some 4), (.mv (.c (.p (.s (.int .i64 0))))), none⟩] none [0, 3, 4])
  (.block 0 (.loop ir141_0)))
  (.seq (.region [⟨(some 12), (.mv (.t 3)), none⟩,
    ⟨(some 2), (.mv (.t 12)), none⟩] none [2])
  .ret)))), [(2, none)], false⟩
/-- kinfolk/kinfolkref05.within -/
def ir142 : IRF := ⟨[0], (.seq (.region [⟨(some 2), (.mv (.c (.p (.s (.int .i64 0))))), none⟩] none [0])
  (.seq (.seq (.region [⟨(some 3), (.mv (.t 0)), none⟩,
    ⟨(some 4), (.bin .lss (.t 3) (.c (.p (.s (.int .i64 0))))), none⟩] none [0, 4])
  (.cond (.t 4) (.seq (.region [⟨(some 2), (.mv (.c (.p (.s (.int .i64 0))))), none⟩] none [2])
  .ret) .skip))
  (.seq (.seq (.region [⟨(some 5), (.mv (.t 0)), none⟩,
    ⟨(some 6), (.bin .gtr (.t 5) (.c (.p (.s (.int .i64 64))))), none⟩] none [0, 6])
  (.cond (.t 6) (.seq (.region [⟨(some 2), (.mv (.c (.p (.s (.int .i64 64))))), none⟩] none [2])
  .ret) .skip))
  (.seq (.region [⟨(some 7), (.mv (.t 0)), none⟩,
    ⟨(some 2), (.mv (.t 7)), none⟩] none [2])
  .ret)))), [(2, none)], false⟩
/-- kinfolk/kinfolkref10.Card -/
def ir143_0 : IRC := (.seq (.region [⟨(some 13), (.bin .lss (.t 12) (.t 11)), none⟩] none [3, 10, 11, 12, 13])
  (.seq (.cond (.t 13) .skip (.exit 0))
  (.seq (.block 1 (.seq (.region [⟨(some 14), (.idxASl 3 (.t 10) (.t 12)), none⟩,
    ⟨(some 15), (.load 3 true (.t 14)), none⟩,
    ⟨(some 5), (.alloc false [(.s (.int .i64 0)), (.s (.string ⟨#[]⟩)), (.s (.string ⟨#[]⟩))]), none⟩,
    ⟨none, (.store 3 (.t 5) (.t 15)), none⟩] none [3, 5, 10, 11, 12])
  (.region [⟨(some 16), (.mv (.t 3)), none⟩,
    ⟨(some 17), (.fieldAddr 0 (.t 5)), none⟩,
    ⟨(some 18), (.load 1 false (.t 17)), none⟩,
    ⟨(some 19), (.cvt .u8 (.t 18)), none⟩,
    ⟨(some 20), (.mkSl false 1 1 [(.s (.int .u8 0))] [(0, 1, (.t 19))]), none⟩,
    ⟨(some 21), (.fieldAddr 1 (.t 5)), none⟩,
    ⟨(some 22), (.load 1 false (.t 21)), none⟩,
    ⟨(some 23), (.call 33 [(.t 22)]), none⟩,
    ⟨(some 24), (.fieldAddr 2 (.t 5)), none⟩,
    ⟨(some 25), (.load 1 false (.t 24)), none⟩,
    ⟨(some 26), (.call 33 [(.t 25)]), none⟩,
    ⟨(some 27), (.mkSl false 4 1 [(.s (.slice none 0 0)), (.s (.slice none 0 0)), (.s (.slice none 0 0)), (.s (.slice none 0 0))] [(0, 1, (.t 16)), (1, 1, (.t 20)), (2, 1, (.t 23)), (3, 1, (.t 26))]), none⟩,
    ⟨(some 28), (.call 36 [(.t 27)]), none⟩,
    ⟨(some 3), (.mv (.t 28)), none⟩] (some [0, 0, 2, 6, 14, 0, 32, 96, 0, 256, 992, 2047, 4095, 8191]) [3, 10, 11, 12])))
  (.region [⟨(some 29), (.bin .add (.t 12) (.c (.p (.s (.int .i64 1))))), none⟩,
    ⟨(some 12), (.mv (.t 29)), none⟩] none [3, 10, 11, 12]))))
def ir143 : IRF := ⟨[0], (.seq (.region [⟨(some 2), (.mv (.c (.p (.s (.slice none 0 0))))), none⟩] none [0])
  (.seq (.region [⟨(some 6), (.mv (.t 0)), none⟩,
    ⟨(some 7), (.len false (.t 6)), none⟩,
    ⟨(some 8), (.cvt .u64 (.t 7)), none⟩,
    ⟨(some 9), (.call 32 [(.t 8)]), none⟩,
    ⟨(some 3), (.mv (.t 9)), none⟩] none [0, 3])
  (.seq (.seq (.region [⟨(some 10), (.mv (.t 0)), none⟩,
    ⟨(some 11), (.len false (.t 10)), none⟩,
    ⟨(some 12), (.mv (.c (.p (.s (.int .i64 0))))), none⟩] none [3, 10, 11, 12])
  (.block 0 (.loop ir143_0)))
  (.seq (.region [⟨(some 30), (.mv (.t 3)), none⟩,
    ⟨(some 2), (.mv (.t 30)), none⟩] none [2])
  .ret)))), [(2, none)], false⟩
/-- slices.IndexFunc[[]kinfolk/book.Entry,kinfolk/book.Entry] -/
def ir144_0 : IRC := (.seq (.region [⟨(some 9), (.bin .lss (.t 8) (.t 7)), none⟩] none [0, 1, 7, 8, 9])
  (.seq (.cond (.t 9) .skip (.exit 0))
  (.seq (.block 1 (.seq (.region [⟨(some 10), (.mv (.t 8)), none⟩,
    ⟨(some 5), (.mv (.t 10)), none⟩] none [0, 1, 5, 7, 8])
  (.seq (.region [⟨(some 11), (.mv (.t 1)), none⟩,
    ⟨(some 12), (.mv (.t 0)), none⟩,
    ⟨(some 13), (.mv (.t 5)), none⟩,
    ⟨(some 14), (.idxASl 5 (.t 12) (.t 13)), none⟩,
    ⟨(some 15), (.load 5 true (.t 14)), none⟩,
    ⟨(some 16), (.callv (.t 11) [(.t 15)]), none⟩] none [0, 1, 5, 7, 8, 16])
  (.cond (.t 16) (.seq (.region [⟨(some 17), (.mv (.t 5)), none⟩,
    ⟨(some 4), (.mv (.t 17)), none⟩] none [4])
  .ret) .skip))))
  (.region [⟨(some 18), (.bin .add (.t 8) (.c (.p (.s (.int .i64 1))))), none⟩,
    ⟨(some 8), (.mv (.t 18)), none⟩] none [0, 1, 7, 8]))))
def ir144 : IRF := ⟨[0, 1], (.seq (.region [⟨(some 4), (.mv (.c (.p (.s (.int .i64 0))))), none⟩] none [0, 1])
  (.seq (.seq (.region [⟨(some 6), (.mv (.t 0)), none⟩,
    ⟨(some 7), (.len false (.t 6)), none⟩,
    ⟨(some 8), (.mv (.c (.p (.s (.int .i64 0))))), none⟩] none [0, 1, 7, 8])
  (.block 0 (.loop ir144_0)))
  (.seq (.region [⟨(some 4), (.mv (.c (.p (.s (.int .i64 (-1)))))), none⟩] none [4])
  .ret))), [(4, none)], false⟩
/-- (kinfolk/event.Event).up -/
def ir145 : IRF := ⟨[0, 1], (.seq (.region [⟨(some 2), (.box false (.t 0)), none⟩,
    ⟨(some 4), (.alloc false [(.s (.int .u64 0)), (.s (.pointer none))]), none⟩] none [1, 2, 4])
  (.seq (.region [⟨(some 5), (.fieldAddr 0 (.t 2)), none⟩,
    ⟨(some 6), (.load 1 false (.t 5)), none⟩,
    ⟨(some 7), (.mv (.t 1)), none⟩,
    ⟨(some 8), (.bin .add (.t 6) (.t 7)), none⟩,
    ⟨(some 9), (.fieldAddr 0 (.t 2)), none⟩,
    ⟨none, (.store 1 (.t 9) (.t 8)), none⟩] none [2, 4])
  (.seq (.region [⟨(some 10), (.load 2 true (.t 2)), none⟩,
    ⟨none, (.store 2 (.t 4) (.t 10)), none⟩] none [4])
  .ret))), [(4, some (2, true))], false⟩
/-- kinfolk/kinfolkref02.Add -/
def ir146 : IRF := ⟨[0, 1], (.seq (.region [⟨(some 4), (.mv (.c (.p (.s (.pointer none))))), none⟩] none [0, 1])
  (.seq (.region [⟨(some 5), (.mv (.t 0)), none⟩,
    ⟨(some 6), (.nilCk (.t 5)), none⟩,
    ⟨(some 7), (.fieldAddr 0 (.t 6)), none⟩,
    ⟨(some 8), (.load 1 false (.t 7)), none⟩,
    ⟨(some 9), (.mv (.t 1)), none⟩,
    ⟨(some 10), (.bin .add (.t 8) (.t 9)), none⟩,
    ⟨(some 11), (.mv (.t 0)), none⟩,
    ⟨(some 12), (.nilCk (.t 11)), none⟩,
    ⟨(some 13), (.fieldAddr 1 (.t 12)), none⟩,
    ⟨(some 14), (.load 1 false (.t 13)), none⟩,
    ⟨(some 15), (.mv (.t 0)), none⟩,
    ⟨(some 16), (.nilCk (.t 15)), none⟩,
    ⟨(some 17), (.fieldAddr 2 (.t 16)), none⟩,
    ⟨(some 18), (.load 1 false (.t 17)), none⟩,
    ⟨(some 19), (.build [(.s (.int .u64 0)), (.s (.pointer none)), (.s (.pointer none))] [(0, 1, (.t 10)), (1, 1, (.t 14)), (2, 1, (.t 18))]), none⟩,
    ⟨(some 20), (.box true (.t 19)), none⟩,
    ⟨(some 4), (.mv (.t 20)), none⟩] (some [0, 1, 3, 7, 0, 31, 0, 64, 192, 448, 0, 1024, 3072, 7168, 16383, 32767, 65535]) [4])
  .ret)), [(4, none)], false⟩
/-- (kinfolk/event.Event).Depth -/
def ir158 : IRF := ⟨[0], (.seq (.region [⟨(some 1), (.box false (.t 0)), none⟩,
    ⟨(some 2), (.mv (.c (.p (.s (.int .i64 0))))), none⟩] none [1])
  (.seq (.seq (.region [⟨(some 3), (.fieldAddr 1 (.t 1)), none⟩,
    ⟨(some 4), (.load 1 false (.t 3)), none⟩,
    ⟨(some 5), (.eq false .ptr (.t 4) (.c (.p (.s (.pointer none))))), none⟩] none [1, 5])
  (.cond (.t 5) (.seq (.region [⟨(some 2), (.mv (.c (.p (.s (.int .i64 0))))), none⟩] none [2])
  .ret) .skip))
  (.seq (.region [⟨(some 6), (.fieldAddr 1 (.t 1)), none⟩,
    ⟨(some 7), (.load 1 false (.t 6)), none⟩,
    ⟨(some 8), (.nilCk (.t 7)), none⟩,
    ⟨(some 9), (.fieldAddr 0 (.t 8)), none⟩,
    ⟨(some 10), (.load 2 true (.t 9)), none⟩,
    ⟨(some 11), (.call 158 [(.t 10)]), none⟩,
    ⟨(some 12), (.fieldAddr 1 (.t 1)), none⟩,
    ⟨(some 13), (.load 1 false (.t 12)), none⟩,
    ⟨(some 14), (.nilCk (.t 13)), none⟩,
    ⟨(some 15), (.fieldAddr 2 (.t 14)), none⟩,
    ⟨(some 16), (.load 2 true (.t 15)), none⟩,
    ⟨(some 17), (.call 158 [(.t 16)]), none⟩,
    ⟨(some 18), (.minmax true [(.t 11), (.t 17)]), none⟩,
    ⟨(some 19), (.bin .add (.c (.p (.s (.int .i64 1)))) (.t 18)), none⟩,
    ⟨(some 2), (.mv (.t 19)), none⟩] (some [0, 1, 3, 7, 15, 31, 0, 64, 192, 448, 960, 2047, 4095, 8191, 16383]) [2])
  .ret))), [(2, none)], false⟩
/-- (kinfolk/event.Event).Max -/
def ir159 : IRF := ⟨[0], (.seq (.region [⟨(some 1), (.box false (.t 0)), none⟩,
    ⟨(some 2), (.mv (.c (.p (.s (.int .u64 0))))), none⟩] none [1])
  (.seq (.seq (.region [⟨(some 3), (.fieldAddr 1 (.t 1)), none⟩,
    ⟨(some 4), (.load 1 false (.t 3)), none⟩,
    ⟨(some 5), (.eq false .ptr (.t 4) (.c (.p (.s (.pointer none))))), none⟩] none [1, 5])
  (.cond (.t 5) (.seq (.region [⟨(some 6), (.fieldAddr 0 (.t 1)), none⟩,
    ⟨(some 7), (.load 1 false (.t 6)), none⟩,
    ⟨(some 2), (.mv (.t 7)), none⟩] none [2])
  .ret) .skip))
  (.seq (.region [⟨(some 8), (.fieldAddr 0 (.t 1)), none⟩,
    ⟨(some 9), (.load 1 false (.t 8)), none⟩,
    ⟨(some 10), (.fieldAddr 1 (.t 1)), none⟩,
    ⟨(some 11), (.load 1 false (.t 10)), none⟩,
    ⟨(some 12), (.nilCk (.t 11)), none⟩,
    ⟨(some 13), (.fieldAddr 0 (.t 12)), none⟩,
    ⟨(some 14), (.load 2 true (.t 13)), none⟩,
    ⟨(some 15), (.call 159 [(.t 14)]), none⟩,
    ⟨(some 16), (.fieldAddr 1 (.t 1)), none⟩,
    ⟨(some 17), (.load 1 false (.t 16)), none⟩,
    ⟨(some 18), (.nilCk (.t 17)), none⟩,
    ⟨(some 19), (.fieldAddr 2 (.t 18)), none⟩,
    ⟨(some 20), (.load 2 true (.t 19)), none⟩,
    ⟨(some 21), (.call 159 [(.t 20)]), none⟩,
    ⟨(some 22), (.minmax true [(.t 15), (.t 21)]), none⟩,
    ⟨(some 23), (.bin .add (.t 9) (.t 22)), none⟩,
    ⟨(some 2), (.mv (.t 23)), none⟩] (some [0, 1, 0, 4, 12, 28, 60, 124, 0, 256, 768, 1792, 3840, 8188, 16380, 32767, 65535]) [2])
  .ret))), [(2, none)], false⟩
/-- (kinfolk/id.ID).IsOne -/
def ir160 : IRF := ⟨[0], (.seq (.region [⟨(some 1), (.box false (.t 0)), none⟩,
    ⟨(some 2), (.mv (.c (.p (.s (.bool false))))), none⟩] none [1])
  (.seq (.region [⟨(some 3), (.fieldAddr 0 (.t 1)), none⟩,
    ⟨(some 4), (.load 1 false (.t 3)), none⟩,
    ⟨(some 2), (.mv (.t 4)), none⟩] none [2])
  .ret)), [(2, none)], false⟩
/-- kinfolk/kinfolkref08.sign -/
def ir161_0 : IRC := (.seq (.tidy [0, 1, 8, 9, 10, 11] [])
  (.seq (.seq (.region [⟨(some 47), (.mv (.t 11)), none⟩,
    ⟨(some 48), (.mv (.t 8)), none⟩,
    ⟨(some 49), (.bin .lss (.t 47) (.t 48)), none⟩] none [0, 1, 8, 9, 10, 11, 49])
  (.cond (.t 49) .skip (.exit 1)))
  (.seq (.block 2 (.seq (.seq (.region [⟨(some 52), (.mv (.t 1)), none⟩,
    ⟨(some 53), (.mv (.t 11)), none⟩,
    ⟨(some 54), (.bin .add (.t 52) (.t 53)), none⟩,
    ⟨(some 55), (.mv (.t 0)), none⟩,
    ⟨(some 56), (.len true (.t 55)), none⟩,
    ⟨(some 57), (.bin .geq (.t 54) (.t 56)), none⟩,
    ⟨(some 58), (.mv (.t 57)), none⟩,
    ⟨(some 59), (.mv (.t 0)), (some (58, false))⟩,
    ⟨(some 60), (.mv (.t 1)), (some (58, false))⟩,
    ⟨(some 61), (.mv (.t 11)), (some (58, false))⟩,
    ⟨(some 62), (.bin .add (.t 60) (.t 61)), (some (58, false))⟩,
    ⟨(some 63), (.idxStr (.t 59) (.t 62)), (some (58, false))⟩,
    ⟨(some 64), (.bin .lss (.t 63) (.c (.p (.s (.int .u8 128))))), (some (58, false))⟩,
    ⟨(some 65), (.pick (.t 58) (.c (.p (.s (.bool true)))) (.t 64)), none⟩,
    ⟨(some 66), (.mv (.t 65)), none⟩,
    ⟨(some 67), (.mv (.t 0)), (some (66, false))⟩,
    ⟨(some 68), (.mv (.t 1)), (some (66, false))⟩,
    ⟨(some 69), (.mv (.t 11)), (some (66, false))⟩,
    ⟨(some 70), (.bin .add (.t 68) (.t 69)), (some (66, false))⟩,
    ⟨(some 71), (.idxStr (.t 67) (.t 70)), (some (66, false))⟩,
    ⟨(some 72), (.bin .gtr (.t 71) (.c (.p (.s (.int .u8 191))))), (some (66, false))⟩,
    ⟨(some 73), (.pick (.t 66) (.c (.p (.s (.bool true)))) (.t 72)), none⟩] none [0, 1, 8, 9, 10, 11, 73])
  (.cond (.t 73) (.seq (.region [⟨(some 4), (.mv (.c (.p (.s (.int .i64 0))))), none⟩,
    ⟨(some 5), (.mv (.c (.p (.s (.int .i64 1))))), none⟩,
    ⟨(some 6), (.mv (.c (.p (.s (.bool false))))), none⟩] none [4, 5, 6])
  .ret) .skip))
  (.region [⟨(some 74), (.mv (.t 10)), none⟩,
    ⟨(some 75), (.bin .mul (.c (.p (.s (.int .i64 64)))) (.t 74)), none⟩,
    ⟨(some 76), (.mv (.t 0)), none⟩,
    ⟨(some 77), (.mv (.t 1)), none⟩,
    ⟨(some 78), (.mv (.t 11)), none⟩,
    ⟨(some 79), (.bin .add (.t 77) (.t 78)), none⟩,
    ⟨(some 80), (.idxStr (.t 76) (.t 79)), none⟩,
    ⟨(some 81), (.cvt .i64 (.t 80)), none⟩,
    ⟨(some 82), (.bin .add (.t 75) (.t 81)), none⟩,
    ⟨(some 83), (.bin .sub (.t 82) (.c (.p (.s (.int .i64 128))))), none⟩,
    ⟨(some 10), (.mv (.t 83)), none⟩] none [0, 1, 8, 9, 10, 11])))
  (.region [⟨(some 50), (.mv (.t 11)), none⟩,
    ⟨(some 51), (.bin .add (.t 50) (.c (.p (.s (.int .i64 1))))), none⟩,
    ⟨(some 11), (.mv (.t 51)), none⟩] none [0, 1, 8, 9, 10, 11]))))
def ir161 : IRF := ⟨[0, 1], (.seq (.region [⟨(some 4), (.mv (.c (.p (.s (.int .i64 0))))), none⟩,
    ⟨(some 5), (.mv (.c (.p (.s (.int .i64 0))))), none⟩,
    ⟨(some 6), (.mv (.c (.p (.s (.bool false))))), none⟩] none [0, 1])
  (.seq (.region [⟨(some 12), (.mv (.t 0)), none⟩,
    ⟨(some 13), (.mv (.t 1)), none⟩,
    ⟨(some 14), (.idxStr (.t 12) (.t 13)), none⟩,
    ⟨(some 15), (.cvt .i64 (.t 14)), none⟩,
    ⟨(some 7), (.mv (.t 15)), none⟩] none [0, 1, 7])
  (.seq (.region [⟨(some 8), (.mv (.c (.p (.s (.int .i64 0))))), none⟩,
    ⟨(some 9), (.mv (.c (.p (.s (.int .i64 0))))), none⟩,
    ⟨(some 10), (.mv (.c (.p (.s (.int .i64 0))))), none⟩] none [0, 1, 7])
  (.seq (.block 0 (.seq (.region [⟨(some 17), (.mv (.t 7)), none⟩,
    ⟨(some 18), (.bin .lss (.t 17) (.c (.p (.s (.int .i64 128))))), none⟩,
    ⟨(some 16), (.mv (.t 18)), none⟩] none [0, 1, 7, 16])
  (.cond (.t 16) (.seq (.region [⟨(some 19), (.mv (.t 7)), none⟩,
    ⟨(some 4), (.mv (.t 19)), none⟩,
    ⟨(some 5), (.mv (.c (.p (.s (.int .i64 1))))), none⟩,
    ⟨(some 6), (.mv (.c (.p (.s (.bool true))))), none⟩] none [4, 5, 6])
  .ret) (.seq (.region [⟨(some 21), (.mv (.t 7)), none⟩,
    ⟨(some 22), (.bin .geq (.t 21) (.c (.p (.s (.int .i64 192))))), none⟩,
    ⟨(some 23), (.mv (.t 22)), none⟩,
    ⟨(some 24), (.mv (.t 7)), (some (23, true))⟩,
    ⟨(some 25), (.bin .lss (.t 24) (.c (.p (.s (.int .i64 224))))), (some (23, true))⟩,
    ⟨(some 26), (.pick (.t 23) (.t 25) (.c (.p (.s (.bool false))))), none⟩,
    ⟨(some 20), (.mv (.t 26)), none⟩] none [0, 1, 7, 20])
  (.cond (.t 20) (.region [⟨(some 27), (.mv (.t 7)), none⟩,
    ⟨(some 28), (.bin .sub (.t 27) (.c (.p (.s (.int .i64 192))))), none⟩,
    ⟨(some 8), (.mv (.c (.p (.s (.int .i64 2))))), none⟩,
    ⟨(some 9), (.mv (.c (.p (.s (.int .i64 128))))), none⟩,
    ⟨(some 10), (.mv (.t 28)), none⟩] none [0, 1, 8, 9, 10]) (.seq (.region [⟨(some 30), (.mv (.t 7)), none⟩,
    ⟨(some 31), (.bin .geq (.t 30) (.c (.p (.s (.int .i64 224))))), none⟩,
    ⟨(some 32), (.mv (.t 31)), none⟩,
    ⟨(some 33), (.mv (.t 7)), (some (32, true))⟩,
    ⟨(some 34), (.bin .lss (.t 33) (.c (.p (.s (.int .i64 240))))), (some (32, true))⟩,
    ⟨(some 35), (.pick (.t 32) (.t 34) (.c (.p (.s (.bool false))))), none⟩,
    ⟨(some 29), (.mv (.t 35)), none⟩] none [0, 1, 7, 29])
  (.cond (.t 29) (.region [⟨(some 36), (.mv (.t 7)), none⟩,
    ⟨(some 37), (.bin .sub (.t 36) (.c (.p (.s (.int .i64 224))))), none⟩,
    ⟨(some 8), (.mv (.c (.p (.s (.int .i64 3))))), none⟩,
    ⟨(some 9), (.mv (.c (.p (.s (.int .i64 2048))))), none⟩,
    ⟨(some 10), (.mv (.t 37)), none⟩] none [0, 1, 8, 9, 10]) (.seq (.region [⟨(some 39), (.mv (.t 7)), none⟩,
    ⟨(some 40), (.bin .geq (.t 39) (.c (.p (.s (.int .i64 240))))), none⟩,
    ⟨(some 41), (.mv (.t 40)), none⟩,
    ⟨(some 42), (.mv (.t 7)), (some (41, true))⟩,
    ⟨(some 43), (.bin .lss (.t 42) (.c (.p (.s (.int .i64 248))))), (some (41, true))⟩,
    ⟨(some 44), (.pick (.t 41) (.t 43) (.c (.p (.s (.bool false))))), none⟩,
    ⟨(some 38), (.mv (.t 44)), none⟩] none [0, 1, 7, 38])
  (.cond (.t 38) (.region [⟨(some 45), (.mv (.t 7)), none⟩,
    ⟨(some 46), (.bin .sub (.t 45) (.c (.p (.s (.int .i64 240))))), none⟩,
    ⟨(some 8), (.mv (.c (.p (.s (.int .i64 4))))), none⟩,
    ⟨(some 9), (.mv (.c (.p (.s (.int .i64 65536))))), none⟩,
    ⟨(some 10), (.mv (.t 46)), none⟩] none [0, 1, 8, 9, 10]) (.seq (.region [⟨(some 4), (.mv (.c (.p (.s (.int .i64 0))))), none⟩,
    ⟨(some 5), (.mv (.c (.p (.s (.int .i64 1))))), none⟩,
    ⟨(some 6), (.mv (.c (.p (.s (.bool false))))), none⟩] none [4, 5, 6])
  .ret))))))))))
  (.seq (.seq (.region [⟨(some 11), (.mv (.c (.p (.s (.int .i64 1))))), none⟩] none [0, 1, 8, 9, 10, 11])
  (.block 1 (.loop ir161_0)))
  (.seq (.seq (.region [⟨(some 84), (.mv (.t 10)), none⟩,
    ⟨(some 85), (.mv (.t 9)), none⟩,
    ⟨(some 86), (.bin .lss (.t 84) (.t 85)), none⟩,
    ⟨(some 87), (.mv (.t 86)), none⟩,
    ⟨(some 88), (.mv (.t 10)), (some (87, false))⟩,
    ⟨(some 89), (.bin .gtr (.t 88) (.c (.p (.s (.int .i64 1114111))))), (some (87, false))⟩,
    ⟨(some 90), (.pick (.t 87) (.c (.p (.s (.bool true)))) (.t 89)), none⟩,
    ⟨(some 91), (.mv (.t 90)), none⟩,
    ⟨(some 92), (.mv (.t 10)), (some (91, false))⟩,
    ⟨(some 93), (.bin .geq (.t 92) (.c (.p (.s (.int .i64 55296))))), (some (91, false))⟩,
    ⟨(some 94), (.mv (.t 93)), (some (91, false))⟩,
    ⟨(some 95), (.mv (.t 10)), (some (94, true))⟩,
    ⟨(some 96), (.bin .lss (.t 95) (.c (.p (.s (.int .i64 57344))))), (some (94, true))⟩,
    ⟨(some 97), (.pick (.t 94) (.t 96) (.c (.p (.s (.bool false))))), (some (91, false))⟩,
    ⟨(some 98), (.pick (.t 91) (.c (.p (.s (.bool true)))) (.t 97)), none⟩] none [8, 10, 98])
  (.cond (.t 98) (.seq (.region [⟨(some 4), (.mv (.c (.p (.s (.int .i64 0))))), none⟩,
    ⟨(some 5), (.mv (.c (.p (.s (.int .i64 1))))), none⟩,
    ⟨(some 6), (.mv (.c (.p (.s (.bool false))))), none⟩] none [4, 5, 6])
  .ret) .skip))
  (.seq (.region [⟨(some 99), (.mv (.t 10)), none⟩,
    ⟨(some 100), (.mv (.t 8)), none⟩,
    ⟨(some 4), (.mv (.t 99)), none⟩,
    ⟨(some 5), (.mv (.t 100)), none⟩,
    ⟨(some 6), (.mv (.c (.p (.s (.bool true))))), none⟩] none [4, 5, 6])
  .ret))))))), [(4, none), (5, none), (6, none)], false⟩
/-- unicode/utf8.ValidString -/
def ir162_0 : IRC := (.seq (.tidy [0] [])
  (.seq (.seq (.region [⟨(some 42), (.mv (.t 0)), none⟩,
    ⟨(some 43), (.len true (.t 42)), none⟩,
    ⟨(some 44), (.bin .gtr (.t 43) (.c (.p (.s (.int .i64 32))))), none⟩,
    ⟨(some 45), (.mv (.t 44)), none⟩,
    ⟨(some 46), (.mv (.t 0)), (some (45, true))⟩,
    ⟨(some 47), (.call 187 [(.t 46)]), (some (45, true))⟩,
    ⟨(some 48), (.mv (.t 0)), (some (45, true))⟩,
    ⟨(some 49), (.slStr (.t 48) (some (.c (.p (.s (.int .i64 8))))) none), (some (45, true))⟩,
    ⟨(some 50), (.call 187 [(.t 49)]), (some (45, true))⟩,
    ⟨(some 51), (.bin .or (.t 47) (.t 50)), (some (45, true))⟩,
    ⟨(some 52), (.mv (.t 0)), (some (45, true))⟩,
    ⟨(some 53), (.slStr (.t 52) (some (.c (.p (.s (.int .i64 16))))) none), (some (45, true))⟩,
    ⟨(some 54), (.call 187 [(.t 53)]), (some (45, true))⟩,
    ⟨(some 55), (.mv (.t 0)), (some (45, true))⟩,
    ⟨(some 56), (.slStr (.t 55) (some (.c (.p (.s (.int .i64 24))))) none), (some (45, true))⟩,
    ⟨(some 57), (.call 187 [(.t 56)]), (some (45, true))⟩,
    ⟨(some 58), (.bin .or (.t 54) (.t 57)), (some (45, true))⟩,
    ⟨(some 59), (.bin .or (.t 51) (.t 58)), (some (45, true))⟩,
    ⟨(some 60), (.bin .and (.t 59) (.c (.p (.s (.int .u64 9259542123273814144))))), (some (45, true))⟩,
    ⟨(some 61), (.bin .eql (.t 60) (.c (.p (.s (.int .u64 0))))), (some (45, true))⟩,
    ⟨(some 62), (.pick (.t 45) (.t 61) (.c (.p (.s (.bool false))))), none⟩] (some [0, 1, 3, 7, 15, 31, 15, 79, 255, 511, 15, 1039, 3583, 15, 8207, 32255, 65023, 131071, 262143, 524287, 1048575]) [0, 62])
  (.cond (.t 62) .skip (.exit 2)))
  (.block 3 (.region [⟨(some 63), (.mv (.t 0)), none⟩,
    ⟨(some 64), (.slStr (.t 63) (some (.c (.p (.s (.int .i64 32))))) none), none⟩,
    ⟨(some 0), (.mv (.t 64)), none⟩] none [0]))))
def ir162_1 : IRC := (.seq (.tidy [0] [])
  (.seq (.seq (.region [⟨(some 7), (.mv (.t 0)), none⟩,
    ⟨(some 8), (.len true (.t 7)), none⟩,
    ⟨(some 9), (.bin .gtr (.t 8) (.c (.p (.s (.int .i64 0))))), none⟩] none [0, 9])
  (.cond (.t 9) .skip (.exit 0)))
  (.block 1 (.seq (.region [⟨(some 10), (.mv (.t 0)), none⟩,
    ⟨(some 11), (.idxStr (.t 10) (.c (.p (.s (.int .i64 0))))), none⟩,
    ⟨(some 3), (.mv (.t 11)), none⟩] none [0, 3])
  (.seq (.seq (.region [⟨(some 12), (.mv (.t 3)), none⟩,
    ⟨(some 13), (.bin .lss (.t 12) (.c (.p (.s (.int .u8 128))))), none⟩] none [0, 3, 13])
  (.cond (.t 13) (.seq (.region [⟨(some 14), (.mv (.t 0)), none⟩,
    ⟨(some 15), (.slStr (.t 14) (some (.c (.p (.s (.int .i64 1))))) none), none⟩,
    ⟨(some 0), (.mv (.t 15)), none⟩] none [0])
  (.seq (.seq (.region [⟨(some 16), (.mv (.t 0)), none⟩,
    ⟨(some 17), (.len true (.t 16)), none⟩,
    ⟨(some 18), (.bin .gtr (.t 17) (.c (.p (.s (.int .i64 8))))), none⟩,
    ⟨(some 19), (.mv (.t 18)), none⟩,
    ⟨(some 20), (.mv (.t 0)), (some (19, true))⟩,
    ⟨(some 21), (.call 187 [(.t 20)]), (some (19, true))⟩,
    ⟨(some 22), (.bin .and (.t 21) (.c (.p (.s (.int .u64 9259542123273814144))))), (some (19, true))⟩,
    ⟨(some 23), (.bin .eql (.t 22) (.c (.p (.s (.int .u64 0))))), (some (19, true))⟩,
    ⟨(some 24), (.pick (.t 19) (.t 23) (.c (.p (.s (.bool false))))), none⟩] none [0, 24])
  (.cond (.t 24) (.seq (.region [⟨(some 25), (.mv (.t 0)), none⟩,
    ⟨(some 26), (.slStr (.t 25) (some (.c (.p (.s (.int .i64 8))))) none), none⟩,
    ⟨(some 0), (.mv (.t 26)), none⟩] none [0])
  (.seq (.region [⟨(some 27), (.mv (.t 0)), none⟩,
    ⟨(some 28), (.len true (.t 27)), none⟩,
    ⟨(some 29), (.bin .gtr (.t 28) (.c (.p (.s (.int .i64 16))))), none⟩,
    ⟨(some 30), (.mv (.t 29)), none⟩,
    ⟨(some 31), (.mv (.t 0)), (some (30, true))⟩,
    ⟨(some 32), (.call 187 [(.t 31)]), (some (30, true))⟩,
    ⟨(some 33), (.mv (.t 0)), (some (30, true))⟩,
    ⟨(some 34), (.slStr (.t 33) (some (.c (.p (.s (.int .i64 8))))) none), (some (30, true))⟩,
    ⟨(some 35), (.call 187 [(.t 34)]), (some (30, true))⟩,
    ⟨(some 36), (.bin .or (.t 32) (.t 35)), (some (30, true))⟩,
    ⟨(some 37), (.bin .and (.t 36) (.c (.p (.s (.int .u64 9259542123273814144))))), (some (30, true))⟩,
    ⟨(some 38), (.bin .eql (.t 37) (.c (.p (.s (.int .u64 0))))), (some (30, true))⟩,
    ⟨(some 39), (.pick (.t 30) (.t 38) (.c (.p (.s (.bool false))))), none⟩] (some [0, 1, 3, 7, 15, 31, 15, 79, 255, 511, 1023, 2047, 4095]) [0, 39])
  (.cond (.t 39) (.seq (.region [⟨(some 40), (.mv (.t 0)), none⟩,
    ⟨(some 41), (.slStr (.t 40) (some (.c (.p (.s (.int .i64 16))))) none), none⟩,
    ⟨(some 0), (.mv (.t 41)), none⟩] none [0])
  (.block 2 (.loop ir162_0))) .skip))) .skip))
  (.exit 1))) .skip))
  (.seq (.region [⟨(some 65), (.mv (.t 3)), none⟩,
    ⟨(some 66), (.idxAArr 256 1 (.g 0) (.t 65)), none⟩,
    ⟨(some 67), (.load 1 false (.t 66)), none⟩,
    ⟨(some 4), (.mv (.t 67)), none⟩] none [0, 4])
  (.seq (.region [⟨(some 68), (.mv (.t 4)), none⟩,
    ⟨(some 69), (.bin .and (.t 68) (.c (.p (.s (.int .u8 7))))), none⟩,
    ⟨(some 70), (.cvt .i64 (.t 69)), none⟩,
    ⟨(some 5), (.mv (.t 70)), none⟩] none [0, 4, 5])
  (.seq (.seq (.region [⟨(some 71), (.mv (.t 4)), none⟩,
    ⟨(some 72), (.bin .shr (.t 71) (.c (.p (.s (.int .u64 4))))), none⟩,
    ⟨(some 73), (.idxAArr 16 2 (.g 1) (.t 72)), none⟩,
    ⟨(some 74), (.load 2 true (.t 73)), none⟩,
    ⟨(some 6), (.alloc false [(.s (.int .u8 0)), (.s (.int .u8 0))]), none⟩,
    ⟨none, (.store 2 (.t 6) (.t 74)), none⟩] none [0, 5, 6])
  (.tidy [0, 5] [6]))
  (.seq (.region [⟨(some 75), (.mv (.t 5)), none⟩] none [0, 6, 75])
  (.block 4 (.seq (.region [⟨(some 77), (.bin .eql (.t 75) (.c (.p (.s (.int .i64 2))))), none⟩,
    ⟨(some 76), (.mv (.t 77)), none⟩] none [0, 6, 75, 76])
  (.cond (.t 76) (.seq (.seq (.region [⟨(some 78), (.mv (.t 0)), none⟩,
    ⟨(some 79), (.len true (.t 78)), none⟩,
    ⟨(some 80), (.bin .lss (.t 79) (.c (.p (.s (.int .i64 2))))), none⟩,
    ⟨(some 81), (.mv (.t 80)), none⟩,
    ⟨(some 82), (.mv (.t 0)), (some (81, false))⟩,
    ⟨(some 83), (.idxStr (.t 82) (.c (.p (.s (.int .i64 1))))), (some (81, false))⟩,
    ⟨(some 84), (.fieldAddr 0 (.t 6)), (some (81, false))⟩,
    ⟨(some 85), (.load 1 false (.t 84)), (some (81, false))⟩,
    ⟨(some 86), (.bin .lss (.t 83) (.t 85)), (some (81, false))⟩,
    ⟨(some 87), (.pick (.t 81) (.c (.p (.s (.bool true)))) (.t 86)), none⟩,
    ⟨(some 88), (.mv (.t 87)), none⟩,
    ⟨(some 89), (.fieldAddr 1 (.t 6)), (some (88, false))⟩,
    ⟨(some 90), (.load 1 false (.t 89)), (some (88, false))⟩,
    ⟨(some 91), (.mv (.t 0)), (some (88, false))⟩,
    ⟨(some 92), (.idxStr (.t 91) (.c (.p (.s (.int .i64 1))))), (some (88, false))⟩,
    ⟨(some 93), (.bin .lss (.t 90) (.t 92)), (some (88, false))⟩,
    ⟨(some 94), (.pick (.t 88) (.c (.p (.s (.bool true)))) (.t 93)), none⟩] (some [0, 1, 3, 7, 15, 31, 15, 79, 255, 511, 1023, 2047, 4095, 2047, 10239, 32767, 65535]) [0, 94])
  (.cond (.t 94) (.seq (.region [⟨(some 2), (.mv (.c (.p (.s (.bool false))))), none⟩] none [2])
  .ret) .skip))
  (.region [⟨(some 95), (.mv (.t 0)), none⟩,
    ⟨(some 96), (.slStr (.t 95) (some (.c (.p (.s (.int .i64 2))))) none), none⟩,
    ⟨(some 0), (.mv (.t 96)), none⟩] none [0])) (.seq (.region [⟨(some 98), (.bin .eql (.t 75) (.c (.p (.s (.int .i64 3))))), none⟩,
    ⟨(some 97), (.mv (.t 98)), none⟩] none [0, 6, 75, 97])
  (.cond (.t 97) (.seq (.seq (.region [⟨(some 99), (.mv (.t 0)), none⟩,
    ⟨(some 100), (.len true (.t 99)), none⟩,
    ⟨(some 101), (.bin .lss (.t 100) (.c (.p (.s (.int .i64 3))))), none⟩,
    ⟨(some 102), (.mv (.t 101)), none⟩,
    ⟨(some 103), (.mv (.t 0)), (some (102, false))⟩,
    ⟨(some 104), (.idxStr (.t 103) (.c (.p (.s (.int .i64 1))))), (some (102, false))⟩,
    ⟨(some 105), (.fieldAddr 0 (.t 6)), (some (102, false))⟩,
    ⟨(some 106), (.load 1 false (.t 105)), (some (102, false))⟩,
    ⟨(some 107), (.bin .lss (.t 104) (.t 106)), (some (102, false))⟩,
    ⟨(some 108), (.pick (.t 102) (.c (.p (.s (.bool true)))) (.t 107)), none⟩,
    ⟨(some 109), (.mv (.t 108)), none⟩,
    ⟨(some 110), (.fieldAddr 1 (.t 6)), (some (109, false))⟩,
    ⟨(some 111), (.load 1 false (.t 110)), (some (109, false))⟩,
    ⟨(some 112), (.mv (.t 0)), (some (109, false))⟩,
    ⟨(some 113), (.idxStr (.t 112) (.c (.p (.s (.int .i64 1))))), (some (109, false))⟩,
    ⟨(some 114), (.bin .lss (.t 111) (.t 113)), (some (109, false))⟩,
    ⟨(some 115), (.pick (.t 109) (.c (.p (.s (.bool true)))) (.t 114)), none⟩,
    ⟨(some 116), (.mv (.t 115)), none⟩,
    ⟨(some 117), (.mv (.t 0)), (some (116, false))⟩,
    ⟨(some 118), (.idxStr (.t 117) (.c (.p (.s (.int .i64 2))))), (some (116, false))⟩,
    ⟨(some 119), (.bin .lss (.t 118) (.c (.p (.s (.int .u8 128))))), (some (116, false))⟩,
    ⟨(some 120), (.pick (.t 116) (.c (.p (.s (.bool true)))) (.t 119)), none⟩,
    ⟨(some 121), (.mv (.t 120)), none⟩,
    ⟨(some 122), (.mv (.t 0)), (some (121, false))⟩,
    ⟨(some 123), (.idxStr (.t 122) (.c (.p (.s (.int .i64 2))))), (some (121, false))⟩,
    ⟨(some 124), (.bin .lss (.c (.p (.s (.int .u8 191)))) (.t 123)), (some (121, false))⟩,
    ⟨(some 125), (.pick (.t 121) (.c (.p (.s (.bool true)))) (.t 124)), none⟩] (some [0, 1, 3, 7, 15, 31, 15, 79, 255, 511, 1023, 2047, 4095, 2047, 10239, 32767, 65535, 131071, 262143, 524287, 1048575, 2097151, 4194303, 8388607, 16777215, 33554431, 67108863]) [0, 125])
  (.cond (.t 125) (.seq (.region [⟨(some 2), (.mv (.c (.p (.s (.bool false))))), none⟩] none [2])
  .ret) .skip))
  (.region [⟨(some 126), (.mv (.t 0)), none⟩,
    ⟨(some 127), (.slStr (.t 126) (some (.c (.p (.s (.int .i64 3))))) none), none⟩,
    ⟨(some 0), (.mv (.t 127)), none⟩] none [0])) (.seq (.region [⟨(some 129), (.bin .eql (.t 75) (.c (.p (.s (.int .i64 4))))), none⟩,
    ⟨(some 128), (.mv (.t 129)), none⟩] none [0, 6, 128])
  (.cond (.t 128) (.seq (.seq (.region [⟨(some 130), (.mv (.t 0)), none⟩,
    ⟨(some 131), (.len true (.t 130)), none⟩,
    ⟨(some 132), (.bin .lss (.t 131) (.c (.p (.s (.int .i64 4))))), none⟩,
    ⟨(some 133), (.mv (.t 132)), none⟩,
    ⟨(some 134), (.mv (.t 0)), (some (133, false))⟩,
    ⟨(some 135), (.idxStr (.t 134) (.c (.p (.s (.int .i64 1))))), (some (133, false))⟩,
    ⟨(some 136), (.fieldAddr 0 (.t 6)), (some (133, false))⟩,
    ⟨(some 137), (.load 1 false (.t 136)), (some (133, false))⟩,
    ⟨(some 138), (.bin .lss (.t 135) (.t 137)), (some (133, false))⟩,
    ⟨(some 139), (.pick (.t 133) (.c (.p (.s (.bool true)))) (.t 138)), none⟩,
    ⟨(some 140), (.mv (.t 139)), none⟩,
    ⟨(some 141), (.fieldAddr 1 (.t 6)), (some (140, false))⟩,
    ⟨(some 142), (.load 1 false (.t 141)), (some (140, false))⟩,
    ⟨(some 143), (.mv (.t 0)), (some (140, false))⟩,
    ⟨(some 144), (.idxStr (.t 143) (.c (.p (.s (.int .i64 1))))), (some (140, false))⟩,
    ⟨(some 145), (.bin .lss (.t 142) (.t 144)), (some (140, false))⟩,
    ⟨(some 146), (.pick (.t 140) (.c (.p (.s (.bool true)))) (.t 145)), none⟩,
    ⟨(some 147), (.mv (.t 146)), none⟩,
    ⟨(some 148), (.mv (.t 0)), (some (147, false))⟩,
    ⟨(some 149), (.idxStr (.t 148) (.c (.p (.s (.int .i64 2))))), (some (147, false))⟩,
    ⟨(some 150), (.bin .lss (.t 149) (.c (.p (.s (.int .u8 128))))), (some (147, false))⟩,
    ⟨(some 151), (.pick (.t 147) (.c (.p (.s (.bool true)))) (.t 150)), none⟩,
    ⟨(some 152), (.mv (.t 151)), none⟩,
    ⟨(some 153), (.mv (.t 0)), (some (152, false))⟩,
    ⟨(some 154), (.idxStr (.t 153) (.c (.p (.s (.int .i64 2))))), (some (152, false))⟩,
    ⟨(some 155), (.bin .lss (.c (.p (.s (.int .u8 191)))) (.t 154)), (some (152, false))⟩,
    ⟨(some 156), (.pick (.t 152) (.c (.p (.s (.bool true)))) (.t 155)), none⟩,
    ⟨(some 157), (.mv (.t 156)), none⟩,
    ⟨(some 158), (.mv (.t 0)), (some (157, false))⟩,
    ⟨(some 159), (.idxStr (.t 158) (.c (.p (.s (.int .i64 3))))), (some (157, false))⟩,
    ⟨(some 160), (.bin .lss (.t 159) (.c (.p (.s (.int .u8 128))))), (some (157, false))⟩,
    ⟨(some 161), (.pick (.t 157) (.c (.p (.s (.bool true)))) (.t 160)), none⟩,
    ⟨(some 162), (.mv (.t 161)), none⟩,
    ⟨(some 163), (.mv (.t 0)), (some (162, false))⟩,
    ⟨(some 164), (.idxStr (.t 163) (.c (.p (.s (.int .i64 3))))), (some (162, false))⟩,
    ⟨(some 165), (.bin .lss (.c (.p (.s (.int .u8 191)))) (.t 164)), (some (162, false))⟩,
    ⟨(some 166), (.pick (.t 162) (.c (.p (.s (.bool true)))) (.t 165)), none⟩] (some [0, 1, 3, 7, 15, 31, 15, 79, 255, 511, 1023, 2047, 4095, 2047, 10239, 32767, 65535, 131071, 262143, 524287, 1048575, 2097151, 4194303, 8388607, 16777215, 33554431, 67108863, 134217727, 268435455, 536870911, 1073741823, 2147483647, 4294967295, 8589934591, 17179869183, 34359738367, 68719476735]) [0, 166])
  (.cond (.t 166) (.seq (.region [⟨(some 2), (.mv (.c (.p (.s (.bool false))))), none⟩] none [2])
  .ret) .skip))
  (.region [⟨(some 167), (.mv (.t 0)), none⟩,
    ⟨(some 168), (.slStr (.t 167) (some (.c (.p (.s (.int .i64 4))))) none), none⟩,
    ⟨(some 0), (.mv (.t 168)), none⟩] none [0])) (.seq (.region [⟨(some 2), (.mv (.c (.p (.s (.bool false))))), none⟩] none [2])
  .ret)))))))))))))))))
def ir162 : IRF := ⟨[0], (.seq (.region [⟨(some 2), (.mv (.c (.p (.s (.bool false))))), none⟩] none [0])
  (.seq (.block 0 (.loop ir162_1))
  (.seq (.region [⟨(some 2), (.mv (.c (.p (.s (.bool true))))), none⟩] none [2])
  .ret))), [(2, none)], false⟩
/-- strings.ContainsFunc -/
def ir163 : IRF := ⟨[0, 1], (.seq (.region [⟨(some 4), (.mv (.c (.p (.s (.bool false))))), none⟩] none [0, 1])
  (.seq (.region [⟨(some 5), (.mv (.t 0)), none⟩,
    ⟨(some 6), (.mv (.t 1)), none⟩,
    ⟨(some 7), (.call 188 [(.t 5), (.t 6)]), none⟩,
    ⟨(some 8), (.bin .geq (.t 7) (.c (.p (.s (.int .i64 0))))), none⟩,
    ⟨(some 4), (.mv (.t 8)), none⟩] none [4])
  .ret)), [(4, none)], false⟩
/-- kinfolk/text.Check$1 -/
def ir164 : IRF := ⟨[0], (.seq (.region [⟨(some 2), (.mv (.c (.p (.s (.bool false))))), none⟩] none [0])
  (.seq (.region [⟨(some 3), (.mv (.t 0)), none⟩,
    ⟨(some 4), (.call 165 [(.t 3)]), none⟩,
    ⟨(some 5), (.un .not (.t 4)), none⟩,
    ⟨(some 2), (.mv (.t 5)), none⟩] none [2])
  .ret)), [(2, none)], false⟩
/-- kinfolk/text.plain -/
def ir165 : IRF := ⟨[0], (.seq (.region [⟨(some 2), (.mv (.c (.p (.s (.bool false))))), none⟩] none [0])
  (.seq (.region [⟨(some 3), (.mv (.t 0)), none⟩,
    ⟨(some 4), (.bin .geq (.t 3) (.c (.p (.s (.int .i32 32))))), none⟩,
    ⟨(some 5), (.mv (.t 4)), none⟩,
    ⟨(some 6), (.mv (.t 0)), (some (5, true))⟩,
    ⟨(some 7), (.bin .neq (.t 6) (.c (.p (.s (.int .i32 127))))), (some (5, true))⟩,
    ⟨(some 8), (.pick (.t 5) (.t 7) (.c (.p (.s (.bool false))))), none⟩,
    ⟨(some 2), (.mv (.t 8)), none⟩] none [2])
  .ret)), [(2, none)], false⟩
/-- strings.TrimSuffix -/
def ir166 : IRF := ⟨[0, 1], (.seq (.region [⟨(some 4), (.mv (.c (.p (.s (.string ⟨#[]⟩))))), none⟩] none [0, 1])
  (.seq (.region [⟨(some 5), (.mv (.t 0)), none⟩,
    ⟨(some 6), (.mv (.t 1)), none⟩,
    ⟨(some 7), (.call 189 [(.t 5), (.t 6)]), none⟩,
    ⟨(some 4), (.mv (.t 7)), none⟩] none [4])
  .ret)), [(4, none)], false⟩
/-- slices.pdqsortCmpFunc[kinfolk/card.Field] -/
def ir170_0 : IRC := (.seq (.tidy [0, 1, 2, 3, 4, 10, 11] [])
  (.block 1 (.seq (.region [⟨(some 21), (.mv (.t 2)), none⟩,
    ⟨(some 22), (.mv (.t 1)), none⟩,
    ⟨(some 23), (.bin .sub (.t 21) (.t 22)), none⟩,
    ⟨(some 12), (.mv (.t 23)), none⟩] none [0, 1, 2, 3, 4, 10, 11, 12])
  (.seq (.seq (.region [⟨(some 24), (.mv (.t 12)), none⟩,
    ⟨(some 25), (.bin .leq (.t 24) (.c (.p (.s (.int .i64 12))))), none⟩] none [0, 1, 2, 3, 4, 10, 11, 12, 25])
  (.cond (.t 25) (.seq (.region [⟨(some 26), (.mv (.t 0)), none⟩,
    ⟨(some 27), (.mv (.t 1)), none⟩,
    ⟨(some 28), (.mv (.t 2)), none⟩,
    ⟨(some 29), (.mv (.t 4)), none⟩,
    ⟨(some 30), (.call 199 [(.t 26), (.t 27), (.t 28), (.t 29)]), none⟩] none [])
  .ret) .skip))
  (.seq (.seq (.region [⟨(some 31), (.mv (.t 3)), none⟩,
    ⟨(some 32), (.bin .eql (.t 31) (.c (.p (.s (.int .i64 0))))), none⟩] none [0, 1, 2, 3, 4, 10, 11, 12, 32])
  (.cond (.t 32) (.seq (.region [⟨(some 33), (.mv (.t 0)), none⟩,
    ⟨(some 34), (.mv (.t 1)), none⟩,
    ⟨(some 35), (.mv (.t 2)), none⟩,
    ⟨(some 36), (.mv (.t 4)), none⟩,
    ⟨(some 37), (.call 200 [(.t 33), (.t 34), (.t 35), (.t 36)]), none⟩] none [])
  .ret) .skip))
  (.seq (.seq (.region [⟨(some 38), (.mv (.t 10)), none⟩,
    ⟨(some 39), (.un .not (.t 38)), none⟩] none [0, 1, 2, 3, 4, 10, 11, 12, 39])
  (.cond (.t 39) (.seq (.region [⟨(some 40), (.mv (.t 0)), none⟩,
    ⟨(some 41), (.mv (.t 1)), none⟩,
    ⟨(some 42), (.mv (.t 2)), none⟩,
    ⟨(some 43), (.mv (.t 4)), none⟩,
    ⟨(some 44), (.call 201 [(.t 40), (.t 41), (.t 42), (.t 43)]), none⟩] none [0, 1, 2, 3, 4, 10, 11, 12])
  (.region [⟨(some 45), (.mv (.t 3)), none⟩,
    ⟨(some 46), (.bin .sub (.t 45) (.c (.p (.s (.int .i64 1))))), none⟩,
    ⟨(some 3), (.mv (.t 46)), none⟩] none [0, 1, 2, 3, 4, 10, 11, 12])) .skip))
  (.seq (.region [⟨(some 48), (.mv (.t 0)), none⟩,
    ⟨(some 49), (.mv (.t 1)), none⟩,
    ⟨(some 50), (.mv (.t 2)), none⟩,
    ⟨(some 51), (.mv (.t 4)), none⟩,
    ⟨(some 52), (.call 202 [(.t 48), (.t 49), (.t 50), (.t 51)]), none⟩,
    ⟨(some 47), (.mv (.t 52)), none⟩,
    ⟨(some 53), (.ext (.t 47) 0), none⟩,
    ⟨(some 54), (.ext (.t 47) 1), none⟩,
    ⟨(some 13), (.mv (.t 53)), none⟩,
    ⟨(some 14), (.mv (.t 54)), none⟩] none [0, 1, 2, 3, 4, 10, 11, 12, 13, 14])
  (.seq (.seq (.region [⟨(some 55), (.mv (.t 14)), none⟩,
    ⟨(some 56), (.bin .eql (.t 55) (.c (.p (.s (.int .i64 2))))), none⟩] none [0, 1, 2, 3, 4, 10, 11, 12, 13, 14, 56])
  (.cond (.t 56) (.seq (.region [⟨(some 57), (.mv (.t 0)), none⟩,
    ⟨(some 58), (.mv (.t 1)), none⟩,
    ⟨(some 59), (.mv (.t 2)), none⟩,
    ⟨(some 60), (.mv (.t 4)), none⟩,
    ⟨(some 61), (.call 203 [(.t 57), (.t 58), (.t 59), (.t 60)]), none⟩] none [0, 1, 2, 3, 4, 10, 11, 12, 13])
  (.seq (.region [⟨(some 62), (.mv (.t 2)), none⟩,
    ⟨(some 63), (.bin .sub (.t 62) (.c (.p (.s (.int .i64 1))))), none⟩,
    ⟨(some 64), (.mv (.t 13)), none⟩,
    ⟨(some 65), (.mv (.t 1)), none⟩,
    ⟨(some 66), (.bin .sub (.t 64) (.t 65)), none⟩,
    ⟨(some 67), (.bin .sub (.t 63) (.t 66)), none⟩,
    ⟨(some 13), (.mv (.t 67)), none⟩] none [0, 1, 2, 3, 4, 10, 11, 12, 13])
  (.region [⟨(some 14), (.mv (.c (.p (.s (.int .i64 1))))), none⟩] none [0, 1, 2, 3, 4, 10, 11, 12, 13, 14]))) .skip))
  (.seq (.seq (.region [⟨(some 68), (.mv (.t 10)), none⟩,
    ⟨(some 69), (.mv (.t 68)), none⟩,
    ⟨(some 70), (.mv (.t 11)), (some (69, true))⟩,
    ⟨(some 71), (.pick (.t 69) (.t 70) (.c (.p (.s (.bool false))))), none⟩,
    ⟨(some 72), (.mv (.t 71)), none⟩,
    ⟨(some 73), (.mv (.t 14)), (some (72, true))⟩,
    ⟨(some 74), (.bin .eql (.t 73) (.c (.p (.s (.int .i64 1))))), (some (72, true))⟩,
    ⟨(some 75), (.pick (.t 72) (.t 74) (.c (.p (.s (.bool false))))), none⟩] none [0, 1, 2, 3, 4, 10, 11, 12, 13, 75])
  (.cond (.t 75) (.seq (.region [⟨(some 76), (.mv (.t 0)), none⟩,
    ⟨(some 77), (.mv (.t 1)), none⟩,
    ⟨(some 78), (.mv (.t 2)), none⟩,
    ⟨(some 79), (.mv (.t 4)), none⟩,
    ⟨(some 80), (.call 204 [(.t 76), (.t 77), (.t 78), (.t 79)]), none⟩] none [0, 1, 2, 3, 4, 10, 11, 12, 13, 80])
  (.cond (.t 80) .ret .skip)) .skip))
  (.seq (.seq (.region [⟨(some 81), (.mv (.t 1)), none⟩,
    ⟨(some 82), (.bin .gtr (.t 81) (.c (.p (.s (.int .i64 0))))), none⟩,
    ⟨(some 83), (.mv (.t 82)), none⟩,
    ⟨(some 84), (.mv (.t 4)), (some (83, true))⟩,
    ⟨(some 85), (.mv (.t 0)), (some (83, true))⟩,
    ⟨(some 86), (.mv (.t 1)), (some (83, true))⟩,
    ⟨(some 87), (.bin .sub (.t 86) (.c (.p (.s (.int .i64 1))))), (some (83, true))⟩,
    ⟨(some 88), (.idxASl 3 (.t 85) (.t 87)), (some (83, true))⟩,
    ⟨(some 89), (.load 3 true (.t 88)), (some (83, true))⟩,
    ⟨(some 90), (.mv (.t 0)), (some (83, true))⟩,
    ⟨(some 91), (.mv (.t 13)), (some (83, true))⟩,
    ⟨(some 92), (.idxASl 3 (.t 90) (.t 91)), (some (83, true))⟩,
    ⟨(some 93), (.load 3 true (.t 92)), (some (83, true))⟩,
    ⟨(some 94), (.callv (.t 84) [(.t 89), (.t 93)]), (some (83, true))⟩,
    ⟨(some 95), (.bin .lss (.t 94) (.c (.p (.s (.int .i64 0))))), (some (83, true))⟩,
    ⟨(some 96), (.un .not (.t 95)), (some (83, true))⟩,
    ⟨(some 97), (.pick (.t 83) (.t 96) (.c (.p (.s (.bool false))))), none⟩] (some [0, 1, 3, 7, 7, 7, 39, 119, 247, 7, 7, 1543, 3591, 8191, 16383, 32767, 65535]) [0, 1, 2, 3, 4, 10, 11, 12, 13, 97])
  (.cond (.t 97) (.seq (.region [⟨(some 98), (.mv (.t 0)), none⟩,
    ⟨(some 99), (.mv (.t 1)), none⟩,
    ⟨(some 100), (.mv (.t 2)), none⟩,
    ⟨(some 101), (.mv (.t 13)), none⟩,
    ⟨(some 102), (.mv (.t 4)), none⟩,
    ⟨(some 103), (.call 205 [(.t 98), (.t 99), (.t 100), (.t 101), (.t 102)]), none⟩,
    ⟨(some 15), (.mv (.t 103)), none⟩] none [0, 2, 3, 4, 10, 11, 15])
  (.seq (.region [⟨(some 104), (.mv (.t 15)), none⟩,
    ⟨(some 1), (.mv (.t 104)), none⟩] none [0, 1, 2, 3, 4, 10, 11])
  (.exit 1))) .skip))
  (.seq (.region [⟨(some 106), (.mv (.t 0)), none⟩,
    ⟨(some 107), (.mv (.t 1)), none⟩,
    ⟨(some 108), (.mv (.t 2)), none⟩,
    ⟨(some 109), (.mv (.t 13)), none⟩,
    ⟨(some 110), (.mv (.t 4)), none⟩,
    ⟨(some 111), (.call 206 [(.t 106), (.t 107), (.t 108), (.t 109), (.t 110)]), none⟩,
    ⟨(some 105), (.mv (.t 111)), none⟩,
    ⟨(some 112), (.ext (.t 105) 0), none⟩,
    ⟨(some 113), (.ext (.t 105) 1), none⟩,
    ⟨(some 16), (.mv (.t 112)), none⟩,
    ⟨(some 17), (.mv (.t 113)), none⟩] none [0, 1, 2, 3, 4, 12, 16, 17])
  (.seq (.region [⟨(some 114), (.mv (.t 17)), none⟩,
    ⟨(some 11), (.mv (.t 114)), none⟩] none [0, 1, 2, 3, 4, 11, 12, 16])
  (.seq (.region [⟨(some 115), (.mv (.t 16)), none⟩,
    ⟨(some 116), (.mv (.t 1)), none⟩,
    ⟨(some 117), (.bin .sub (.t 115) (.t 116)), none⟩,
    ⟨(some 118), (.mv (.t 2)), none⟩,
    ⟨(some 119), (.mv (.t 16)), none⟩,
    ⟨(some 120), (.bin .sub (.t 118) (.t 119)), none⟩,
    ⟨(some 18), (.mv (.t 117)), none⟩,
    ⟨(some 19), (.mv (.t 120)), none⟩] none [0, 1, 2, 3, 4, 11, 12, 16, 18, 19])
  (.seq (.region [⟨(some 121), (.mv (.t 12)), none⟩,
    ⟨(some 122), (.bin .quo (.t 121) (.c (.p (.s (.int .i64 8))))), none⟩,
    ⟨(some 20), (.mv (.t 122)), none⟩] none [0, 1, 2, 3, 4, 11, 16, 18, 19, 20])
  (.seq (.region [⟨(some 123), (.mv (.t 18)), none⟩,
    ⟨(some 124), (.mv (.t 19)), none⟩,
    ⟨(some 125), (.bin .lss (.t 123) (.t 124)), none⟩] none [0, 1, 2, 3, 4, 11, 16, 18, 19, 20, 125])
  (.cond (.t 125) (.seq (.region [⟨(some 126), (.mv (.t 18)), none⟩,
    ⟨(some 127), (.mv (.t 20)), none⟩,
    ⟨(some 128), (.bin .geq (.t 126) (.t 127)), none⟩,
    ⟨(some 10), (.mv (.t 128)), none⟩] none [0, 1, 2, 3, 4, 10, 11, 16])
  (.seq (.region [⟨(some 129), (.mv (.t 0)), none⟩,
    ⟨(some 130), (.mv (.t 1)), none⟩,
    ⟨(some 131), (.mv (.t 16)), none⟩,
    ⟨(some 132), (.mv (.t 3)), none⟩,
    ⟨(some 133), (.mv (.t 4)), none⟩,
    ⟨(some 134), (.call 170 [(.t 129), (.t 130), (.t 131), (.t 132), (.t 133)]), none⟩] none [0, 2, 3, 4, 10, 11, 16])
  (.region [⟨(some 135), (.mv (.t 16)), none⟩,
    ⟨(some 136), (.bin .add (.t 135) (.c (.p (.s (.int .i64 1))))), none⟩,
    ⟨(some 1), (.mv (.t 136)), none⟩] none [0, 1, 2, 3, 4, 10, 11]))) (.seq (.region [⟨(some 137), (.mv (.t 19)), none⟩,
    ⟨(some 138), (.mv (.t 20)), none⟩,
    ⟨(some 139), (.bin .geq (.t 137) (.t 138)), none⟩,
    ⟨(some 10), (.mv (.t 139)), none⟩] none [0, 1, 2, 3, 4, 10, 11, 16])
  (.seq (.region [⟨(some 140), (.mv (.t 0)), none⟩,
    ⟨(some 141), (.mv (.t 16)), none⟩,
    ⟨(some 142), (.bin .add (.t 141) (.c (.p (.s (.int .i64 1))))), none⟩,
    ⟨(some 143), (.mv (.t 2)), none⟩,
    ⟨(some 144), (.mv (.t 3)), none⟩,
    ⟨(some 145), (.mv (.t 4)), none⟩,
    ⟨(some 146), (.call 170 [(.t 140), (.t 142), (.t 143), (.t 144), (.t 145)]), none⟩] none [0, 1, 3, 4, 10, 11, 16])
  (.region [⟨(some 147), (.mv (.t 16)), none⟩,
    ⟨(some 2), (.mv (.t 147)), none⟩] none [0, 1, 2, 3, 4, 10, 11])))))))))))))))))))
def ir170 : IRF := ⟨[0, 1, 2, 3, 4], (.seq (.region [⟨(some 10), (.mv (.c (.p (.s (.bool true))))), none⟩] none [0, 1, 2, 3, 4, 10])
  (.seq (.region [⟨(some 11), (.mv (.c (.p (.s (.bool true))))), none⟩] none [0, 1, 2, 3, 4, 10, 11])
  (.block 0 (.loop ir170_0)))), [], false⟩
/-- math/bits.Len -/
def ir171 : IRF := ⟨[0], (.seq (.region [⟨(some 2), (.mv (.c (.p (.s (.int .i64 0))))), none⟩] none [0])
  (.seq (.cond (.c (.p (.s (.bool false)))) (.seq (.region [⟨(some 3), (.mv (.t 0)), none⟩,
    ⟨(some 4), (.cvt .u32 (.t 3)), none⟩,
    ⟨(some 5), (.call 207 [(.t 4)]), none⟩,
    ⟨(some 2), (.mv (.t 5)), none⟩] none [2])
  .ret) .skip)
  (.seq (.region [⟨(some 6), (.mv (.t 0)), none⟩,
    ⟨(some 7), (.call 208 [(.t 6)]), none⟩,
    ⟨(some 2), (.mv (.t 7)), none⟩] none [2])
  .ret))), [(2, none)], false⟩
/-- (kinfolk/id.ID).Left -/
def ir175 : IRF := ⟨[0], (.seq (.region [⟨(some 1), (.box false (.t 0)), none⟩,
    ⟨(some 2), (.alloc false [(.s (.bool false)), (.s (.pointer none))]), none⟩] none [1, 2])
  (.seq (.seq (.region [⟨(some 3), (.fieldAddr 1 (.t 1)), none⟩,
    ⟨(some 4), (.load 1 false (.t 3)), none⟩,
    ⟨(some 5), (.eq false .ptr (.t 4) (.c (.p (.s (.pointer none))))), none⟩] none [1, 2, 5])
  (.cond (.t 5) (.seq (.region [⟨(some 6), (.load 2 true (.t 1)), none⟩,
    ⟨none, (.store 2 (.t 2) (.t 6)), none⟩] none [2])
  .ret) .skip))
  (.seq (.region [⟨(some 7), (.fieldAddr 1 (.t 1)), none⟩,
    ⟨(some 8), (.load 1 false (.t 7)), none⟩,
    ⟨(some 9), (.nilCk (.t 8)), none⟩,
    ⟨(some 10), (.fieldAddr 0 (.t 9)), none⟩,
    ⟨(some 11), (.load 2 true (.t 10)), none⟩,
    ⟨none, (.store 2 (.t 2) (.t 11)), none⟩] none [2])
  .ret))), [(2, some (2, true))], false⟩
/-- (kinfolk/id.ID).Right -/
def ir176 : IRF := ⟨[0], (.seq (.region [⟨(some 1), (.box false (.t 0)), none⟩,
    ⟨(some 2), (.alloc false [(.s (.bool false)), (.s (.pointer none))]), none⟩] none [1, 2])
  (.seq (.seq (.region [⟨(some 3), (.fieldAddr 1 (.t 1)), none⟩,
    ⟨(some 4), (.load 1 false (.t 3)), none⟩,
    ⟨(some 5), (.eq false .ptr (.t 4) (.c (.p (.s (.pointer none))))), none⟩] none [1, 2, 5])
  (.cond (.t 5) (.seq (.region [⟨(some 6), (.load 2 true (.t 1)), none⟩,
    ⟨none, (.store 2 (.t 2) (.t 6)), none⟩] none [2])
  .ret) .skip))
  (.seq (.region [⟨(some 7), (.fieldAddr 1 (.t 1)), none⟩,
    ⟨(some 8), (.load 1 false (.t 7)), none⟩,
    ⟨(some 9), (.nilCk (.t 8)), none⟩,
    ⟨(some 10), (.fieldAddr 2 (.t 9)), none⟩,
    ⟨(some 11), (.load 2 true (.t 10)), none⟩,
    ⟨none, (.store 2 (.t 2) (.t 11)), none⟩] none [2])
  .ret))), [(2, some (2, true))], false⟩
/-- kinfolk/bits.within -/
def ir177 : IRF := ⟨[0], (.seq (.region [⟨(some 2), (.mv (.c (.p (.s (.int .i64 0))))), none⟩] none [0])
  (.seq (.region [⟨(some 3), (.mv (.t 0)), none⟩,
    ⟨(some 4), (.minmax true [(.t 3), (.c (.p (.s (.int .i64 0))))]), none⟩,
    ⟨(some 5), (.minmax false [(.t 4), (.c (.p (.s (.int .i64 64))))]), none⟩,
    ⟨(some 2), (.mv (.t 5)), none⟩] none [2])
  .ret)), [(2, none)], false⟩
/-- kinfolk/paper.fields -/
def ir178_0 : IRC := (.seq (.region [⟨(some 15), (.bin .lss (.t 14) (.t 13)), none⟩] none [0, 12, 13, 14, 15])
  (.seq (.cond (.t 15) .skip (.exit 0))
  (.seq (.block 1 (.seq (.region [⟨(some 16), (.idxASl 3 (.t 12) (.t 14)), none⟩,
    ⟨(some 17), (.load 3 true (.t 16)), none⟩,
    ⟨(some 6), (.alloc false [(.s (.int .i64 0)), (.s (.string ⟨#[]⟩)), (.s (.string ⟨#[]⟩))]), none⟩,
    ⟨none, (.store 3 (.t 6) (.t 17)), none⟩] none [0, 6, 12, 13, 14])
  (.region [⟨(some 18), (.mv (.t 0)), none⟩,
    ⟨(some 19), (.fieldAddr 0 (.t 6)), none⟩,
    ⟨(some 20), (.load 1 false (.t 19)), none⟩,
    ⟨(some 21), (.cvt .u8 (.t 20)), none⟩,
    ⟨(some 22), (.mkSl false 1 1 [(.s (.int .u8 0))] [(0, 1, (.t 21))]), none⟩,
    ⟨(some 23), (.app 1 1 (.t 18) (.t 22)), none⟩,
    ⟨(some 24), (.fieldAddr 1 (.t 6)), none⟩,
    ⟨(some 25), (.load 1 false (.t 24)), none⟩,
    ⟨(some 26), (.call 28 [(.t 23), (.t 25)]), none⟩,
    ⟨(some 27), (.fieldAddr 2 (.t 6)), none⟩,
    ⟨(some 28), (.load 1 false (.t 27)), none⟩,
    ⟨(some 29), (.call 28 [(.t 26), (.t 28)]), none⟩,
    ⟨(some 0), (.mv (.t 29)), none⟩] (some [0, 0, 2, 6, 14, 31, 0, 64, 255, 0, 512, 2047, 4095]) [0, 12, 13, 14])))
  (.region [⟨(some 30), (.bin .add (.t 14) (.c (.p (.s (.int .i64 1))))), none⟩,
    ⟨(some 14), (.mv (.t 30)), none⟩] none [0, 12, 13, 14]))))
def ir178 : IRF := ⟨[0, 1], (.seq (.region [⟨(some 4), (.mv (.c (.p (.s (.slice none 0 0))))), none⟩] none [0, 1])
  (.seq (.region [⟨(some 7), (.mv (.t 0)), none⟩,
    ⟨(some 8), (.mv (.t 1)), none⟩,
    ⟨(some 9), (.len false (.t 8)), none⟩,
    ⟨(some 10), (.cvt .u64 (.t 9)), none⟩,
    ⟨(some 11), (.call 26 [(.t 7), (.t 10)]), none⟩,
    ⟨(some 0), (.mv (.t 11)), none⟩] none [0, 1])
  (.seq (.seq (.region [⟨(some 12), (.mv (.t 1)), none⟩,
    ⟨(some 13), (.len false (.t 12)), none⟩,
    ⟨(some 14), (.mv (.c (.p (.s (.int .i64 0))))), none⟩] none [0, 12, 13, 14])
  (.block 0 (.loop ir178_0)))
  (.seq (.region [⟨(some 31), (.mv (.t 0)), none⟩,
    ⟨(some 4), (.mv (.t 31)), none⟩] none [4])
  .ret)))), [(4, none)], false⟩
/-- (kinfolk/card.Card).Fields -/
def ir179 : IRF := ⟨[0], (.seq (.region [⟨(some 1), (.box false (.t 0)), none⟩,
    ⟨(some 2), (.mv (.c (.p (.s (.slice none 0 0))))), none⟩] none [1])
  (.seq (.region [⟨(some 3), (.fieldAddr 0 (.t 1)), none⟩,
    ⟨(some 4), (.load 1 false (.t 3)), none⟩,
    ⟨(some 5), (.call 128 [(.t 4)]), none⟩,
    ⟨(some 2), (.mv (.t 5)), none⟩] none [2])
  .ret)), [(2, none)], false⟩
/-- strings.IndexFunc -/
def ir188 : IRF := ⟨[0, 1], (.seq (.region [⟨(some 4), (.mv (.c (.p (.s (.int .i64 0))))), none⟩] none [0, 1])
  (.seq (.region [⟨(some 5), (.mv (.t 0)), none⟩,
    ⟨(some 6), (.mv (.t 1)), none⟩,
    ⟨(some 7), (.call 224 [(.t 5), (.t 6), (.c (.p (.s (.bool true))))]), none⟩,
    ⟨(some 4), (.mv (.t 7)), none⟩] none [4])
  .ret)), [(4, none)], false⟩
/-- internal/stringslite.TrimSuffix -/
def ir189 : IRF := ⟨[0, 1], (.seq (.region [⟨(some 4), (.mv (.c (.p (.s (.string ⟨#[]⟩))))), none⟩] none [0, 1])
  (.seq (.seq (.region [⟨(some 5), (.mv (.t 0)), none⟩,
    ⟨(some 6), (.mv (.t 1)), none⟩,
    ⟨(some 7), (.call 225 [(.t 5), (.t 6)]), none⟩] none [0, 1, 7])
  (.cond (.t 7) (.seq (.region [⟨(some 8), (.mv (.t 0)), none⟩,
    ⟨(some 9), (.mv (.t 0)), none⟩,
    ⟨(some 10), (.len true (.t 9)), none⟩,
    ⟨(some 11), (.mv (.t 1)), none⟩,
    ⟨(some 12), (.len true (.t 11)), none⟩,
    ⟨(some 13), (.bin .sub (.t 10) (.t 12)), none⟩,
    ⟨(some 14), (.slStr (.t 8) none (some (.t 13))), none⟩,
    ⟨(some 4), (.mv (.t 14)), none⟩] none [4])
  .ret) .skip))
  (.seq (.region [⟨(some 15), (.mv (.t 0)), none⟩,
    ⟨(some 4), (.mv (.t 15)), none⟩] none [4])
  .ret))), [(4, none)], false⟩
/-- slices.insertionSortCmpFunc[kinfolk/card.Field] -/
def ir199_0 : IRC := (.seq (.tidy [0, 1, 2, 3, 8, 9] [])
  (.seq (.seq (.region [⟨(some 18), (.mv (.t 9)), none⟩,
    ⟨(some 19), (.mv (.t 1)), none⟩,
    ⟨(some 20), (.bin .gtr (.t 18) (.t 19)), none⟩,
    ⟨(some 21), (.mv (.t 20)), none⟩,
    ⟨(some 22), (.mv (.t 3)), (some (21, true))⟩,
    ⟨(some 23), (.mv (.t 0)), (some (21, true))⟩,
    ⟨(some 24), (.mv (.t 9)), (some (21, true))⟩,
    ⟨(some 25), (.idxASl 3 (.t 23) (.t 24)), (some (21, true))⟩,
    ⟨(some 26), (.load 3 true (.t 25)), (some (21, true))⟩,
    ⟨(some 27), (.mv (.t 0)), (some (21, true))⟩,
    ⟨(some 28), (.mv (.t 9)), (some (21, true))⟩,
    ⟨(some 29), (.bin .sub (.t 28) (.c (.p (.s (.int .i64 1))))), (some (21, true))⟩,
    ⟨(some 30), (.idxASl 3 (.t 27) (.t 29)), (some (21, true))⟩,
    ⟨(some 31), (.load 3 true (.t 30)), (some (21, true))⟩,
    ⟨(some 32), (.callv (.t 22) [(.t 26), (.t 31)]), (some (21, true))⟩,
    ⟨(some 33), (.bin .lss (.t 32) (.c (.p (.s (.int .i64 0))))), (some (21, true))⟩,
    ⟨(some 34), (.pick (.t 21) (.t 33) (.c (.p (.s (.bool false))))), none⟩] (some [0, 0, 3, 7, 15, 15, 15, 111, 239, 15, 15, 1039, 3599, 7695, 16383, 32767, 65535]) [0, 1, 2, 3, 8, 9, 34])
  (.cond (.t 34) .skip (.exit 2)))
  (.seq (.block 3 (.region [⟨(some 37), (.mv (.t 0)), none⟩,
    ⟨(some 38), (.mv (.t 9)), none⟩,
    ⟨(some 39), (.mv (.t 0)), none⟩,
    ⟨(some 40), (.mv (.t 9)), none⟩,
    ⟨(some 41), (.bin .sub (.t 40) (.c (.p (.s (.int .i64 1))))), none⟩,
    ⟨(some 42), (.mv (.t 0)), none⟩,
    ⟨(some 43), (.mv (.t 9)), none⟩,
    ⟨(some 44), (.bin .sub (.t 43) (.c (.p (.s (.int .i64 1))))), none⟩,
    ⟨(some 45), (.idxASl 3 (.t 42) (.t 44)), none⟩,
    ⟨(some 46), (.load 3 true (.t 45)), none⟩,
    ⟨(some 47), (.mv (.t 0)), none⟩,
    ⟨(some 48), (.mv (.t 9)), none⟩,
    ⟨(some 49), (.idxASl 3 (.t 47) (.t 48)), none⟩,
    ⟨(some 50), (.load 3 true (.t 49)), none⟩,
    ⟨(some 51), (.idxASl 3 (.t 37) (.t 38)), none⟩,
    ⟨none, (.store 3 (.t 51) (.t 46)), none⟩,
    ⟨(some 52), (.idxASl 3 (.t 39) (.t 41)), none⟩,
    ⟨none, (.store 3 (.t 52) (.t 50)), none⟩] (some [0, 0, 0, 0, 8, 0, 0, 64, 224, 480, 0, 0, 3072, 7168, 16355, 32739, 65535, 131071]) [0, 1, 2, 3, 8, 9]))
  (.region [⟨(some 35), (.mv (.t 9)), none⟩,
    ⟨(some 36), (.bin .sub (.t 35) (.c (.p (.s (.int .i64 1))))), none⟩,
    ⟨(some 9), (.mv (.t 36)), none⟩] none [0, 1, 2, 3, 8, 9]))))
def ir199_1 : IRC := (.seq (.tidy [0, 1, 2, 3, 8] [])
  (.seq (.seq (.region [⟨(some 12), (.mv (.t 8)), none⟩,
    ⟨(some 13), (.mv (.t 2)), none⟩,
    ⟨(some 14), (.bin .lss (.t 12) (.t 13)), none⟩] none [0, 1, 2, 3, 8, 14])
  (.cond (.t 14) .skip (.exit 0)))
  (.seq (.block 1 (.seq (.region [⟨(some 17), (.mv (.t 8)), none⟩,
    ⟨(some 9), (.mv (.t 17)), none⟩] none [0, 1, 2, 3, 8, 9])
  (.block 2 (.loop ir199_0))))
  (.region [⟨(some 15), (.mv (.t 8)), none⟩,
    ⟨(some 16), (.bin .add (.t 15) (.c (.p (.s (.int .i64 1))))), none⟩,
    ⟨(some 8), (.mv (.t 16)), none⟩] none [0, 1, 2, 3, 8]))))
def ir199 : IRF := ⟨[0, 1, 2, 3], (.seq (.region [⟨(some 10), (.mv (.t 1)), none⟩,
    ⟨(some 11), (.bin .add (.t 10) (.c (.p (.s (.int .i64 1))))), none⟩,
    ⟨(some 8), (.mv (.t 11)), none⟩] none [0, 1, 2, 3, 8])
  (.block 0 (.loop ir199_1))), [], false⟩
/-- math/bits.Len64 -/
def ir208 : IRF := ⟨[0], (.seq (.region [⟨(some 2), (.mv (.c (.p (.s (.int .i64 0))))), none⟩] none [0, 2])
  (.seq (.seq (.region [⟨(some 3), (.mv (.t 0)), none⟩,
    ⟨(some 4), (.bin .geq (.t 3) (.c (.p (.s (.int .u64 4294967296))))), none⟩] none [0, 2, 4])
  (.cond (.t 4) (.seq (.region [⟨(some 5), (.mv (.t 0)), none⟩,
    ⟨(some 6), (.bin .shr (.t 5) (.c (.p (.s (.int .u64 32))))), none⟩,
    ⟨(some 0), (.mv (.t 6)), none⟩] none [0])
  (.region [⟨(some 2), (.mv (.c (.p (.s (.int .i64 32))))), none⟩] none [0, 2])) .skip))
  (.seq (.seq (.region [⟨(some 7), (.mv (.t 0)), none⟩,
    ⟨(some 8), (.bin .geq (.t 7) (.c (.p (.s (.int .u64 65536))))), none⟩] none [0, 2, 8])
  (.cond (.t 8) (.seq (.region [⟨(some 9), (.mv (.t 0)), none⟩,
    ⟨(some 10), (.bin .shr (.t 9) (.c (.p (.s (.int .u64 16))))), none⟩,
    ⟨(some 0), (.mv (.t 10)), none⟩] none [0, 2])
  (.region [⟨(some 11), (.mv (.t 2)), none⟩,
    ⟨(some 12), (.bin .add (.t 11) (.c (.p (.s (.int .i64 16))))), none⟩,
    ⟨(some 2), (.mv (.t 12)), none⟩] none [0, 2])) .skip))
  (.seq (.seq (.region [⟨(some 13), (.mv (.t 0)), none⟩,
    ⟨(some 14), (.bin .geq (.t 13) (.c (.p (.s (.int .u64 256))))), none⟩] none [0, 2, 14])
  (.cond (.t 14) (.seq (.region [⟨(some 15), (.mv (.t 0)), none⟩,
    ⟨(some 16), (.bin .shr (.t 15) (.c (.p (.s (.int .u64 8))))), none⟩,
    ⟨(some 0), (.mv (.t 16)), none⟩] none [0, 2])
  (.region [⟨(some 17), (.mv (.t 2)), none⟩,
    ⟨(some 18), (.bin .add (.t 17) (.c (.p (.s (.int .i64 8))))), none⟩,
    ⟨(some 2), (.mv (.t 18)), none⟩] none [0, 2])) .skip))
  (.seq (.region [⟨(some 19), (.mv (.t 2)), none⟩,
    ⟨(some 20), (.mv (.t 0)), none⟩,
    ⟨(some 21), (.cvt .u8 (.t 20)), none⟩,
    ⟨(some 22), (.idxStr (.c (.p (.s (.string ⟨#[0, 1, 2, 2, 3, 3, 3, 3, 4, 4, 4, 4, 4, 4, 4, 4, 5, 5, 5, 5, 5, 5, 5, 5, 5, 5, 5, 5, 5, 5, 5, 5, 6, 6, 6, 6, 6, 6, 6, 6, 6, 6, 6, 6, 6, 6, 6, 6, 6, 6, 6, 6, 6, 6, 6, 6, 6, 6, 6, 6, 6, 6, 6, 6, 7, 7, 7, 7, 7, 7, 7, 7, 7, 7, 7, 7, 7, 7, 7, 7, 7, 7, 7, 7, 7, 7, 7, 7, 7, 7, 7, 7, 7, 7, 7, 7, 7, 7, 7, 7, 7, 7, 7, 7, 7, 7, 7, 7, 7, 7, 7, 7, 7, 7, 7, 7, 7, 7, 7, 7, 7, 7, 7, 7, 7, 7, 7, 7, 8, 8, 8, 8, 8, 8, 8, 8, 8, 8, 8, 8, 8, 8, 8, 8, 8, 8, 8, 8, 8, 8, 8, 8, 8, 8, 8, 8, 8, 8, 8, 8, 8, 8, 8, 8, 8, 8, 8, 8, 8, 8, 8, 8, 8, 8, 8, 8, 8, 8, 8, 8, 8, 8, 8, 8, 8, 8, 8, 8, 8, 8, 8, 8, 8, 8, 8, 8, 8, 8, 8, 8, 8, 8, 8, 8, 8, 8, 8, 8, 8, 8, 8, 8, 8, 8, 8, 8, 8, 8, 8, 8, 8, 8, 8, 8, 8, 8, 8, 8, 8, 8, 8, 8, 8, 8, 8, 8, 8, 8, 8, 8, 8, 8, 8, 8, 8, 8, 8, 8, 8, 8, 8, 8, 8, 8, 8, 8]⟩)))) (.t 21)), none⟩,
    ⟨(some 23), (.cvt .i64 (.t 22)), none⟩,
    ⟨(some 24), (.bin .add (.t 19) (.t 23)), none⟩,
    ⟨(some 2), (.mv (.t 24)), none⟩] none [2])
  .ret))))), [(2, none)], false⟩
/-- strings.indexFunc -/
def ir224_0 : IRC := (.seq (.tidy [1, 2, 10] [])
  (.seq (.region [⟨(some 11), (.nxt (.t 10)), none⟩,
    ⟨(some 12), (.ext (.t 11) 0), none⟩] none [1, 2, 10, 11, 12])
  (.seq (.cond (.t 12) .skip (.exit 0))
  (.block 1 (.seq (.region [⟨(some 13), (.ext (.t 11) 1), none⟩,
    ⟨(some 14), (.ext (.t 11) 2), none⟩,
    ⟨(some 7), (.mv (.t 13)), none⟩,
    ⟨(some 8), (.mv (.t 14)), none⟩] none [1, 2, 7, 8, 10])
  (.seq (.region [⟨(some 15), (.mv (.t 1)), none⟩,
    ⟨(some 16), (.mv (.t 8)), none⟩,
    ⟨(some 17), (.callv (.t 15) [(.t 16)]), none⟩,
    ⟨(some 18), (.mv (.t 2)), none⟩,
    ⟨(some 19), (.eq false .bool (.t 17) (.t 18)), none⟩] none [1, 2, 7, 10, 19])
  (.cond (.t 19) (.seq (.region [⟨(some 20), (.mv (.t 7)), none⟩,
    ⟨(some 6), (.mv (.t 20)), none⟩] none [6])
  .ret) .skip)))))))
def ir224 : IRF := ⟨[0, 1, 2], (.seq (.region [⟨(some 6), (.mv (.c (.p (.s (.int .i64 0))))), none⟩] none [0, 1, 2])
  (.seq (.seq (.region [⟨(some 9), (.mv (.t 0)), none⟩,
    ⟨(some 10), (.rng (.t 9)), none⟩] none [1, 2, 10])
  (.block 0 (.loop ir224_0)))
  (.seq (.region [⟨(some 6), (.mv (.c (.p (.s (.int .i64 (-1)))))), none⟩] none [6])
  .ret))), [(6, none)], false⟩
/-- internal/stringslite.HasSuffix -/
def ir225 : IRF := ⟨[0, 1], (.seq (.region [⟨(some 4), (.mv (.c (.p (.s (.bool false))))), none⟩] none [0, 1])
  (.seq (.region [⟨(some 5), (.mv (.t 0)), none⟩,
    ⟨(some 6), (.len true (.t 5)), none⟩,
    ⟨(some 7), (.mv (.t 1)), none⟩,
    ⟨(some 8), (.len true (.t 7)), none⟩,
    ⟨(some 9), (.bin .geq (.t 6) (.t 8)), none⟩,
    ⟨(some 10), (.mv (.t 9)), none⟩,
    ⟨(some 11), (.mv (.t 0)), (some (10, true))⟩,
    ⟨(some 12), (.mv (.t 0)), (some (10, true))⟩,
    ⟨(some 13), (.len true (.t 12)), (some (10, true))⟩,
    ⟨(some 14), (.mv (.t 1)), (some (10, true))⟩,
    ⟨(some 15), (.len true (.t 14)), (some (10, true))⟩,
    ⟨(some 16), (.bin .sub (.t 13) (.t 15)), (some (10, true))⟩,
    ⟨(some 17), (.slStr (.t 11) (some (.t 16)) none), (some (10, true))⟩,
    ⟨(some 18), (.mv (.t 1)), (some (10, true))⟩,
    ⟨(some 19), (.bin .eql (.t 17) (.t 18)), (some (10, true))⟩,
    ⟨(some 20), (.pick (.t 10) (.t 19) (.c (.p (.s (.bool false))))), none⟩,
    ⟨(some 4), (.mv (.t 20)), none⟩] none [4])
  .ret)), [(4, none)], false⟩
end Go.Proofs.YtppeggedcaabkaaGreatDoor
end

section
namespace Go.Proofs.YtppeggedcaabkaaGreatDoor
open Go Go.Sx
def imT (t : TypeId) : Bool := [108, 111, 210, 226].contains t
def anL : List (Nat × Bool × List Nat × Bool × List (Nat × List Nat) × List (Nat × List Nat)) := [(3, false, [3], false, [], [(5, [7, 8]), (6, [9, 10])]), (7, false, [12], false, [], []), (8, false, [188, 209, 221], true, [], [(25, [10]), (29, [12])]), (9, false, [1, 37, 46], false, [], []), (10, false, [1, 20, 50, 64], false, [], [(4, [5]), (5, [6])]), (12, false, [1], false, [], []), (13, false, [1], true, [], [(16, [6])]), (23, false, [34], false, [], [(5, [10])]), (24, false, [], true, [], [(3, [5]), (8, [7])]), (26, true, [], false, [], []), (28, true, [], false, [], []), (31, true, [], false, [], []), (32, true, [], false, [], []), (33, true, [], false, [], []), (40, false, [1], false, [], [(1, [3])]), (46, true, [], false, [], []), (68, false, [1], false, [], []), (69, false, [1], false, [], []), (73, true, [], false, [], []), (77, true, [], false, [], []), (95, true, [], false, [], []), (119, false, [], true, [], []), (120, false, [], true, [], []), (123, false, [], false, [], [(1, [3])]), (125, false, [8, 22], true, [(0, [23, 3, 20])], []), (131, false, [], true, [], []), (136, true, [], false, [], []), (137, true, [], false, [], []), (161, false, [], true, [], []), (162, false, [], true, [], [(13, [6])]), (170, false, [], true, [], []), (199, false, [], true, [], []), (224, false, [], true, [], [])]
def an (f : FuncId) : An := match anL.lookup f with
  | some (o, i, l, b, r) => ⟨o, imT, i, l, b, r⟩
  | none => ⟨false, imT, [], false, [], []⟩
def irs0_ : List (FuncId × IRF) := [(3, ir3), (7, ir7), (8, ir8), (9, ir9), (10, ir10), (11, ir11), (12, ir12), (13, ir13), (17, ir17), (18, ir18), (19, ir19), (20, ir20), (21, ir21), (22, ir22), (23, ir23), (24, ir24), (25, ir25), (26, ir26), (27, ir27), (28, ir28), (29, ir29), (30, ir30), (31, ir31), (32, ir32), (33, ir33), (34, ir34), (35, ir35), (36, ir36), (37, ir37), (38, ir38), (39, ir39), (40, ir40), (41, ir41), (42, ir42), (43, ir43), (44, ir44), (45, ir45), (46, ir46), (48, ir48), (49, ir49)]
theorem irs0_ok : ∀ p ∈ irs0_, ∃ fn, Tryz.prog.funcs[p.1]? = some fn ∧ cF Tryz.prog (an p.1) fn = some p.2 ∧ fn.name ≠ "runtime.NumGoroutine" := by
  unfold irs0_
  simp only [List.forall_mem_cons]
  refine ⟨⟨Tryz.f3, Tryz.func3, by kernel_rfl, by decide⟩, ⟨Tryz.f7, Tryz.func7, by kernel_rfl, by decide⟩, ⟨Tryz.f8, Tryz.func8, by kernel_rfl, by decide⟩, ⟨Tryz.f9, Tryz.func9, by kernel_rfl, by decide⟩, ⟨Tryz.f10, Tryz.func10, by kernel_rfl, by decide⟩, ⟨Tryz.f11, Tryz.func11, by kernel_rfl, by decide⟩, ⟨Tryz.f12, Tryz.func12, by kernel_rfl, by decide⟩, ⟨Tryz.f13, Tryz.func13, by kernel_rfl, by decide⟩, ⟨Tryz.f17, Tryz.func17, by kernel_rfl, by decide⟩, ⟨Tryz.f18, Tryz.func18, by kernel_rfl, by decide⟩, ⟨Tryz.f19, Tryz.func19, by kernel_rfl, by decide⟩, ⟨Tryz.f20, Tryz.func20, by kernel_rfl, by decide⟩, ⟨Tryz.f21, Tryz.func21, by kernel_rfl, by decide⟩, ⟨Tryz.f22, Tryz.func22, by kernel_rfl, by decide⟩, ⟨Tryz.f23, Tryz.func23, by kernel_rfl, by decide⟩, ⟨Tryz.f24, Tryz.func24, by kernel_rfl, by decide⟩, ⟨Tryz.f25, Tryz.func25, by kernel_rfl, by decide⟩, ⟨Tryz.f26, Tryz.func26, by kernel_rfl, by decide⟩, ⟨Tryz.f27, Tryz.func27, by kernel_rfl, by decide⟩, ⟨Tryz.f28, Tryz.func28, by kernel_rfl, by decide⟩, ⟨Tryz.f29, Tryz.func29, by kernel_rfl, by decide⟩, ⟨Tryz.f30, Tryz.func30, by kernel_rfl, by decide⟩, ⟨Tryz.f31, Tryz.func31, by kernel_rfl, by decide⟩, ⟨Tryz.f32, Tryz.func32, by kernel_rfl, by decide⟩, ⟨Tryz.f33, Tryz.func33, by kernel_rfl, by decide⟩, ⟨Tryz.f34, Tryz.func34, by kernel_rfl, by decide⟩, ⟨Tryz.f35, Tryz.func35, by kernel_rfl, by decide⟩, ⟨Tryz.f36, Tryz.func36, by kernel_rfl, by decide⟩, ⟨Tryz.f37, Tryz.func37, by kernel_rfl, by decide⟩, ⟨Tryz.f38, Tryz.func38, by kernel_rfl, by decide⟩, ⟨Tryz.f39, Tryz.func39, by kernel_rfl, by decide⟩, ⟨Tryz.f40, Tryz.func40, by kernel_rfl, by decide⟩, ⟨Tryz.f41, Tryz.func41, by kernel_rfl, by decide⟩, ⟨Tryz.f42, Tryz.func42, by kernel_rfl, by decide⟩, ⟨Tryz.f43, Tryz.func43, by kernel_rfl, by decide⟩, ⟨Tryz.f44, Tryz.func44, by kernel_rfl, by decide⟩, ⟨Tryz.f45, Tryz.func45, by kernel_rfl, by decide⟩, ⟨Tryz.f46, Tryz.func46, by kernel_rfl, by decide⟩, ⟨Tryz.f48, Tryz.func48, by kernel_rfl, by decide⟩, ⟨Tryz.f49, Tryz.func49, by kernel_rfl, by decide⟩, fun _ h => by cases h⟩
def irs1_ : List (FuncId × IRF) := [(57, ir57), (58, ir58), (59, ir59), (60, ir60), (61, ir61), (62, ir62), (63, ir63), (64, ir64), (65, ir65), (66, ir66), (67, ir67), (68, ir68), (69, ir69), (70, ir70), (71, ir71), (72, ir72), (73, ir73), (74, ir74), (75, ir75), (76, ir76), (77, ir77), (78, ir78), (79, ir79), (80, ir80), (81, ir81), (82, ir82), (83, ir83), (84, ir84), (85, ir85), (86, ir86), (87, ir87), (88, ir88), (89, ir89), (90, ir90), (91, ir91), (92, ir92), (93, ir93), (94, ir94), (95, ir95), (96, ir96)]
theorem irs1_ok : ∀ p ∈ irs1_, ∃ fn, Tryz.prog.funcs[p.1]? = some fn ∧ cF Tryz.prog (an p.1) fn = some p.2 ∧ fn.name ≠ "runtime.NumGoroutine" := by
  unfold irs1_
  simp only [List.forall_mem_cons]
  refine ⟨⟨Tryz.f57, Tryz.func57, by kernel_rfl, by decide⟩, ⟨Tryz.f58, Tryz.func58, by kernel_rfl, by decide⟩, ⟨Tryz.f59, Tryz.func59, by kernel_rfl, by decide⟩, ⟨Tryz.f60, Tryz.func60, by kernel_rfl, by decide⟩, ⟨Tryz.f61, Tryz.func61, by kernel_rfl, by decide⟩, ⟨Tryz.f62, Tryz.func62, by kernel_rfl, by decide⟩, ⟨Tryz.f63, Tryz.func63, by kernel_rfl, by decide⟩, ⟨Tryz.f64, Tryz.func64, by kernel_rfl, by decide⟩, ⟨Tryz.f65, Tryz.func65, by kernel_rfl, by decide⟩, ⟨Tryz.f66, Tryz.func66, by kernel_rfl, by decide⟩, ⟨Tryz.f67, Tryz.func67, by kernel_rfl, by decide⟩, ⟨Tryz.f68, Tryz.func68, by kernel_rfl, by decide⟩, ⟨Tryz.f69, Tryz.func69, by kernel_rfl, by decide⟩, ⟨Tryz.f70, Tryz.func70, by kernel_rfl, by decide⟩, ⟨Tryz.f71, Tryz.func71, by kernel_rfl, by decide⟩, ⟨Tryz.f72, Tryz.func72, by kernel_rfl, by decide⟩, ⟨Tryz.f73, Tryz.func73, by kernel_rfl, by decide⟩, ⟨Tryz.f74, Tryz.func74, by kernel_rfl, by decide⟩, ⟨Tryz.f75, Tryz.func75, by kernel_rfl, by decide⟩, ⟨Tryz.f76, Tryz.func76, by kernel_rfl, by decide⟩, ⟨Tryz.f77, Tryz.func77, by kernel_rfl, by decide⟩, ⟨Tryz.f78, Tryz.func78, by kernel_rfl, by decide⟩, ⟨Tryz.f79, Tryz.func79, by kernel_rfl, by decide⟩, ⟨Tryz.f80, Tryz.func80, by kernel_rfl, by decide⟩, ⟨Tryz.f81, Tryz.func81, by kernel_rfl, by decide⟩, ⟨Tryz.f82, Tryz.func82, by kernel_rfl, by decide⟩, ⟨Tryz.f83, Tryz.func83, by kernel_rfl, by decide⟩, ⟨Tryz.f84, Tryz.func84, by kernel_rfl, by decide⟩, ⟨Tryz.f85, Tryz.func85, by kernel_rfl, by decide⟩, ⟨Tryz.f86, Tryz.func86, by kernel_rfl, by decide⟩, ⟨Tryz.f87, Tryz.func87, by kernel_rfl, by decide⟩, ⟨Tryz.f88, Tryz.func88, by kernel_rfl, by decide⟩, ⟨Tryz.f89, Tryz.func89, by kernel_rfl, by decide⟩, ⟨Tryz.f90, Tryz.func90, by kernel_rfl, by decide⟩, ⟨Tryz.f91, Tryz.func91, by kernel_rfl, by decide⟩, ⟨Tryz.f92, Tryz.func92, by kernel_rfl, by decide⟩, ⟨Tryz.f93, Tryz.func93, by kernel_rfl, by decide⟩, ⟨Tryz.f94, Tryz.func94, by kernel_rfl, by decide⟩, ⟨Tryz.f95, Tryz.func95, by kernel_rfl, by decide⟩, ⟨Tryz.f96, Tryz.func96, by kernel_rfl, by decide⟩, fun _ h => by cases h⟩
def irs2_ : List (FuncId × IRF) := [(97, ir97), (98, ir98), (103, ir103), (104, ir104), (105, ir105), (114, ir114), (115, ir115), (116, ir116), (117, ir117), (118, ir118), (119, ir119), (120, ir120), (123, ir123), (124, ir124), (125, ir125), (128, ir128), (129, ir129), (131, ir131), (132, ir132), (133, ir133), (134, ir134), (135, ir135), (136, ir136), (137, ir137), (138, ir138), (139, ir139), (140, ir140), (141, ir141), (142, ir142), (143, ir143), (144, ir144), (145, ir145), (146, ir146), (158, ir158), (159, ir159), (160, ir160), (161, ir161), (162, ir162), (163, ir163), (164, ir164)]
theorem irs2_ok : ∀ p ∈ irs2_, ∃ fn, Tryz.prog.funcs[p.1]? = some fn ∧ cF Tryz.prog (an p.1) fn = some p.2 ∧ fn.name ≠ "runtime.NumGoroutine" := by
  unfold irs2_
  simp only [List.forall_mem_cons]
  refine ⟨⟨Tryz.f97, Tryz.func97, by kernel_rfl, by decide⟩, ⟨Tryz.f98, Tryz.func98, by kernel_rfl, by decide⟩, ⟨Tryz.f103, Tryz.func103, by kernel_rfl, by decide⟩, ⟨Tryz.f104, Tryz.func104, by kernel_rfl, by decide⟩, ⟨Tryz.f105, Tryz.func105, by kernel_rfl, by decide⟩, ⟨Tryz.f114, Tryz.func114, by kernel_rfl, by decide⟩, ⟨Tryz.f115, Tryz.func115, by kernel_rfl, by decide⟩, ⟨Tryz.f116, Tryz.func116, by kernel_rfl, by decide⟩, ⟨Tryz.f117, Tryz.func117, by kernel_rfl, by decide⟩, ⟨Tryz.f118, Tryz.func118, by kernel_rfl, by decide⟩, ⟨Tryz.f119, Tryz.func119, by kernel_rfl, by decide⟩, ⟨Tryz.f120, Tryz.func120, by kernel_rfl, by decide⟩, ⟨Tryz.f123, Tryz.func123, by kernel_rfl, by decide⟩, ⟨Tryz.f124, Tryz.func124, by kernel_rfl, by decide⟩, ⟨Tryz.f125, Tryz.func125, by kernel_rfl, by decide⟩, ⟨Tryz.f128, Tryz.func128, by kernel_rfl, by decide⟩, ⟨Tryz.f129, Tryz.func129, by kernel_rfl, by decide⟩, ⟨Tryz.f131, Tryz.func131, by kernel_rfl, by decide⟩, ⟨Tryz.f132, Tryz.func132, by kernel_rfl, by decide⟩, ⟨Tryz.f133, Tryz.func133, by kernel_rfl, by decide⟩, ⟨Tryz.f134, Tryz.func134, by kernel_rfl, by decide⟩, ⟨Tryz.f135, Tryz.func135, by kernel_rfl, by decide⟩, ⟨Tryz.f136, Tryz.func136, by kernel_rfl, by decide⟩, ⟨Tryz.f137, Tryz.func137, by kernel_rfl, by decide⟩, ⟨Tryz.f138, Tryz.func138, by kernel_rfl, by decide⟩, ⟨Tryz.f139, Tryz.func139, by kernel_rfl, by decide⟩, ⟨Tryz.f140, Tryz.func140, by kernel_rfl, by decide⟩, ⟨Tryz.f141, Tryz.func141, by kernel_rfl, by decide⟩, ⟨Tryz.f142, Tryz.func142, by kernel_rfl, by decide⟩, ⟨Tryz.f143, Tryz.func143, by kernel_rfl, by decide⟩, ⟨Tryz.f144, Tryz.func144, by kernel_rfl, by decide⟩, ⟨Tryz.f145, Tryz.func145, by kernel_rfl, by decide⟩, ⟨Tryz.f146, Tryz.func146, by kernel_rfl, by decide⟩, ⟨Tryz.f158, Tryz.func158, by kernel_rfl, by decide⟩, ⟨Tryz.f159, Tryz.func159, by kernel_rfl, by decide⟩, ⟨Tryz.f160, Tryz.func160, by kernel_rfl, by decide⟩, ⟨Tryz.f161, Tryz.func161, by kernel_rfl, by decide⟩, ⟨Tryz.f162, Tryz.func162, by kernel_rfl, by decide⟩, ⟨Tryz.f163, Tryz.func163, by kernel_rfl, by decide⟩, ⟨Tryz.f164, Tryz.func164, by kernel_rfl, by decide⟩, fun _ h => by cases h⟩
def irs3_ : List (FuncId × IRF) := [(165, ir165), (166, ir166), (170, ir170), (171, ir171), (175, ir175), (176, ir176), (177, ir177), (178, ir178), (179, ir179), (188, ir188), (189, ir189), (199, ir199), (208, ir208), (224, ir224), (225, ir225)]
theorem irs3_ok : ∀ p ∈ irs3_, ∃ fn, Tryz.prog.funcs[p.1]? = some fn ∧ cF Tryz.prog (an p.1) fn = some p.2 ∧ fn.name ≠ "runtime.NumGoroutine" := by
  unfold irs3_
  simp only [List.forall_mem_cons]
  refine ⟨⟨Tryz.f165, Tryz.func165, by kernel_rfl, by decide⟩, ⟨Tryz.f166, Tryz.func166, by kernel_rfl, by decide⟩, ⟨Tryz.f170, Tryz.func170, by kernel_rfl, by decide⟩, ⟨Tryz.f171, Tryz.func171, by kernel_rfl, by decide⟩, ⟨Tryz.f175, Tryz.func175, by kernel_rfl, by decide⟩, ⟨Tryz.f176, Tryz.func176, by kernel_rfl, by decide⟩, ⟨Tryz.f177, Tryz.func177, by kernel_rfl, by decide⟩, ⟨Tryz.f178, Tryz.func178, by kernel_rfl, by decide⟩, ⟨Tryz.f179, Tryz.func179, by kernel_rfl, by decide⟩, ⟨Tryz.f188, Tryz.func188, by kernel_rfl, by decide⟩, ⟨Tryz.f189, Tryz.func189, by kernel_rfl, by decide⟩, ⟨Tryz.f199, Tryz.func199, by kernel_rfl, by decide⟩, ⟨Tryz.f208, Tryz.func208, by kernel_rfl, by decide⟩, ⟨Tryz.f224, Tryz.func224, by kernel_rfl, by decide⟩, ⟨Tryz.f225, Tryz.func225, by kernel_rfl, by decide⟩, fun _ h => by cases h⟩
def irs : List (FuncId × IRF) := irs0_ ++ irs1_ ++ irs2_ ++ irs3_
theorem irs_ok : ∀ p ∈ irs, ∃ fn, Tryz.prog.funcs[p.1]? = some fn ∧ cF Tryz.prog (an p.1) fn = some p.2 ∧ fn.name ≠ "runtime.NumGoroutine" := by
  intro p hp
  simp only [irs, List.mem_append] at hp
  rcases hp with (((h0 | h1) | h2) | h3)
  · exact irs0_ok p h0
  · exact irs1_ok p h1
  · exact irs2_ok p h2
  · exact irs3_ok p h3
end Go.Proofs.YtppeggedcaabkaaGreatDoor
end

section
namespace Go.Proofs.YtppeggedcaabkaaGreatDoor
open Go Go.Sx
set_option linter.unusedSimpArgs false
set_option linter.unusedVariables false

theorem wrap_i64 (x : Int) (h1 : -(2 ^ 63) ≤ x) (h2 : x < 2 ^ 63) : IntKind.i64.wrap x = x := by
  simp only [IntKind.wrap, IntKind.signed, IntKind.bits]
  simp
  omega

theorem ltF (n k : Nat) : (n + k < n) ↔ False := ⟨fun h => absurd h (Nat.not_lt.2 (Nat.le_add_right n k)), False.elim⟩

theorem binI_add (k : IntKind) (x y : Int) : binI .add k x y = some (.int k (k.wrap (x + y))) := rfl
theorem binI_sub (k : IntKind) (x y : Int) : binI .sub k x y = some (.int k (k.wrap (x - y))) := rfl
theorem binI_mul (k : IntKind) (x y : Int) : binI .mul k x y = some (.int k (k.wrap (x * y))) := rfl
theorem binI_eql (k : IntKind) (x y : Int) : binI .eql k x y = some (.bool (x == y)) := rfl
theorem binI_neq (k : IntKind) (x y : Int) : binI .neq k x y = some (.bool (x != y)) := rfl
theorem binI_lss (k : IntKind) (x y : Int) : binI .lss k x y = some (.bool (!leI y x)) := rfl
theorem binI_leq (k : IntKind) (x y : Int) : binI .leq k x y = some (.bool (leI x y)) := rfl
theorem binI_gtr (k : IntKind) (x y : Int) : binI .gtr k x y = some (.bool (!leI x y)) := rfl
theorem binI_geq (k : IntKind) (x y : Int) : binI .geq k x y = some (.bool (leI y x)) := rfl

theorem unL_not (b : Bool) : unL .not (.p (.s (.bool b))) = some (.bool (!b)) := rfl
theorem unL_neg (k : IntKind) (n : Int) : unL .neg (.p (.s (.int k n))) = some (.int k (k.wrap (0 - n))) := rfl

/-- The machine's steps, all together. -/
theorem ssB : ((((((((type_of% @Go.Sx.runF_S) ∧ ((type_of% @runCS_skip) ∧ (type_of% @runCS_reg))) ∧ ((type_of% @runCS_draw) ∧ ((type_of% @runCS_seq) ∧ (type_of% @runCS_cond)))) ∧ (((type_of% @runCS_block) ∧ ((type_of% @runCS_loop) ∧ (type_of% @runCS_exit))) ∧ ((type_of% @runCS_label) ∧ ((type_of% @runCS_goto) ∧ (type_of% @runCS_scope))))) ∧ ((((type_of% @runCS_tidy) ∧ ((type_of% @Go.Sx.tidyR.eq_1) ∧ (type_of% @runCS_ret))) ∧ ((type_of% @runOpsS_nil) ∧ ((type_of% @runOpsS_cons) ∧ (type_of% @runOpsTS_nil)))) ∧ (((type_of% @runOpsTS_cons) ∧ ((type_of% @Go.Sx.wants.eq_1) ∧ (type_of% @Go.Sx.wants.eq_2))) ∧ (((type_of% @Go.Sx.evOp.eq_def) ∧ (type_of% @Go.Sx.opd.eq_1)) ∧ ((type_of% @Go.Sx.opd.eq_2) ∧ (type_of% @Go.Sx.opd.eq_3)))))) ∧ (((((type_of% @Go.Sx.get.eq_1) ∧ ((type_of% @Go.Sx.get.eq_2) ∧ (type_of% @Go.Sx.putD.eq_1))) ∧ ((type_of% @Go.Sx.putD.eq_2) ∧ ((type_of% @Go.Sx.keep.eq_1) ∧ (type_of% @Go.Sx.binL.eq_1)))) ∧ (((type_of% @Go.Sx.binL.eq_2) ∧ ((type_of% @Go.Sx.binL.eq_3) ∧ (type_of% @Go.Sx.isSh.eq_1))) ∧ ((type_of% @Go.Sx.isSh.eq_2) ∧ ((type_of% @Go.Sx.isSh.eq_3) ∧ (type_of% @binI_add))))) ∧ ((((type_of% @binI_sub) ∧ ((type_of% @binI_mul) ∧ (type_of% @binI_eql))) ∧ ((type_of% @binI_neq) ∧ ((type_of% @binI_lss) ∧ (type_of% @binI_leq)))) ∧ (((type_of% @binI_gtr) ∧ ((type_of% @binI_geq) ∧ (type_of% @Go.Sx.eqL.eq_1))) ∧ (((type_of% @Go.Sx.eqL.eq_2) ∧ (type_of% @Go.Sx.eqL.eq_3)) ∧ ((type_of% @Go.Sx.eqL.eq_4) ∧ (type_of% @Go.Sx.eqL.eq_5))))))) ∧ ((((((type_of% @Go.Sx.eqL.eq_6) ∧ ((type_of% @Go.Sx.eqL.eq_7) ∧ (type_of% @Go.Sx.eqL.eq_8))) ∧ ((type_of% @Go.Sx.eqL.eq_9) ∧ ((type_of% @Go.Sx.eqL.eq_10) ∧ (type_of% @Go.Sx.eqL.eq_11)))) ∧ (((type_of% @Go.Sx.eqL.eq_12) ∧ ((type_of% @Go.Sx.eqL.eq_13) ∧ (type_of% @Go.Sx.eqL.eq_14))) ∧ ((type_of% @Go.Sx.eqL.eq_15) ∧ ((type_of% @unL_not) ∧ (type_of% @unL_neg))))) ∧ ((((type_of% @Go.Sx.resVs.eq_1) ∧ ((type_of% @Go.Sx.resVs.eq_2) ∧ (type_of% @Go.Sx.resV.eq_1))) ∧ ((type_of% @Go.Sx.resV.eq_2) ∧ ((type_of% @Go.Sx.oneL.eq_1) ∧ (type_of% @Go.Sx.oneL.eq_2)))) ∧ (((type_of% @Go.Sx.frz.eq_1) ∧ ((type_of% @Go.Sx.frz.eq_2) ∧ (type_of% @Go.Sx.frz.go.eq_1))) ∧ (((type_of% @Go.Sx.frz.go.eq_2) ∧ (type_of% @Go.Sx.frzL.eq_1)) ∧ ((type_of% @Go.Sx.frzL.eq_2) ∧ (type_of% @Go.Sx.frzL.eq_3)))))) ∧ (((((type_of% @Go.Sx.frzL.eq_4) ∧ ((type_of% @Go.Sx.frzL.eq_5) ∧ (type_of% @Go.Sx.frzL.eq_6))) ∧ ((type_of% @Go.Sx.frzL.go.eq_1) ∧ ((type_of% @Go.Sx.frzL.go.eq_2) ∧ (type_of% @Go.Sx.ids.eq_1)))) ∧ (((type_of% @Go.Sx.ids.eq_2) ∧ ((type_of% @Go.Sx.ids.eq_3) ∧ (type_of% @Go.Sx.ids.eq_4))) ∧ (((type_of% @Go.Sx.ids.eq_5) ∧ (type_of% @Go.Sx.ids.eq_6)) ∧ ((type_of% @Go.Sx.ids.idsL.eq_1) ∧ (type_of% @Go.Sx.ids.idsL.eq_2))))) ∧ ((((type_of% @Go.Sx.updIds.eq_1) ∧ ((type_of% @Go.Sx.updIds.eq_2) ∧ (type_of% @Go.Sx.updIds.eq_3))) ∧ ((type_of% @Go.Sx.reach.eq_1) ∧ ((type_of% @Go.Sx.reach.eq_2) ∧ (type_of% @Go.Sx.reach.eq_3)))) ∧ (((type_of% @Go.Sx.ren.eq_1) ∧ ((type_of% @Go.Sx.ren.eq_2) ∧ (type_of% @Go.Sx.ren.eq_3))) ∧ (((type_of% @Go.Sx.ren.eq_4) ∧ (type_of% @Go.Sx.ren.eq_5)) ∧ ((type_of% @Go.Sx.ren.eq_6) ∧ (type_of% @Go.Sx.ren.eq_7)))))))) ∧ (((((((type_of% @Go.Sx.ren.go.eq_1) ∧ ((type_of% @Go.Sx.ren.go.eq_2) ∧ (type_of% @Go.Sx.renU.eq_1))) ∧ ((type_of% @Go.Sx.renU.eq_2) ∧ ((type_of% @Go.Sx.renN.eq_1) ∧ (type_of% @Go.Sx.renN.eq_2)))) ∧ (((type_of% @Go.Sx.renO.eq_1) ∧ ((type_of% @Go.Sx.renO.eq_2) ∧ (type_of% @Go.Sx.renO.eq_3))) ∧ ((type_of% @Go.Sx.renId.eq_1) ∧ ((type_of% @Go.Sx.fillP.eq_1) ∧ (type_of% @Go.Sx.fillP.eq_2))))) ∧ ((((type_of% @Go.Sx.mkAgg.eq_1) ∧ ((type_of% @Go.Sx.allP.eq_1) ∧ (type_of% @Go.Sx.allP.eq_2))) ∧ ((type_of% @Go.Sx.allP.eq_3) ∧ ((type_of% @Go.Sx.LV.cells.eq_1) ∧ (type_of% @Go.Sx.LV.cells.eq_2)))) ∧ (((type_of% @Go.Sx.LV.cells.eq_3) ∧ ((type_of% @Go.Sx.LV.cells.eq_4) ∧ (type_of% @Go.Sx.LV.cells.eq_5))) ∧ (((type_of% @Go.Sx.LV.cells.eq_6) ∧ (type_of% @Go.Sx.rd.eq_1)) ∧ ((type_of% @Go.Sx.findU.eq_1) ∧ (type_of% @Go.Sx.findU.eq_2)))))) ∧ (((((type_of% @Go.Sx.slCells.eq_1) ∧ ((type_of% @Go.Sx.slCells.eq_2) ∧ (type_of% @Go.Sx.slCells.eq_3))) ∧ ((type_of% @Go.Sx.slCells.eq_4) ∧ ((type_of% @Go.Sx.slCells.eq_5) ∧ (type_of% @Go.Sx.sliceO.eq_1)))) ∧ (((type_of% @Go.Sx.sliceO.eq_2) ∧ ((type_of% @Go.Sx.sliceO.eq_3) ∧ (type_of% @Go.Sx.sliceO.eq_4))) ∧ ((type_of% @Go.Value.oneCell'.eq_1) ∧ ((type_of% @Go.Value.oneCell'.eq_2) ∧ (type_of% @Go.Value.oneCell'.eq_3))))) ∧ ((((type_of% @Go.Sx.mmL.eq_1) ∧ ((type_of% @Go.Sx.mmL.eq_2) ∧ (type_of% @Go.Sx.mm2.eq_1))) ∧ ((type_of% @Go.Sx.mm2.eq_2) ∧ ((type_of% @Go.Sx.gslot.eq_1) ∧ (type_of% @Go.Sx.gslot.eq_2)))) ∧ (((type_of% @Go.Sx.IROp.slots.eq_1) ∧ ((type_of% @Go.Sx.IROp.slots.eq_2) ∧ (type_of% @Go.Sx.IROp.slots.eq_3))) ∧ (((type_of% @Go.Sx.IROp.slots.eq_4) ∧ (type_of% @Go.Sx.IROp.slots.eq_5)) ∧ ((type_of% @Go.Sx.IROp.slots.eq_6) ∧ (type_of% @Go.Sx.IROp.slots.eq_7))))))) ∧ ((((((type_of% @Go.Sx.IROp.slots.eq_8) ∧ ((type_of% @Go.Sx.IROp.slots.eq_9) ∧ (type_of% @Go.Sx.IROp.slots.eq_10))) ∧ ((type_of% @Go.Sx.IROp.slots.eq_11) ∧ ((type_of% @Go.Sx.IROp.slots.eq_12) ∧ (type_of% @Go.Sx.IROp.slots.eq_13)))) ∧ (((type_of% @Go.Sx.IROp.slots.eq_14) ∧ ((type_of% @Go.Sx.IROp.slots.eq_15) ∧ (type_of% @Go.Sx.IROp.slots.eq_16))) ∧ ((type_of% @Go.Sx.IROp.slots.eq_17) ∧ ((type_of% @Go.Sx.IROp.slots.eq_18) ∧ (type_of% @Go.Sx.IROp.slots.eq_19))))) ∧ ((((type_of% @Go.Sx.IROp.slots.eq_20) ∧ ((type_of% @Go.Sx.IROp.slots.eq_21) ∧ (type_of% @Go.Sx.IROp.slots.eq_22))) ∧ ((type_of% @Go.Sx.IROp.slots.eq_23) ∧ ((type_of% @Go.Sx.IROp.slots.eq_24) ∧ (type_of% @Go.Sx.IROp.slots.eq_25)))) ∧ (((type_of% @Go.Sx.IROp.slots.eq_26) ∧ ((type_of% @Go.Sx.IROp.slots.eq_27) ∧ (type_of% @Go.Sx.IROp.slots.eq_28))) ∧ (((type_of% @Go.Sx.IROp.slots.eq_29) ∧ (type_of% @Go.Sx.IROp.slots.eq_30)) ∧ ((type_of% @Go.Sx.IROp.slots.eq_31) ∧ (type_of% @Go.Sx.IROp.slots.eq_32)))))) ∧ (((((type_of% @Go.Sx.IROp.slots.eq_33) ∧ ((type_of% @Go.Sx.IROp.slots.eq_34) ∧ (type_of% @Go.Sx.IROp.slots.eq_35))) ∧ ((type_of% @Go.Sx.IROp.slots.eq_36) ∧ ((type_of% @Go.Sx.IROp.slots.eq_37) ∧ (type_of% @Go.Sx.IROp.slots.eq_38)))) ∧ (((type_of% @Go.Sx.Opd.slots.eq_1) ∧ ((type_of% @Go.Sx.Opd.slots.eq_2) ∧ (type_of% @Go.Sx.indepD.eq_1))) ∧ (((type_of% @Go.Sx.quickD.eq_1) ∧ (type_of% @Go.Sx.quickD.eq_2)) ∧ ((type_of% @Go.Sx.indepR.eq_1) ∧ (type_of% @Go.Sx.indepR.eq_2))))) ∧ ((((type_of% @Go.Sx.indepR.eq_3) ∧ ((type_of% @Go.Sx.pairsD.eq_1) ∧ (type_of% @Go.Sx.pairsD.eq_2))) ∧ ((type_of% @Go.Sx.apartD.eq_1) ∧ ((type_of% @Nat.testBit.eq_1) ∧ (type_of% @Go.Sx.Obj.ids.eq_1)))) ∧ (((type_of% @Go.Sx.Obj.ids.eq_2) ∧ ((type_of% @Go.Sx.natL.eq_1) ∧ (type_of% @Go.Sx.natL.eq_2))) ∧ (((type_of% @Go.Sx.optMap.eq_1) ∧ (type_of% @Go.Sx.optMap.eq_2)) ∧ ((type_of% @Go.undef.eq_1) ∧ (type_of% @ltF))))))))) :=
  ⟨⟨⟨⟨⟨⟨⟨@Go.Sx.runF_S, ⟨@runCS_skip, @runCS_reg⟩⟩, ⟨@runCS_draw, ⟨@runCS_seq, @runCS_cond⟩⟩⟩, ⟨⟨@runCS_block, ⟨@runCS_loop, @runCS_exit⟩⟩, ⟨@runCS_label, ⟨@runCS_goto, @runCS_scope⟩⟩⟩⟩, ⟨⟨⟨@runCS_tidy, ⟨@Go.Sx.tidyR.eq_1, @runCS_ret⟩⟩, ⟨@runOpsS_nil, ⟨@runOpsS_cons, @runOpsTS_nil⟩⟩⟩, ⟨⟨@runOpsTS_cons, ⟨@Go.Sx.wants.eq_1, @Go.Sx.wants.eq_2⟩⟩, ⟨⟨@Go.Sx.evOp.eq_def, @Go.Sx.opd.eq_1⟩, ⟨@Go.Sx.opd.eq_2, @Go.Sx.opd.eq_3⟩⟩⟩⟩⟩, ⟨⟨⟨⟨@Go.Sx.get.eq_1, ⟨@Go.Sx.get.eq_2, @Go.Sx.putD.eq_1⟩⟩, ⟨@Go.Sx.putD.eq_2, ⟨@Go.Sx.keep.eq_1, @Go.Sx.binL.eq_1⟩⟩⟩, ⟨⟨@Go.Sx.binL.eq_2, ⟨@Go.Sx.binL.eq_3, @Go.Sx.isSh.eq_1⟩⟩, ⟨@Go.Sx.isSh.eq_2, ⟨@Go.Sx.isSh.eq_3, @binI_add⟩⟩⟩⟩, ⟨⟨⟨@binI_sub, ⟨@binI_mul, @binI_eql⟩⟩, ⟨@binI_neq, ⟨@binI_lss, @binI_leq⟩⟩⟩, ⟨⟨@binI_gtr, ⟨@binI_geq, @Go.Sx.eqL.eq_1⟩⟩, ⟨⟨@Go.Sx.eqL.eq_2, @Go.Sx.eqL.eq_3⟩, ⟨@Go.Sx.eqL.eq_4, @Go.Sx.eqL.eq_5⟩⟩⟩⟩⟩⟩, ⟨⟨⟨⟨⟨@Go.Sx.eqL.eq_6, ⟨@Go.Sx.eqL.eq_7, @Go.Sx.eqL.eq_8⟩⟩, ⟨@Go.Sx.eqL.eq_9, ⟨@Go.Sx.eqL.eq_10, @Go.Sx.eqL.eq_11⟩⟩⟩, ⟨⟨@Go.Sx.eqL.eq_12, ⟨@Go.Sx.eqL.eq_13, @Go.Sx.eqL.eq_14⟩⟩, ⟨@Go.Sx.eqL.eq_15, ⟨@unL_not, @unL_neg⟩⟩⟩⟩, ⟨⟨⟨@Go.Sx.resVs.eq_1, ⟨@Go.Sx.resVs.eq_2, @Go.Sx.resV.eq_1⟩⟩, ⟨@Go.Sx.resV.eq_2, ⟨@Go.Sx.oneL.eq_1, @Go.Sx.oneL.eq_2⟩⟩⟩, ⟨⟨@Go.Sx.frz.eq_1, ⟨@Go.Sx.frz.eq_2, @Go.Sx.frz.go.eq_1⟩⟩, ⟨⟨@Go.Sx.frz.go.eq_2, @Go.Sx.frzL.eq_1⟩, ⟨@Go.Sx.frzL.eq_2, @Go.Sx.frzL.eq_3⟩⟩⟩⟩⟩, ⟨⟨⟨⟨@Go.Sx.frzL.eq_4, ⟨@Go.Sx.frzL.eq_5, @Go.Sx.frzL.eq_6⟩⟩, ⟨@Go.Sx.frzL.go.eq_1, ⟨@Go.Sx.frzL.go.eq_2, @Go.Sx.ids.eq_1⟩⟩⟩, ⟨⟨@Go.Sx.ids.eq_2, ⟨@Go.Sx.ids.eq_3, @Go.Sx.ids.eq_4⟩⟩, ⟨⟨@Go.Sx.ids.eq_5, @Go.Sx.ids.eq_6⟩, ⟨@Go.Sx.ids.idsL.eq_1, @Go.Sx.ids.idsL.eq_2⟩⟩⟩⟩, ⟨⟨⟨@Go.Sx.updIds.eq_1, ⟨@Go.Sx.updIds.eq_2, @Go.Sx.updIds.eq_3⟩⟩, ⟨@Go.Sx.reach.eq_1, ⟨@Go.Sx.reach.eq_2, @Go.Sx.reach.eq_3⟩⟩⟩, ⟨⟨@Go.Sx.ren.eq_1, ⟨@Go.Sx.ren.eq_2, @Go.Sx.ren.eq_3⟩⟩, ⟨⟨@Go.Sx.ren.eq_4, @Go.Sx.ren.eq_5⟩, ⟨@Go.Sx.ren.eq_6, @Go.Sx.ren.eq_7⟩⟩⟩⟩⟩⟩⟩, ⟨⟨⟨⟨⟨⟨@Go.Sx.ren.go.eq_1, ⟨@Go.Sx.ren.go.eq_2, @Go.Sx.renU.eq_1⟩⟩, ⟨@Go.Sx.renU.eq_2, ⟨@Go.Sx.renN.eq_1, @Go.Sx.renN.eq_2⟩⟩⟩, ⟨⟨@Go.Sx.renO.eq_1, ⟨@Go.Sx.renO.eq_2, @Go.Sx.renO.eq_3⟩⟩, ⟨@Go.Sx.renId.eq_1, ⟨@Go.Sx.fillP.eq_1, @Go.Sx.fillP.eq_2⟩⟩⟩⟩, ⟨⟨⟨@Go.Sx.mkAgg.eq_1, ⟨@Go.Sx.allP.eq_1, @Go.Sx.allP.eq_2⟩⟩, ⟨@Go.Sx.allP.eq_3, ⟨@Go.Sx.LV.cells.eq_1, @Go.Sx.LV.cells.eq_2⟩⟩⟩, ⟨⟨@Go.Sx.LV.cells.eq_3, ⟨@Go.Sx.LV.cells.eq_4, @Go.Sx.LV.cells.eq_5⟩⟩, ⟨⟨@Go.Sx.LV.cells.eq_6, @Go.Sx.rd.eq_1⟩, ⟨@Go.Sx.findU.eq_1, @Go.Sx.findU.eq_2⟩⟩⟩⟩⟩, ⟨⟨⟨⟨@Go.Sx.slCells.eq_1, ⟨@Go.Sx.slCells.eq_2, @Go.Sx.slCells.eq_3⟩⟩, ⟨@Go.Sx.slCells.eq_4, ⟨@Go.Sx.slCells.eq_5, @Go.Sx.sliceO.eq_1⟩⟩⟩, ⟨⟨@Go.Sx.sliceO.eq_2, ⟨@Go.Sx.sliceO.eq_3, @Go.Sx.sliceO.eq_4⟩⟩, ⟨@Go.Value.oneCell'.eq_1, ⟨@Go.Value.oneCell'.eq_2, @Go.Value.oneCell'.eq_3⟩⟩⟩⟩, ⟨⟨⟨@Go.Sx.mmL.eq_1, ⟨@Go.Sx.mmL.eq_2, @Go.Sx.mm2.eq_1⟩⟩, ⟨@Go.Sx.mm2.eq_2, ⟨@Go.Sx.gslot.eq_1, @Go.Sx.gslot.eq_2⟩⟩⟩, ⟨⟨@Go.Sx.IROp.slots.eq_1, ⟨@Go.Sx.IROp.slots.eq_2, @Go.Sx.IROp.slots.eq_3⟩⟩, ⟨⟨@Go.Sx.IROp.slots.eq_4, @Go.Sx.IROp.slots.eq_5⟩, ⟨@Go.Sx.IROp.slots.eq_6, @Go.Sx.IROp.slots.eq_7⟩⟩⟩⟩⟩⟩, ⟨⟨⟨⟨⟨@Go.Sx.IROp.slots.eq_8, ⟨@Go.Sx.IROp.slots.eq_9, @Go.Sx.IROp.slots.eq_10⟩⟩, ⟨@Go.Sx.IROp.slots.eq_11, ⟨@Go.Sx.IROp.slots.eq_12, @Go.Sx.IROp.slots.eq_13⟩⟩⟩, ⟨⟨@Go.Sx.IROp.slots.eq_14, ⟨@Go.Sx.IROp.slots.eq_15, @Go.Sx.IROp.slots.eq_16⟩⟩, ⟨@Go.Sx.IROp.slots.eq_17, ⟨@Go.Sx.IROp.slots.eq_18, @Go.Sx.IROp.slots.eq_19⟩⟩⟩⟩, ⟨⟨⟨@Go.Sx.IROp.slots.eq_20, ⟨@Go.Sx.IROp.slots.eq_21, @Go.Sx.IROp.slots.eq_22⟩⟩, ⟨@Go.Sx.IROp.slots.eq_23, ⟨@Go.Sx.IROp.slots.eq_24, @Go.Sx.IROp.slots.eq_25⟩⟩⟩, ⟨⟨@Go.Sx.IROp.slots.eq_26, ⟨@Go.Sx.IROp.slots.eq_27, @Go.Sx.IROp.slots.eq_28⟩⟩, ⟨⟨@Go.Sx.IROp.slots.eq_29, @Go.Sx.IROp.slots.eq_30⟩, ⟨@Go.Sx.IROp.slots.eq_31, @Go.Sx.IROp.slots.eq_32⟩⟩⟩⟩⟩, ⟨⟨⟨⟨@Go.Sx.IROp.slots.eq_33, ⟨@Go.Sx.IROp.slots.eq_34, @Go.Sx.IROp.slots.eq_35⟩⟩, ⟨@Go.Sx.IROp.slots.eq_36, ⟨@Go.Sx.IROp.slots.eq_37, @Go.Sx.IROp.slots.eq_38⟩⟩⟩, ⟨⟨@Go.Sx.Opd.slots.eq_1, ⟨@Go.Sx.Opd.slots.eq_2, @Go.Sx.indepD.eq_1⟩⟩, ⟨⟨@Go.Sx.quickD.eq_1, @Go.Sx.quickD.eq_2⟩, ⟨@Go.Sx.indepR.eq_1, @Go.Sx.indepR.eq_2⟩⟩⟩⟩, ⟨⟨⟨@Go.Sx.indepR.eq_3, ⟨@Go.Sx.pairsD.eq_1, @Go.Sx.pairsD.eq_2⟩⟩, ⟨@Go.Sx.apartD.eq_1, ⟨@Nat.testBit.eq_1, @Go.Sx.Obj.ids.eq_1⟩⟩⟩, ⟨⟨@Go.Sx.Obj.ids.eq_2, ⟨@Go.Sx.natL.eq_1, @Go.Sx.natL.eq_2⟩⟩, ⟨⟨@Go.Sx.optMap.eq_1, @Go.Sx.optMap.eq_2⟩, ⟨@Go.undef.eq_1, @ltF⟩⟩⟩⟩⟩⟩⟩⟩

noncomputable abbrev Ω : Oracle := om (findF irs) noG noX

end Go.Proofs.YtppeggedcaabkaaGreatDoor
end

section
namespace Go.Proofs.YtppeggedcaabkaaGreatDoor
open Go Go.Sx
set_option linter.unusedSimpArgs false
set_option linter.unusedVariables false

inductive Id where
  | zero | one
  | node (l r : Id)
  deriving DecidableEq

def Id.all : Id → Bool
  | .one => true
  | _ => false
def Id.ptr : Id → PV
  | .node l r => .imm [.s (.bool l.all), l.ptr, .s (.bool r.all), r.ptr] 0
  | _ => .s (.pointer none)
theorem Id.ptr_z : Id.zero.ptr = .s (.pointer none) := rfl
theorem Id.ptr_o : Id.one.ptr = .s (.pointer none) := rfl
theorem Id.ptr_n (l r : Id) : (Id.node l r).ptr = .imm [.s (.bool l.all), l.ptr, .s (.bool r.all), r.ptr] 0 := rfl
theorem Id.all_z : Id.zero.all = false := rfl
theorem Id.all_o : Id.one.all = true := rfl
theorem Id.all_n (l r : Id) : (Id.node l r).all = false := rfl
abbrev Id.pv (i : Id) : PV := .agg [.s (.bool i.all), i.ptr]
def Id.left : Id → Id
  | .node l _ => l
  | i => i
def Id.right : Id → Id
  | .node _ r => r
  | i => i
theorem Id.left_z : Id.zero.left = .zero := rfl
theorem Id.left_o : Id.one.left = .one := rfl
theorem Id.left_n (l r : Id) : (Id.node l r).left = l := rfl
theorem Id.right_z : Id.zero.right = .zero := rfl
theorem Id.right_o : Id.one.right = .one := rfl
theorem Id.right_n (l r : Id) : (Id.node l r).right = r := rfl
def Id.depth : Id → Nat
  | .node l r => 1 + max l.depth r.depth
  | _ => 0
def Id.pair (l r : Id) : Id := if l = .zero ∧ r = .zero then .zero else if l = .one ∧ r = .one then .one else .node l r

theorem idIsZero_ (i : Id) (H : Heap) (nx : Nat) : Ω 86 [.p i.pv] H nx = some (.bool (i = .zero), [], []) := by
  refine om_run (ir := ir86) (by kernel_rfl) 0 ?_
  cases i <;> simp [ir86, Id.all_z, Id.all_o, Id.all_n, Id.ptr_z, Id.ptr_o, Id.ptr_n, ssB, List.idxOf?_cons, Go.Sx.LV.undef, Go.undef, Go.Sx.callO, Go.Sx.splice, Go.Sx.finish, Go.Sx.look, Go.Sx.push, Go.Sx.setObj, Go.Sx.setU, Go.Sx.setAll, Go.Sx.appO, Go.Sx.leI_eq, ltF]

theorem idIsOne_ (i : Id) (H : Heap) (nx : Nat) : Ω 160 [.p i.pv] H nx = some (.bool (i = .one), [], []) := by
  refine om_run (ir := ir160) (by kernel_rfl) 0 ?_
  cases i <;> simp [ir160, Id.all_z, Id.all_o, Id.all_n, Id.ptr_z, Id.ptr_o, Id.ptr_n, ssB, List.idxOf?_cons, Go.Sx.LV.undef, Go.undef, Go.Sx.callO, Go.Sx.splice, Go.Sx.finish, Go.Sx.look, Go.Sx.push, Go.Sx.setObj, Go.Sx.setU, Go.Sx.setAll, Go.Sx.appO, Go.Sx.leI_eq, ltF]

theorem isZero_f (H : Heap) (nx : Nat) : Ω 86 [.p (.agg [.s (.bool false), .s (.pointer none)])] H nx = some (.bool true, [], []) := idIsZero_ .zero H nx
theorem isZero_t (H : Heap) (nx : Nat) : Ω 86 [.p (.agg [.s (.bool true), .s (.pointer none)])] H nx = some (.bool false, [], []) := idIsZero_ .one H nx
theorem isZero_n (l r : Id) (H : Heap) (nx : Nat) : Ω 86 [.p (.agg [.s (.bool false), .imm [.s (.bool l.all), l.ptr, .s (.bool r.all), r.ptr] 0])] H nx = some (.bool false, [], []) := idIsZero_ (.node l r) H nx
theorem isOne_f (H : Heap) (nx : Nat) : Ω 160 [.p (.agg [.s (.bool false), .s (.pointer none)])] H nx = some (.bool false, [], []) := idIsOne_ .zero H nx
theorem isOne_t (H : Heap) (nx : Nat) : Ω 160 [.p (.agg [.s (.bool true), .s (.pointer none)])] H nx = some (.bool true, [], []) := idIsOne_ .one H nx
theorem isOne_n (l r : Id) (H : Heap) (nx : Nat) : Ω 160 [.p (.agg [.s (.bool false), .imm [.s (.bool l.all), l.ptr, .s (.bool r.all), r.ptr] 0])] H nx = some (.bool false, [], []) := idIsOne_ (.node l r) H nx

theorem idZero_ (H : Heap) (nx : Nat) : Ω 65 [] H nx = some (.p Id.zero.pv, [], []) := by
  refine om_run (ir := ir65) (by kernel_rfl) 0 ?_
  simp [ir65, Id.all_z, Id.all_o, Id.all_n, Id.ptr_z, Id.ptr_o, Id.ptr_n, ssB, List.idxOf?_cons, Go.Sx.LV.undef, Go.undef, Go.Sx.callO, Go.Sx.splice, Go.Sx.finish, Go.Sx.look, Go.Sx.push, Go.Sx.setObj, Go.Sx.setU, Go.Sx.setAll, Go.Sx.appO, Go.Sx.leI_eq, ltF]

theorem idOne_ (H : Heap) (nx : Nat) : Ω 66 [] H nx = some (.p Id.one.pv, [], []) := by
  refine om_run (ir := ir66) (by kernel_rfl) 0 ?_
  simp [ir66, Id.all_z, Id.all_o, Id.all_n, Id.ptr_z, Id.ptr_o, Id.ptr_n, ssB, List.idxOf?_cons, Go.Sx.LV.undef, Go.undef, Go.Sx.callO, Go.Sx.splice, Go.Sx.finish, Go.Sx.look, Go.Sx.push, Go.Sx.setObj, Go.Sx.setU, Go.Sx.setAll, Go.Sx.appO, Go.Sx.leI_eq, ltF]

theorem idLeft_ (i : Id) (H : Heap) (nx : Nat) : Ω 175 [.p i.pv] H nx = some (.p i.left.pv, [], []) := by
  refine om_run (ir := ir175) (by kernel_rfl) 0 ?_
  cases i <;> simp [ir175, Id.all_z, Id.all_o, Id.all_n, Id.ptr_z, Id.ptr_o, Id.ptr_n, Id.left_z, Id.left_o, Id.left_n, ssB, List.idxOf?_cons, Go.Sx.LV.undef, Go.undef, Go.Sx.callO, Go.Sx.splice, Go.Sx.finish, Go.Sx.look, Go.Sx.push, Go.Sx.setObj, Go.Sx.setU, Go.Sx.setAll, Go.Sx.appO, Go.Sx.leI_eq, ltF]

theorem idRight_ (i : Id) (H : Heap) (nx : Nat) : Ω 176 [.p i.pv] H nx = some (.p i.right.pv, [], []) := by
  refine om_run (ir := ir176) (by kernel_rfl) 0 ?_
  cases i <;> simp [ir176, Id.all_z, Id.all_o, Id.all_n, Id.ptr_z, Id.ptr_o, Id.ptr_n, Id.right_z, Id.right_o, Id.right_n, ssB, List.idxOf?_cons, Go.Sx.LV.undef, Go.undef, Go.Sx.callO, Go.Sx.splice, Go.Sx.finish, Go.Sx.look, Go.Sx.push, Go.Sx.setObj, Go.Sx.setU, Go.Sx.setAll, Go.Sx.appO, Go.Sx.leI_eq, ltF]

theorem pair_ (l r : Id) (H : Heap) (nx : Nat) : Ω 117 [.p l.pv, .p r.pv] H nx = some (.p (Id.pair l r).pv, [], []) := by
  refine om_run (ir := ir117) (by kernel_rfl) 0 ?_
  unfold Id.pair
  cases l <;> cases r
  all_goals simp [ir117, Id.all_z, Id.all_o, Id.all_n, Id.ptr_z, Id.ptr_o, Id.ptr_n, isZero_f, isZero_t, isZero_n, isOne_f, isOne_t, isOne_n, idZero_, idOne_, ssB, List.idxOf?_cons, Go.Sx.LV.undef, Go.undef, Go.Sx.callO, Go.Sx.splice, Go.Sx.finish, Go.Sx.look, Go.Sx.push, Go.Sx.setObj, Go.Sx.setU, Go.Sx.setAll, Go.Sx.appO, Go.Sx.leI_eq, ltF]

theorem depth_ (i : Id) : i.depth < 2 ^ 62 → ∀ (H : Heap) (nx : Nat), Ω 118 [.p i.pv] H nx = some (.int .i64 i.depth, [], []) := by
  induction i with
  | node l r ihl ihr =>
    intro hd H nx
    simp only [Id.depth] at hd
    have hl := ihl (by omega)
    have hr := ihr (by omega)
    refine om_run (ir := ir118) (by kernel_rfl) 0 ?_
    simp [ir118, Id.all_z, Id.all_o, Id.all_n, Id.ptr_z, Id.ptr_o, Id.ptr_n, hl, hr, Id.depth, ssB, List.idxOf?_cons, Go.Sx.LV.undef, Go.undef, Go.Sx.callO, Go.Sx.splice, Go.Sx.finish, Go.Sx.look, Go.Sx.push, Go.Sx.setObj, Go.Sx.setU, Go.Sx.setAll, Go.Sx.appO, Go.Sx.leI_eq, ltF]
    rw [wrap_i64 _ (by split <;> omega) (by split <;> omega)]
    split <;> omega
  | _ =>
    intro _ H nx
    refine om_run (ir := ir118) (by kernel_rfl) 0 ?_
    simp [ir118, Id.all_z, Id.all_o, Id.all_n, Id.ptr_z, Id.ptr_o, Id.ptr_n, Id.depth, ssB, List.idxOf?_cons, Go.Sx.LV.undef, Go.undef, Go.Sx.callO, Go.Sx.splice, Go.Sx.finish, Go.Sx.look, Go.Sx.push, Go.Sx.setObj, Go.Sx.setU, Go.Sx.setAll, Go.Sx.appO, Go.Sx.leI_eq, ltF]

theorem Pair_ (l r : Id) (hd : (Id.pair l r).depth < 2 ^ 62) (H : Heap) (nx : Nat) : Ω 67 [.p l.pv, .p r.pv] H nx =
    some (if (Id.pair l r).depth ≤ 16 then .tuple [.p (Id.pair l r).pv, .int .i64 0] else .tuple [.p Id.zero.pv, .int .i64 3], [], []) := by
  refine om_run (ir := ir67) (by kernel_rfl) 0 ?_
  by_cases h : (Id.pair l r).depth ≤ 16
  · have h' : ((Id.pair l r).depth : Int) ≤ 16 := by omega
    simp [ir67, pair_, depth_ _ hd, h, h', ssB, List.idxOf?_cons, Go.Sx.LV.undef, Go.undef, Go.Sx.callO, Go.Sx.splice, Go.Sx.finish, Go.Sx.look, Go.Sx.push, Go.Sx.setObj, Go.Sx.setU, Go.Sx.setAll, Go.Sx.appO, Go.Sx.leI_eq, ltF]
  · have h' : ¬ ((Id.pair l r).depth : Int) ≤ 16 := by omega
    simp [ir67, pair_, depth_ _ hd, h, h', idZero_, Id.all_z, Id.ptr_z, Id.ptr_o, Id.ptr_n, ssB, List.idxOf?_cons, Go.Sx.LV.undef, Go.undef, Go.Sx.callO, Go.Sx.splice, Go.Sx.finish, Go.Sx.look, Go.Sx.push, Go.Sx.setObj, Go.Sx.setU, Go.Sx.setAll, Go.Sx.appO, Go.Sx.leI_eq, ltF]
end Go.Proofs.YtppeggedcaabkaaGreatDoor
end

section
namespace Go.Proofs.YtppeggedcaabkaaGreatDoor
open Go Go.Sx
set_option linter.unusedSimpArgs false
set_option linter.unusedVariables false

inductive Ev where
  | leaf (n : Nat)
  | node (n : Nat) (l r : Ev)
  deriving DecidableEq

def Ev.n : Ev → Nat
  | .leaf n => n
  | .node n _ _ => n
theorem Ev.n_l (n : Nat) : (Ev.leaf n).n = n := rfl
theorem Ev.n_n (n : Nat) (l r : Ev) : (Ev.node n l r).n = n := rfl
def Ev.ptr : Ev → PV
  | .leaf _ => .s (.pointer none)
  | .node _ l r => .imm [.s (.int .u64 l.n), l.ptr, .s (.int .u64 r.n), r.ptr] 0
theorem Ev.ptr_l (n : Nat) : (Ev.leaf n).ptr = .s (.pointer none) := rfl
theorem Ev.ptr_n (n : Nat) (l r : Ev) : (Ev.node n l r).ptr = .imm [.s (.int .u64 l.n), l.ptr, .s (.int .u64 r.n), r.ptr] 0 := rfl
abbrev Ev.pv (e : Ev) : PV := .agg [.s (.int .u64 e.n), e.ptr]
def Ev.isLeaf : Ev → Bool
  | .leaf _ => true
  | _ => false
def Ev.left : Ev → Ev
  | .leaf _ => .leaf 0
  | .node _ l _ => l
def Ev.right : Ev → Ev
  | .leaf _ => .leaf 0
  | .node _ _ r => r
def Ev.up (e : Ev) (k : Nat) : Ev := match e with
  | .leaf n => .leaf (n + k)
  | .node n l r => .node (n + k) l r
theorem Ev.up_n (e : Ev) (k : Nat) : (e.up k).n = e.n + k := by cases e <;> rfl
theorem Ev.up_ptr (e : Ev) (k : Nat) : (e.up k).ptr = e.ptr := by cases e <;> rfl
def Ev.max : Ev → Nat
  | .leaf n => n
  | .node n l r => n + Max.max l.max r.max
def Ev.depth : Ev → Nat
  | .node _ l r => 1 + Max.max l.depth r.depth
  | _ => 0
theorem Ev.n_max (e : Ev) : e.n ≤ e.max := by cases e <;> simp [Ev.n, Ev.max]
theorem Ev.up_max (e : Ev) (k : Nat) : (e.up k).max = e.max + k := by cases e <;> simp [Ev.up, Ev.max] <;> omega
theorem Ev.up_depth (e : Ev) (k : Nat) : (e.up k).depth = e.depth := by cases e <;> rfl
theorem Ev.max_l (n : Nat) (l r : Ev) : n + l.max ≤ (Ev.node n l r).max := Nat.add_le_add_left (Nat.le_max_left _ _) n
theorem Ev.max_r (n : Nat) (l r : Ev) : n + r.max ≤ (Ev.node n l r).max := Nat.add_le_add_left (Nat.le_max_right _ _) n

theorem wrap_u64' (x : Int) (h0 : 0 ≤ x) (h : x < 2 ^ 64) : IntKind.u64.wrap x = x := by
  simp [IntKind.wrap, IntKind.signed, IntKind.bits]
  omega

theorem evLeft_l (n : Int) (H : Heap) (nx : Nat) : Ω 133 [.p (.agg [.s (.int .u64 n), .s (.pointer none)])] H nx = some (.p (.agg [.s (.int .u64 0), .s (.pointer none)]), [], []) := by
  refine om_run (ir := ir133) (by kernel_rfl) 0 ?_
  simp [ir133, ssB, List.idxOf?_cons, Go.Sx.LV.undef, Go.undef, Go.Sx.callO, Go.Sx.splice, Go.Sx.finish, Go.Sx.look, Go.Sx.push, Go.Sx.setObj, Go.Sx.setU, Go.Sx.setAll, Go.Sx.appO, Go.Sx.leI_eq, ltF]
theorem evLeft_n (n a b : Int) (p q : PV) (H : Heap) (nx : Nat) : Ω 133 [.p (.agg [.s (.int .u64 n), .imm [.s (.int .u64 a), p, .s (.int .u64 b), q] 0])] H nx = some (.p (.agg [.s (.int .u64 a), p]), [], []) := by
  refine om_run (ir := ir133) (by kernel_rfl) 0 ?_
  simp [ir133, ssB, List.idxOf?_cons, Go.Sx.LV.undef, Go.undef, Go.Sx.callO, Go.Sx.splice, Go.Sx.finish, Go.Sx.look, Go.Sx.push, Go.Sx.setObj, Go.Sx.setU, Go.Sx.setAll, Go.Sx.appO, Go.Sx.leI_eq, ltF]
theorem evRight_l (n : Int) (H : Heap) (nx : Nat) : Ω 134 [.p (.agg [.s (.int .u64 n), .s (.pointer none)])] H nx = some (.p (.agg [.s (.int .u64 0), .s (.pointer none)]), [], []) := by
  refine om_run (ir := ir134) (by kernel_rfl) 0 ?_
  simp [ir134, ssB, List.idxOf?_cons, Go.Sx.LV.undef, Go.undef, Go.Sx.callO, Go.Sx.splice, Go.Sx.finish, Go.Sx.look, Go.Sx.push, Go.Sx.setObj, Go.Sx.setU, Go.Sx.setAll, Go.Sx.appO, Go.Sx.leI_eq, ltF]
theorem evRight_n (n a b : Int) (p q : PV) (H : Heap) (nx : Nat) : Ω 134 [.p (.agg [.s (.int .u64 n), .imm [.s (.int .u64 a), p, .s (.int .u64 b), q] 0])] H nx = some (.p (.agg [.s (.int .u64 b), q]), [], []) := by
  refine om_run (ir := ir134) (by kernel_rfl) 0 ?_
  simp [ir134, ssB, List.idxOf?_cons, Go.Sx.LV.undef, Go.undef, Go.Sx.callO, Go.Sx.splice, Go.Sx.finish, Go.Sx.look, Go.Sx.push, Go.Sx.setObj, Go.Sx.setU, Go.Sx.setAll, Go.Sx.appO, Go.Sx.leI_eq, ltF]
theorem evIsLeaf_l (n : Int) (H : Heap) (nx : Nat) : Ω 135 [.p (.agg [.s (.int .u64 n), .s (.pointer none)])] H nx = some (.bool true, [], []) := by
  refine om_run (ir := ir135) (by kernel_rfl) 0 ?_
  simp [ir135, ssB, List.idxOf?_cons, Go.Sx.LV.undef, Go.undef, Go.Sx.callO, Go.Sx.splice, Go.Sx.finish, Go.Sx.look, Go.Sx.push, Go.Sx.setObj, Go.Sx.setU, Go.Sx.setAll, Go.Sx.appO, Go.Sx.leI_eq, ltF]
theorem evIsLeaf_n (n : Int) (cs : List PV) (H : Heap) (nx : Nat) : Ω 135 [.p (.agg [.s (.int .u64 n), .imm cs 0])] H nx = some (.bool false, [], []) := by
  refine om_run (ir := ir135) (by kernel_rfl) 0 ?_
  simp [ir135, ssB, List.idxOf?_cons, Go.Sx.LV.undef, Go.undef, Go.Sx.callO, Go.Sx.splice, Go.Sx.finish, Go.Sx.look, Go.Sx.push, Go.Sx.setObj, Go.Sx.setU, Go.Sx.setAll, Go.Sx.appO, Go.Sx.leI_eq, ltF]
theorem evBase_ (n : Int) (p : PV) (H : Heap) (nx : Nat) : Ω 138 [.p (.agg [.s (.int .u64 n), p])] H nx = some (.int .u64 n, [], []) := by
  refine om_run (ir := ir138) (by kernel_rfl) 0 ?_
  simp [ir138, ssB, List.idxOf?_cons, Go.Sx.LV.undef, Go.undef, Go.Sx.callO, Go.Sx.splice, Go.Sx.finish, Go.Sx.look, Go.Sx.push, Go.Sx.setObj, Go.Sx.setU, Go.Sx.setAll, Go.Sx.appO, Go.Sx.leI_eq, ltF]
theorem evUp_ (n k : Int) (p : PV) (h0 : 0 ≤ n + k) (h : n + k < 2 ^ 64) (H : Heap) (nx : Nat) : Ω 145 [.p (.agg [.s (.int .u64 n), p]), .int .u64 k] H nx = some (.p (.agg [.s (.int .u64 (n + k)), p]), [], []) := by
  refine om_run (ir := ir145) (by kernel_rfl) 0 ?_
  have hw := wrap_u64' (n + k) h0 h
  simp [ir145, hw, ssB, List.idxOf?_cons, Go.Sx.LV.undef, Go.undef, Go.Sx.callO, Go.Sx.splice, Go.Sx.finish, Go.Sx.look, Go.Sx.push, Go.Sx.setObj, Go.Sx.setU, Go.Sx.setAll, Go.Sx.appO, Go.Sx.leI_eq, ltF]

/-- The program's comparison. -/
def Ev.leq : Nat → Ev → Ev → Bool
  | 0, a, b => decide (a.n ≤ b.n)
  | d + 1, a, b => match a with
    | .leaf n => decide (n ≤ b.n)
    | .node n l r => if b.n < n ∧ b.isLeaf then false else Ev.leq d (l.up n) (b.left.up b.n) && Ev.leq d (r.up n) (b.right.up b.n)

theorem evLeq_ : ∀ (d : Nat) (a b : Ev), a.depth ≤ d → a.max < 2 ^ 63 → b.max < 2 ^ 63 → ∀ (H : Heap) (nx : Nat), Ω 90 [.p a.pv, .p b.pv] H nx = some (.bool (Ev.leq d a b), [], []) := by
  intro d
  have leafc : ∀ d (n : Nat) (b : Ev) (H : Heap) (nx : Nat), Ω 90 [.p (Ev.leaf n).pv, .p b.pv] H nx = some (.bool (Ev.leq d (.leaf n) b), [], []) := by
    intro d n b H nx
    have e : Ev.leq d (.leaf n) b = decide (n ≤ b.n) := by cases d <;> rfl
    rw [e]
    refine om_run (ir := ir90) (by kernel_rfl) 0 ?_
    simp [ir90, Ev.n_l, Ev.ptr_l, ssB, List.idxOf?_cons, Go.Sx.LV.undef, Go.undef, Go.Sx.callO, Go.Sx.splice, Go.Sx.finish, Go.Sx.look, Go.Sx.push, Go.Sx.setObj, Go.Sx.setU, Go.Sx.setAll, Go.Sx.appO, Go.Sx.leI_eq, ltF]
    try exact decide_eq_decide.2 Iff.rfl
  induction d with
  | zero =>
    intro a b ha _ _ H nx
    cases a with
    | node n l r => simp [Ev.depth] at ha
    | leaf n => exact leafc 0 n b H nx
  | succ d ih =>
    intro a b ha hma hmb H nx
    cases a with
    | leaf n => exact leafc (d + 1) n b H nx
    | node n l r =>
      have m1 := Ev.max_l n l r
      have m2 := Ev.max_r n l r
      have n1 := l.n_max
      have n2 := r.n_max
      have hdl : l.depth ≤ d := by simp only [Ev.depth] at ha; have := Nat.le_max_left l.depth r.depth; omega
      have hdr : r.depth ≤ d := by simp only [Ev.depth] at ha; have := Nat.le_max_right l.depth r.depth; omega
      have u1 := evUp_ l.n n l.ptr (by omega) (by omega)
      have u2 := evUp_ r.n n r.ptr (by omega) (by omega)
      refine om_run (ir := ir90) (by kernel_rfl) 0 ?_
      cases b with
      | leaf m =>
        have hm : m < 2 ^ 63 := hmb
        have u3 := evUp_ 0 m (.s (.pointer none)) (by omega) (by omega)
        by_cases h : n ≤ m
        · have h' : ¬ m < n := by omega
          have e1 := ih (l.up n) ((Ev.leaf 0).up m) (by rw [Ev.up_depth]; exact hdl) (by rw [Ev.up_max]; omega) (by rw [Ev.up_max]; simp [Ev.max]; omega)
          have e2 := ih (r.up n) ((Ev.leaf 0).up m) (by rw [Ev.up_depth]; exact hdr) (by rw [Ev.up_max]; omega) (by rw [Ev.up_max]; simp [Ev.max]; omega)
          have hl : Ev.leq (d + 1) (.node n l r) (.leaf m) = (Ev.leq d (l.up n) ((Ev.leaf 0).up m) && Ev.leq d (r.up n) ((Ev.leaf 0).up m)) := by simp [Ev.leq, Ev.isLeaf, Ev.n_l, h', Ev.left, Ev.right]
          rw [hl]
          simp only [Ev.pv, Ev.up_n, Ev.up_ptr, Ev.n_l, Ev.ptr_l, Nat.zero_add, Int.natCast_add] at e1 e2
          simp only [Int.zero_add] at u3
          cases h2 : Ev.leq d (l.up n) ((Ev.leaf 0).up m) <;> rw [h2] at e1 <;>
          simp [ir90, Ev.n_l, Ev.n_n, Ev.ptr_l, Ev.ptr_n, evLeft_l, evRight_l, u1, u2, u3, e1, e2, h, h', ssB, List.idxOf?_cons, Go.Sx.LV.undef, Go.undef, Go.Sx.callO, Go.Sx.splice, Go.Sx.finish, Go.Sx.look, Go.Sx.push, Go.Sx.setObj, Go.Sx.setU, Go.Sx.setAll, Go.Sx.appO, Go.Sx.leI_eq, ltF]
        · have h' : m < n := by omega
          have hl : Ev.leq (d + 1) (.node n l r) (.leaf m) = false := by simp [Ev.leq, Ev.isLeaf, Ev.n_l, h']
          rw [hl]
          simp [ir90, Ev.n_l, Ev.n_n, Ev.ptr_l, Ev.ptr_n, h, h', ssB, List.idxOf?_cons, Go.Sx.LV.undef, Go.undef, Go.Sx.callO, Go.Sx.splice, Go.Sx.finish, Go.Sx.look, Go.Sx.push, Go.Sx.setObj, Go.Sx.setU, Go.Sx.setAll, Go.Sx.appO, Go.Sx.leI_eq, ltF]
      | node m bl br =>
        have m3 := Ev.max_l m bl br
        have m4 := Ev.max_r m bl br
        have n3 := bl.n_max
        have n4 := br.n_max
        have u3 := evUp_ bl.n m bl.ptr (by omega) (by omega)
        have u4 := evUp_ br.n m br.ptr (by omega) (by omega)
        have e1 := ih (l.up n) (bl.up m) (by rw [Ev.up_depth]; exact hdl) (by rw [Ev.up_max]; omega) (by rw [Ev.up_max]; omega)
        have e2 := ih (r.up n) (br.up m) (by rw [Ev.up_depth]; exact hdr) (by rw [Ev.up_max]; omega) (by rw [Ev.up_max]; omega)
        have hl : Ev.leq (d + 1) (.node n l r) (.node m bl br) = (Ev.leq d (l.up n) (bl.up m) && Ev.leq d (r.up n) (br.up m)) := by simp [Ev.leq, Ev.isLeaf, Ev.left, Ev.right, Ev.n_n]
        rw [hl]
        simp only [Ev.pv, Ev.up_n, Ev.up_ptr, Int.natCast_add] at e1 e2
        cases h2 : Ev.leq d (l.up n) (bl.up m) <;> rw [h2] at e1 <;> by_cases h : n ≤ m <;>
        simp [ir90, Ev.n_n, Ev.ptr_n, evLeft_n, evRight_n, u1, u2, u3, u4, e1, e2, h, ssB, List.idxOf?_cons, Go.Sx.LV.undef, Go.undef, Go.Sx.callO, Go.Sx.splice, Go.Sx.finish, Go.Sx.look, Go.Sx.push, Go.Sx.setObj, Go.Sx.setU, Go.Sx.setAll, Go.Sx.appO, Go.Sx.leI_eq, ltF]
end Go.Proofs.YtppeggedcaabkaaGreatDoor
end

section
namespace Go.Proofs.YtppeggedcaabkaaGreatDoor
open Go Go.Sx
set_option linter.unusedSimpArgs false
set_option linter.unusedVariables false

def Ev.leqb (a b : Ev) : Bool := Ev.leq a.depth a b
theorem evLeq' (a b : Ev) (ha : a.max < 2 ^ 63) (hb : b.max < 2 ^ 63) (H : Heap) (nx : Nat) : Ω 90 [.p a.pv, .p b.pv] H nx = some (.bool (Ev.leqb a b), [], []) := evLeq_ a.depth a b (Nat.le_refl _) ha hb H nx

theorem evSame_ (a b : Ev) (ha : a.max < 2 ^ 63) (hb : b.max < 2 ^ 63) (H : Heap) (nx : Nat) : Ω 85 [.p a.pv, .p b.pv] H nx = some (.bool (Ev.leqb a b && Ev.leqb b a), [], []) := by
  refine om_run (ir := ir85) (by kernel_rfl) 0 ?_
  have h1 := evLeq' a b ha hb
  have h2 := evLeq' b a hb ha
  cases h : Ev.leqb a b <;> rw [h] at h1 <;> simp [ir85, h1, h2, ssB, List.idxOf?_cons, Go.Sx.LV.undef, Go.undef, Go.Sx.callO, Go.Sx.splice, Go.Sx.finish, Go.Sx.look, Go.Sx.push, Go.Sx.setObj, Go.Sx.setU, Go.Sx.setAll, Go.Sx.appO, Go.Sx.leI_eq, ltF]

theorem evDepth_ (e : Ev) : e.depth < 2 ^ 62 → ∀ (H : Heap) (nx : Nat), Ω 158 [.p e.pv] H nx = some (.int .i64 e.depth, [], []) := by
  induction e with
  | leaf n =>
    intro _ H nx
    refine om_run (ir := ir158) (by kernel_rfl) 0 ?_
    simp [ir158, Ev.ptr_l, Ev.depth, ssB, List.idxOf?_cons, Go.Sx.LV.undef, Go.undef, Go.Sx.callO, Go.Sx.splice, Go.Sx.finish, Go.Sx.look, Go.Sx.push, Go.Sx.setObj, Go.Sx.setU, Go.Sx.setAll, Go.Sx.appO, Go.Sx.leI_eq, ltF]
  | node n l r ihl ihr =>
    intro hd H nx
    simp only [Ev.depth] at hd
    have d1 : l.depth ≤ Max.max l.depth r.depth := Nat.le_max_left _ _
    have d2 : r.depth ≤ Max.max l.depth r.depth := Nat.le_max_right _ _
    have hl := ihl (by omega)
    have hr := ihr (by omega)
    refine om_run (ir := ir158) (by kernel_rfl) 0 ?_
    have hw : IntKind.i64.wrap (1 + (if (r.depth : Int) > l.depth then (r.depth : Int) else l.depth)) = ((1 + Max.max l.depth r.depth : Nat) : Int) := by
      rw [wrap_i64 _ (by split <;> omega) (by split <;> omega)]
      split <;> omega
    simp [ir158, Ev.ptr_n, hl, hr, ssB, List.idxOf?_cons, Go.Sx.LV.undef, Go.undef, Go.Sx.callO, Go.Sx.splice, Go.Sx.finish, Go.Sx.look, Go.Sx.push, Go.Sx.setObj, Go.Sx.setU, Go.Sx.setAll, Go.Sx.appO, Go.Sx.leI_eq, ltF]
    simpa [Ev.depth] using hw

theorem evMax_ (e : Ev) : e.max < 2 ^ 64 → ∀ (H : Heap) (nx : Nat), Ω 159 [.p e.pv] H nx = some (.int .u64 e.max, [], []) := by
  induction e with
  | leaf n =>
    intro _ H nx
    refine om_run (ir := ir159) (by kernel_rfl) 0 ?_
    simp [ir159, Ev.ptr_l, Ev.n_l, Ev.max, ssB, List.idxOf?_cons, Go.Sx.LV.undef, Go.undef, Go.Sx.callO, Go.Sx.splice, Go.Sx.finish, Go.Sx.look, Go.Sx.push, Go.Sx.setObj, Go.Sx.setU, Go.Sx.setAll, Go.Sx.appO, Go.Sx.leI_eq, ltF]
  | node n l r ihl ihr =>
    intro hd H nx
    have d1 := Ev.max_l n l r
    have d2 := Ev.max_r n l r
    have hl := ihl (by omega)
    have hr := ihr (by omega)
    refine om_run (ir := ir159) (by kernel_rfl) 0 ?_
    have hm : (Ev.node n l r).max = n + Max.max l.max r.max := rfl
    have hw : IntKind.u64.wrap ((n : Int) + (if (r.max : Int) > l.max then (r.max : Int) else l.max)) = (((Ev.node n l r).max : Nat) : Int) := by
      rw [hm] at hd ⊢
      rw [wrap_u64' _ (by split <;> omega) (by split <;> omega)]
      split <;> omega
    simp [ir159, Ev.ptr_n, Ev.n_n, hl, hr, ssB, List.idxOf?_cons, Go.Sx.LV.undef, Go.undef, Go.Sx.callO, Go.Sx.splice, Go.Sx.finish, Go.Sx.look, Go.Sx.push, Go.Sx.setObj, Go.Sx.setU, Go.Sx.setAll, Go.Sx.appO, Go.Sx.leI_eq, ltF]
    simpa using hw

/-- May it be? -/
def Ev.err (e : Ev) : Nat := if 16 < e.depth then 3 else if 2 ^ 20 < e.max then 4 else 0
theorem evRight'_ (e : Ev) (hd : e.depth < 2 ^ 62) (hm : e.max < 2 ^ 64) (H : Heap) (nx : Nat) : Ω 116 [.p e.pv] H nx = some (.int .i64 e.err, [], []) := by
  refine om_run (ir := ir116) (by kernel_rfl) 0 ?_
  have h1 := evDepth_ e hd
  have h2 := evMax_ e hm
  unfold Ev.err
  by_cases c1 : 16 < e.depth
  · have c1' : ¬ (e.depth : Int) ≤ 16 := by omega
    simp [ir116, h1, h2, c1, c1', ssB, List.idxOf?_cons, Go.Sx.LV.undef, Go.undef, Go.Sx.callO, Go.Sx.splice, Go.Sx.finish, Go.Sx.look, Go.Sx.push, Go.Sx.setObj, Go.Sx.setU, Go.Sx.setAll, Go.Sx.appO, Go.Sx.leI_eq, ltF]
  · have c1' : (e.depth : Int) ≤ 16 := by omega
    by_cases c2 : 2 ^ 20 < e.max
    · have c2' : ¬ (e.max : Int) ≤ 1048576 := by omega
      simp [ir116, h1, h2, c1, c1', c2, c2', ssB, List.idxOf?_cons, Go.Sx.LV.undef, Go.undef, Go.Sx.callO, Go.Sx.splice, Go.Sx.finish, Go.Sx.look, Go.Sx.push, Go.Sx.setObj, Go.Sx.setU, Go.Sx.setAll, Go.Sx.appO, Go.Sx.leI_eq, ltF]
    · have c2' : (e.max : Int) ≤ 1048576 := by omega
      simp [ir116, h1, h2, c1, c1', c2, c2', ssB, List.idxOf?_cons, Go.Sx.LV.undef, Go.undef, Go.Sx.callO, Go.Sx.splice, Go.Sx.finish, Go.Sx.look, Go.Sx.push, Go.Sx.setObj, Go.Sx.setU, Go.Sx.setAll, Go.Sx.appO, Go.Sx.leI_eq, ltF]

def Ev.down (e : Ev) (k : Nat) : Ev := match e with
  | .leaf n => .leaf (n - k)
  | .node n l r => .node (n - k) l r
theorem Ev.down_n (e : Ev) (k : Nat) : (e.down k).n = e.n - k := by cases e <;> rfl
theorem Ev.down_ptr (e : Ev) (k : Nat) : (e.down k).ptr = e.ptr := by cases e <;> rfl
/-- Of a base and halves, in its form. -/
def Ev.mk (n : Nat) (l r : Ev) : Ev := if l.isLeaf = true ∧ r.isLeaf = true ∧ l.n = r.n then .leaf (n + l.n) else .node (n + Min.min l.n r.n) (l.down (Min.min l.n r.n)) (r.down (Min.min l.n r.n))

theorem evnode_ll (n a : Nat) (h1 : n + a < 2 ^ 64) (H : Heap) (nx : Nat) : Ω 115 [.int .u64 n, .p (Ev.leaf a).pv, .p (Ev.leaf a).pv] H nx = some (.p (Ev.leaf (n + a)).pv, [], []) := by
  refine om_run (ir := ir115) (by kernel_rfl) 0 ?_
  have hw : IntKind.u64.wrap ((n : Int) + a) = (n : Int) + a := wrap_u64' _ (by omega) (by omega)
  simp [ir115, Ev.n_l, Ev.ptr_l, ssB, List.idxOf?_cons, Go.Sx.LV.undef, Go.undef, Go.Sx.callO, Go.Sx.splice, Go.Sx.finish, Go.Sx.look, Go.Sx.push, Go.Sx.setObj, Go.Sx.setU, Go.Sx.setAll, Go.Sx.appO, Go.Sx.leI_eq, ltF, hw]
theorem evnode_nn (n : Nat) (l r : Ev) (hc : ¬ (l.isLeaf = true ∧ r.isLeaf = true ∧ l.n = r.n)) (h1 : n + l.n < 2 ^ 64) (h2 : r.n < 2 ^ 64) (m : Nat) (hmm : Min.min l.n r.n = m) (H : Heap) (nx : Nat) : Ω 115 [.int .u64 n, .p l.pv, .p r.pv] H nx =
    some (.p (.agg [.s (.int .u64 ((n + m : Nat) : Int)), .imm [.s (.int .u64 ((l.n - m : Nat) : Int)), l.ptr, .s (.int .u64 ((r.n - m : Nat) : Int)), r.ptr] 0]), [], []) := by
  refine om_run (ir := ir115) (by kernel_rfl) 0 ?_
  have hw : IntKind.u64.wrap ((n : Int) + l.n) = (n : Int) + l.n := wrap_u64' _ (by omega) (by omega)
  have hmin : (if (r.n : Int) < l.n then (r.n : Int) else l.n) = (m : Int) := by split <;> omega
  have hmin' : ∀ (i : Decidable (r.n < l.n)), @ite Int (r.n < l.n) i (r.n : Int) (l.n : Int) = (m : Int) := fun i => by split <;> omega
  have hw1 : IntKind.u64.wrap ((n : Int) + m) = (n : Int) + m := wrap_u64' _ (by omega) (by omega)
  have hw2 : IntKind.u64.wrap ((l.n : Int) - m) = ((l.n - m : Nat) : Int) := by rw [wrap_u64' _ (by omega) (by omega)]; omega
  have hw3 : IntKind.u64.wrap ((r.n : Int) - m) = ((r.n - m : Nat) : Int) := by rw [wrap_u64' _ (by omega) (by omega)]; omega
  generalize l.n - m = lm at *
  generalize r.n - m = rm at *
  cases l with
  | leaf a =>
    cases r with
    | leaf b =>
      have hln : ¬ a = b := fun h => hc ⟨rfl, rfl, h⟩
      have e2 : ((a : Int) == b) = false := by simp; omega
      simp only [Ev.n_l] at hw hmin hmin' hw2 hw3
      simp [ir115, Ev.n_l, Ev.ptr_l, ssB, List.idxOf?_cons, Go.Sx.LV.undef, Go.undef, Go.Sx.callO, Go.Sx.splice, Go.Sx.finish, Go.Sx.look, Go.Sx.push, Go.Sx.setObj, Go.Sx.setU, Go.Sx.setAll, Go.Sx.appO, Go.Sx.leI_eq, ltF, e2, hw, hmin', hw1, hw2, hw3]
    | node b b1 b2 =>
      simp only [Ev.n_l, Ev.n_n] at hw hmin hmin' hw2 hw3
      simp [ir115, Ev.n_l, Ev.ptr_l, Ev.n_n, Ev.ptr_n, ssB, List.idxOf?_cons, Go.Sx.LV.undef, Go.undef, Go.Sx.callO, Go.Sx.splice, Go.Sx.finish, Go.Sx.look, Go.Sx.push, Go.Sx.setObj, Go.Sx.setU, Go.Sx.setAll, Go.Sx.appO, Go.Sx.leI_eq, ltF, hw, hmin', hw1, hw2, hw3]
  | node a a1 a2 =>
    simp only [Ev.n_n] at hw hmin hmin' hw2
    simp [ir115, Ev.n_n, Ev.ptr_n, ssB, List.idxOf?_cons, Go.Sx.LV.undef, Go.undef, Go.Sx.callO, Go.Sx.splice, Go.Sx.finish, Go.Sx.look, Go.Sx.push, Go.Sx.setObj, Go.Sx.setU, Go.Sx.setAll, Go.Sx.appO, Go.Sx.leI_eq, ltF, hw, hmin', hw1, hw2, hw3]
theorem evnode_ (n : Nat) (l r : Ev) (h1 : n + l.n < 2 ^ 64) (h2 : r.n < 2 ^ 64) (H : Heap) (nx : Nat) : Ω 115 [.int .u64 n, .p l.pv, .p r.pv] H nx = some (.p (Ev.mk n l r).pv, [], []) := by
  unfold Ev.mk
  by_cases hc : l.isLeaf = true ∧ r.isLeaf = true ∧ l.n = r.n
  · rw [if_pos hc]
    cases l with
    | leaf a =>
      cases r with
      | leaf b =>
        obtain rfl : a = b := hc.2.2
        exact evnode_ll n a h1 H nx
      | node b b1 b2 => cases hc.2.1
    | node a a1 a2 => cases hc.1
  · rw [if_neg hc, evnode_nn n l r hc h1 h2 _ rfl]
    simp only [Ev.pv, Ev.n_n, Ev.ptr_n, Ev.down_n, Ev.down_ptr]

theorem evLeaf_ (n : Nat) (h : n ≤ 2 ^ 20) (H : Heap) (nx : Nat) : Ω 62 [.int .u64 n] H nx = some (.tuple [.p (Ev.leaf n).pv, .int .i64 0], [], []) := by
  refine om_run (ir := ir62) (by kernel_rfl) 0 ?_
  have h1 : (n : Int) ≤ 1048576 := by omega
  simp [ir62, Ev.n_l, Ev.ptr_l, ssB, List.idxOf?_cons, Go.Sx.LV.undef, Go.undef, Go.Sx.callO, Go.Sx.splice, Go.Sx.finish, Go.Sx.look, Go.Sx.push, Go.Sx.setObj, Go.Sx.setU, Go.Sx.setAll, Go.Sx.appO, Go.Sx.leI_eq, ltF, h1]
theorem evNode_ (n : Nat) (l r : Ev) (hn : n ≤ 2 ^ 20) (h1 : (Ev.mk n l r).err = 0) (h2 : l.n ≤ 2 ^ 21) (h3 : r.n ≤ 2 ^ 21) (hd : (Ev.mk n l r).depth < 2 ^ 62) (hm : (Ev.mk n l r).max < 2 ^ 64) (H : Heap) (nx : Nat) :
    Ω 63 [.int .u64 n, .p l.pv, .p r.pv] H nx = some (.tuple [.p (Ev.mk n l r).pv, .int .i64 0], [], []) := by
  refine om_run (ir := ir63) (by kernel_rfl) 0 ?_
  have hmin : ¬ (2097152 : Int) < n := by omega
  have e1 := evnode_ n l r (by omega) (by omega)
  have e2 := evRight'_ _ hd hm
  rw [h1] at e2
  generalize Ev.mk n l r = e at *
  simp [ir63, ssB, List.idxOf?_cons, Go.Sx.LV.undef, Go.undef, Go.Sx.callO, Go.Sx.splice, Go.Sx.finish, Go.Sx.look, Go.Sx.push, Go.Sx.setObj, Go.Sx.setU, Go.Sx.setAll, Go.Sx.appO, Go.Sx.leI_eq, ltF, e1, e2, hmin]
end Go.Proofs.YtppeggedcaabkaaGreatDoor
end

section
namespace Go.Proofs.YtppeggedcaabkaaGreatDoor
open Go Go.Sx
set_option linter.unusedSimpArgs false
set_option linter.unusedVariables false

theorem iter_step {f : St → Option (Ex × St)} {n : Nat} {st st' : St} (h : f st = some (.normal, st')) : iter f (n + 1) st = iter f n st' := by simp only [iter, h]
theorem iter_out {f : St → Option (Ex × St)} {n : Nat} {st st' : St} {e : Ex} (h : f st = some (e, st')) (he : e ≠ .normal) : iter f (n + 1) st = some (e, st') := by
  simp only [iter, h]
  cases e <;> first | rfl | exact absurd rfl he

def byt (l : List UInt8) : List LV := l.map fun x => .int .u8 x.toNat
def bytP (l : List UInt8) : List PV := l.map fun x => .s (.int .u8 x.toNat)
theorem byt_nil : byt [] = [] := rfl
theorem byt_cons (x : UInt8) (l : List UInt8) : byt (x :: l) = .int .u8 x.toNat :: byt l := rfl
theorem byt_app (l m : List UInt8) : byt (l ++ m) = byt l ++ byt m := by simp [byt]
theorem byt_len (l : List UInt8) : (byt l).length = l.length := by simp [byt]
theorem bytP_map (l : List UInt8) : (bytP l).map LV.p = byt l := by simp [byt, bytP]
theorem bytP_len (l : List UInt8) : (bytP l).length = l.length := by simp [bytP]

theorem rep_succ {α : Type} (f : α → α) : ∀ (n : Nat) (a : α), Nat.repeat f (n + 1) a = Nat.repeat f n (f a)
  | 0, _ => rfl
  | n + 1, a => congrArg f (rep_succ f n a)

theorem ids_byt (l : List UInt8) : ids.idsL (byt l) = [] := by
  induction l with
  | nil => rfl
  | cons x l ih => rw [byt_cons, ids.idsL, ih]; rfl
theorem ids_app (l m : List LV) : ids.idsL (l ++ m) = ids.idsL l ++ ids.idsL m := by
  induction l with
  | nil => rfl
  | cons x l ih => rw [List.cons_append, ids.idsL, ids.idsL, ih, List.append_assoc]
theorem ren_byt (nx : Nat) (s : List Nat) (l : List UInt8) : ren.go nx s (byt l) = some (byt l) := by
  induction l with
  | nil => rfl
  | cons x l ih => rw [byt_cons, ren.go, ih]; rfl
theorem allP_byt (l : List UInt8) : allP (byt l) = some (bytP l) := by
  induction l with
  | nil => rfl
  | cons x l ih => rw [byt_cons, allP, ih]; rfl

theorem ren_app (nx : Nat) (s : List Nat) (l : List UInt8) (m : List LV) : ren.go nx s (byt l ++ m) = match ren.go nx s m with
    | some q => some (byt l ++ q)
    | none => none := by
  induction l with
  | nil => rw [byt_nil, List.nil_append]; cases ren.go nx s m <;> rfl
  | cons x l ih => rw [byt_cons, List.cons_append, ren.go, ih]; cases ren.go nx s m <;> rfl
theorem allP_app (l : List UInt8) (m : List LV) : allP (byt l ++ m) = match allP m with
    | some q => some (bytP l ++ q)
    | none => none := by
  induction l with
  | nil => rw [byt_nil, List.nil_append]; cases allP m <;> rfl
  | cons x l ih => rw [byt_cons, List.cons_append, allP, ih]; cases allP m <;> rfl
theorem take_byt (l : List UInt8) : List.take l.length (byt l) = byt l := by
  rw [← byt_len, List.take_length]

def aft (nx : Nat) (h : Hp) (u : Upd) (n : List (Option Go.Sx.Obj)) : Hp := { setAll nx h u with new := (setAll nx h u).new ++ n }
theorem aft_nil (nx : Nat) (h : Hp) (u : Upd) : aft nx h u [] = setAll nx h u := by simp [aft]
theorem setAll_nil (nx : Nat) (h : Hp) : setAll nx h [] = h := rfl
theorem aft_one (nx : Nat) (h : Hp) (u : Upd) (o : Go.Sx.Obj) : aft nx h u [some o] = push (setAll nx h u) o := rfl
theorem callO_A (c : Ctx) (dr : Bool) (h : Hp) (f : FuncId) (args : List LV) : callO c dr h f args =
  if dr then
    match reach (Go.Sx.look c.H c.nx h) 1000 (ids.idsL args) [] with
    | some S =>
      if (ids.idsL args ++ S.flatMap (fun id => match Go.Sx.look c.H c.nx h id with
        | some o => o.ids
        | none => [])).all (fun id => decide (id < c.nx + h.new.length)) then
      match c.O f args (fun id => if S.contains id then Go.Sx.look c.H c.nx h id else none) (c.nx + h.new.length) with
      | some (r, u, n) => some ⟨r, aft c.nx h u n, S, !u.isEmpty⟩
      | none => none
      else none
    | none => none
  else
    match c.O f args (Go.Sx.look c.H c.nx h) (c.nx + h.new.length) with
    | some (r, u, n) => some ⟨r, aft c.nx h u n, [], !u.isEmpty⟩
    | none => none := rfl
theorem hp_push (x : Hp) (o : Go.Sx.Obj) : ({ upd := x.upd, new := x.new ++ [some o] } : Hp) = push x o := rfl
theorem hp_eta (x : Hp) : ({ upd := x.upd, new := x.new } : Hp) = x := rfl
theorem push_len (x : Hp) (o : Go.Sx.Obj) : (push x o).new.length = x.new.length + 1 := by simp [push]
theorem push_upd (x : Hp) (o : Go.Sx.Obj) : (push x o).upd = x.upd := rfl
theorem setObj_upd (nx : Nat) (x : Hp) (id : Nat) (o : Option Go.Sx.Obj) (h : ¬ id < nx) : (Go.Sx.setObj nx x id o).upd = x.upd := by simp [Go.Sx.setObj, h]

theorem look_set' {H : Heap} {nx : Nat} {h : Hp} {id : Nat} {o : Option Go.Sx.Obj} (hid : id < nx + h.new.length) (j : Nat) : Go.Sx.look H nx (Go.Sx.setObj nx h id o) j = if j = id then o else Go.Sx.look H nx h j := look_set (by omega) j

end Go.Proofs.YtppeggedcaabkaaGreatDoor
end

section
namespace Go.Proofs.YtppeggedcaabkaaGreatDoor
open Go Go.Sx
set_option linter.unusedSimpArgs false
set_option linter.unusedVariables false

/-- A bit more, behind n of them. -/
def addBit (p : List UInt8) (n : Nat) (b : Bool) : List UInt8 :=
  let q := if n % 8 = 0 then p ++ [0] else p
  if b then q.set (n / 8) (q.getD (n / 8) 0 ||| UInt8.ofNat (128 >>> (n % 8))) else q
def addBits (p : List UInt8) (n : Nat) : List Bool → List UInt8
  | [] => p
  | b :: l => addBits (addBit p n b) (n + 1) l
theorem addBits_app (p : List UInt8) (n : Nat) (l m : List Bool) : addBits p n (l ++ m) = addBits (addBits p n l) (n + l.length) m := by
  induction l generalizing p n with
  | nil => rfl
  | cons b l ih => rw [List.cons_append, addBits, addBits, ih, List.length_cons, Nat.add_assoc, Nat.add_comm 1]
/-- A number's lowest bits, the highest first. -/
def bitsOf (x : Nat) : Nat → List Bool
  | 0 => []
  | k + 1 => x.testBit k :: bitsOf x k
theorem bitsOf_len (x : Nat) : ∀ k, (bitsOf x k).length = k
  | 0 => rfl
  | k + 1 => by rw [bitsOf, List.length_cons, bitsOf_len x k]

theorem addBit_len (p : List UInt8) (n : Nat) (b : Bool) (h : p.length = (n + 7) / 8) : (addBit p n b).length = (n + 1 + 7) / 8 := by
  unfold addBit
  by_cases h8 : n % 8 = 0 <;> cases b <;> simp [h8, h] <;> omega

/-- A writer on the heap of a call. -/
structure Wr (H : Heap) (nx wid pid : Nat) (p : List UInt8) (n : Nat) : Prop where
  lt : wid < nx
  len : p.length = (n + 7) / 8
  small : n < 2 ^ 30
  at' : (n = 0 ∧ H wid = some (.cells [.p (.s (.slice none 0 0)), .int .i64 0])) ∨
    (0 < n ∧ pid < nx ∧ pid ≠ wid ∧ H wid = some (.cells [.arr pid 0 p.length 1 p.length false, .int .i64 n]) ∧ H pid = some (.cells (byt p)))

theorem within_ (k : Nat) (hk : k ≤ 64) (H : Heap) (nx : Nat) : Ω 177 [.int .i64 k] H nx = some (.int .i64 k, [], []) := by
  refine om_run (ir := ir177) (by kernel_rfl) 0 ?_
  have h1 : ¬ (0 : Int) > k := by omega
  have h2 : ¬ (64 : Int) < k := by omega
  have h3 : ¬ 64 < k := by omega
  simp [ir177, ssB, List.idxOf?_cons, Go.Sx.LV.undef, Go.undef, Go.Sx.callO, Go.Sx.splice, Go.Sx.finish, Go.Sx.look, Go.Sx.push, Go.Sx.setObj, Go.Sx.setU, Go.Sx.setAll, Go.Sx.appO, Go.Sx.leI_eq, ltF, h1, h2, h3]

theorem binI_rem' (k : IntKind) (x y : Int) (hy : y ≠ 0) : binI .rem k x y = some (.int k (x.tmod y)) := by simp [binI, hy]
theorem binI_quo0 : binI .quo .i64 0 8 = some (.int .i64 0) := rfl
section put
variable {H : Heap} {nx wid pid : Nat} {h : Hp} {p : List UInt8} {n : Nat}
theorem shr_u64 (x k : Nat) (hk : k ≤ 64) : shI .shr .u64 x k = some (.int .u64 (x >>> k : Nat)) := by
  have : shI .shr .u64 (x : Int) k = some (.int .u64 ((x : Int).fdiv (2 ^ (min k 64)))) := by
    simp only [shI]
    rw [if_neg (by omega)]
    rfl
  rw [this, Nat.shiftRight_eq_div_pow, Int.fdiv_eq_ediv_of_nonneg _ (Int.le_of_lt (Int.pow_pos (by decide))), Nat.min_eq_left hk]
  norm_cast
theorem shl_u64' (x k : Nat) (hk : k ≤ 64) : shI .shl .u64 x k = some (.int .u64 (x * 2 ^ k % 2 ^ 64 : Nat)) := by
  have : shI .shl .u64 (x : Int) k = some (.int .u64 (IntKind.u64.wrap ((x : Int) * (2 ^ (min k 64))))) := by
    simp only [shI]
    rw [if_neg (by omega)]
    rfl
  rw [this, Nat.min_eq_left hk]
  simp [IntKind.wrap, IntKind.signed, IntKind.bits]
theorem and_1 (y : Nat) : binI .and .u64 y 1 = some (.int .u64 (y % 2 : Nat)) := by
  have : binI .and .u64 (y : Int) 1 = some (.int .u64 (IntKind.u64.wrap (BitVec.ofInt 64 (y : Int) &&& BitVec.ofInt 64 1).toNat)) := rfl
  rw [this, BitVec.ofInt_natCast, BitVec.toNat_and, BitVec.toNat_ofNat]
  have e : (BitVec.ofInt 64 1).toNat = 1 := by decide
  rw [e, Nat.and_one_is_mod]
  have e2 : y % 2 ^ 64 % 2 = y % 2 := by omega
  rw [e2]
  simp [IntKind.wrap, IntKind.signed, IntKind.bits]
  omega
theorem shr_top (k : Nat) (hk : k < 8) : shI .shr .u8 128 k = some (.int .u8 ((UInt8.ofNat (128 >>> k)).toNat : Nat)) := by
  match k, hk with
  | 0, _ | 1, _ | 2, _ | 3, _ | 4, _ | 5, _ | 6, _ | 7, _ => rfl
theorem or_u8 (x y : UInt8) : binI .or .u8 x.toNat y.toNat = some (.int .u8 (x ||| y).toNat) := by
  have : binI .or .u8 (x.toNat : Int) (y.toNat : Int) = some (.int .u8 (IntKind.u8.wrap (BitVec.ofInt 8 (x.toNat : Int) ||| BitVec.ofInt 8 (y.toNat : Int)).toNat)) := rfl
  have hx := x.toNat_lt
  have hy := y.toNat_lt
  rw [this, BitVec.ofInt_natCast, BitVec.ofInt_natCast, BitVec.toNat_or, BitVec.toNat_ofNat, BitVec.toNat_ofNat, Nat.mod_eq_of_lt hx, Nat.mod_eq_of_lt hy, UInt8.toNat_or]
  have := Nat.or_lt_two_pow (n := 8) hx hy
  simp [IntKind.wrap, IntKind.signed, IntKind.bits]
  omega

/-- What a call of a writer's has updated: the writer, and the bytes that it had. -/
inductive UF (wid pid0 : Nat) : Upd → Prop where
  | u0 : UF wid pid0 []
  | u1 (X : Option Go.Sx.Obj) : UF wid pid0 [(wid, X)]
  | u2 (X Z : Option Go.Sx.Obj) : UF wid pid0 [(pid0, Z), (wid, X)]
  | u3 (X Z : Option Go.Sx.Obj) : UF wid pid0 [(wid, X), (pid0, Z)]
  | u4 (Z : Option Go.Sx.Obj) : UF wid pid0 [(pid0, Z)]
theorem UF.setW {wid pid0 : Nat} (hne : pid0 ≠ wid) {u : Upd} (h : UF wid pid0 u) (X : Option Go.Sx.Obj) : UF wid pid0 (setU u wid X) := by
  have h1 : ¬ wid = pid0 := fun e => hne e.symm
  cases h <;> simp [setU, h1] <;> constructor
theorem UF.setP {wid pid0 : Nat} (hne : pid0 ≠ wid) {u : Upd} (h : UF wid pid0 u) (Z : Option Go.Sx.Obj) : UF wid pid0 (setU u pid0 Z) := by
  cases h <;> simp [setU, hne] <;> constructor

theorem upd_lt (nx : Nat) (x : Hp) (id : Nat) (o : Option Go.Sx.Obj) (h : id < nx) : (Go.Sx.setObj nx x id o).upd = setU x.upd id o := by simp [Go.Sx.setObj, h]
theorem findU_set (u : Upd) (id j : Nat) (o : Option Go.Sx.Obj) : findU (setU u id o) j = if j = id then some o else findU u j := findU_setU j

/-- What a call has updated so far. -/
structure UZ (nx wid pid0 : Nat) (h : Hp) : Prop where
  uf : UF wid pid0 h.upd
  zz : ∀ o, findU h.upd pid0 = some o → o = none ∨ ∃ l, o = some (.cells (byt l))
  kk : ∀ id o, findU h.upd id = some o → id < nx
theorem UZ.push {nx wid pid0 : Nat} {h : Hp} (g : UZ nx wid pid0 h) (o : Go.Sx.Obj) : UZ nx wid pid0 (Go.Sx.push h o) := ⟨g.uf, g.zz, g.kk⟩
theorem UZ.objW {nx wid pid0 : Nat} {h : Hp} (hlt : wid < nx) (hne : pid0 ≠ wid) (g : UZ nx wid pid0 h) (o : Option Go.Sx.Obj) : UZ nx wid pid0 (Go.Sx.setObj nx h wid o) := by
  refine ⟨?_, fun q hq => ?_, fun id q hq => ?_⟩
  · rw [upd_lt _ _ _ _ hlt]; exact g.uf.setW hne o
  · rw [upd_lt _ _ _ _ hlt, findU_set, if_neg hne] at hq; exact g.zz q hq
  · rw [upd_lt _ _ _ _ hlt, findU_set] at hq
    split at hq
    · rename_i e; rw [e]; exact hlt
    · exact g.kk id q hq
theorem UZ.objP {nx wid pid0 pid : Nat} {h : Hp} (hne : pid0 ≠ wid) (hp : pid = pid0 ∨ nx ≤ pid) (g : UZ nx wid pid0 h) (o : Option Go.Sx.Obj) (ho : o = none ∨ ∃ l, o = some (.cells (byt l))) : UZ nx wid pid0 (Go.Sx.setObj nx h pid o) := by
  by_cases hlt : pid < nx
  · obtain rfl : pid = pid0 := by
      rcases hp with h | h
      · exact h
      · omega
    refine ⟨?_, fun q hq => ?_, fun id q hq => ?_⟩
    · rw [upd_lt _ _ _ _ hlt]; exact g.uf.setP hne o
    · rw [upd_lt _ _ _ _ hlt, findU_set, if_pos rfl] at hq
      obtain rfl := Option.some.inj hq
      exact ho
    · rw [upd_lt _ _ _ _ hlt, findU_set] at hq
      split at hq
      · rename_i e; rw [e]; exact hlt
      · exact g.kk id q hq
  · exact ⟨by rw [setObj_upd _ _ _ _ hlt]; exact g.uf, fun q hq => g.zz q (by rwa [setObj_upd _ _ _ _ hlt] at hq), fun id q hq => g.kk id q (by rwa [setObj_upd _ _ _ _ hlt] at hq)⟩

/-- A writer on the heap within a call. -/
structure WrH (H : Heap) (nx : Nat) (h : Hp) (wid pid0 pid : Nat) (p : List UInt8) (n : Nat) : Prop where
  lt : wid < nx
  ne0 : pid0 ≠ wid
  len : p.length = (n + 7) / 8
  small : n < 2 ^ 30
  uz : UZ nx wid pid0 h
  at' : (n = 0 ∧ Go.Sx.look H nx h wid = some (.cells [.p (.s (.slice none 0 0)), .int .i64 0])) ∨
    (0 < n ∧ pid < nx + h.new.length ∧ pid ≠ wid ∧ (pid = pid0 ∨ nx ≤ pid) ∧ Go.Sx.look H nx h wid = some (.cells [.arr pid 0 p.length 1 p.length false, .int .i64 n]) ∧ Go.Sx.look H nx h pid = some (.cells (byt p)))

section bit
variable {H : Heap} {nx wid pid0 pid : Nat} {h : Hp} {p : List UInt8} {n : Nat}
theorem tmod8 (n : Nat) : (n : Int).tmod 8 = ((n % 8 : Nat) : Int) := by
  rw [Int.tmod_eq_emod_of_nonneg (by omega)]; norm_cast
theorem tdiv8 (n : Nat) : (n : Int).tdiv 8 = ((n / 8 : Nat) : Int) := by
  rw [Int.tdiv_eq_ediv_of_nonneg (by omega)]; norm_cast
theorem bit_ (N : Nat) (g : WrH H nx h wid pid0 pid p n) (hs : n + 1 < 2 ^ 30) (x i : Nat) (hi : i < 64) : ∃ h' pid',
    runCS ⟨Ω, noG, H, nx⟩ N ir136_0 ⟨[(0, .ref wid 0), (1, .int .u64 x), (6, .int .i64 i)], h⟩ = some (.normal, ⟨[(0, .ref wid 0), (1, .int .u64 x), (6, .int .i64 ((i : Int) - 1))], h'⟩) ∧
    WrH H nx h' wid pid0 pid' (addBit p n (x.testBit i)) (n + 1) ∧ (findU h'.upd wid).isSome = true := by
  have hlt := g.lt
  have hne := g.ne0
  have hlen := addBit_len p n (x.testBit i) g.len
  have hi0 : (0 : Int) ≤ i := by omega
  have hwi : IntKind.i64.wrap ((i : Int) - 1) = (i : Int) - 1 := wrap_i64 _ (by omega) (by omega)
  have hwn : IntKind.i64.wrap ((n : Int) + 1) = (n : Int) + 1 := wrap_i64 _ (by omega) (by omega)
  have hw1 : IntKind.i64.wrap 1 = 1 := rfl
  have hsh := shr_u64 x i (by omega)
  have han := and_1 (x >>> i)
  have htb : x >>> i % 2 = (if x.testBit i then 1 else 0) := by
    rw [Nat.testBit_eq_decide_div_mod_eq, Nat.shiftRight_eq_div_pow]
    have := Nat.mod_two_eq_zero_or_one (x / 2 ^ i)
    by_cases h : x / 2 ^ i % 2 = 1 <;> simp [h]
    omega
  have hr8 : binI .rem .i64 n 8 = some (.int .i64 (n % 8 : Nat)) := by rw [binI_rem' _ _ _ (by decide), tmod8]
  have hq8 : binI .quo .i64 n 8 = some (.int .i64 (n / 8 : Nat)) := by
    have : binI .quo .i64 (n : Int) 8 = some (.int .i64 (IntKind.i64.wrap ((n : Int).tdiv 8))) := by simp [binI]
    rw [this, tdiv8, wrap_i64 _ (by omega) (by omega)]
  have htop := shr_top (n % 8) (Nat.mod_lt _ (by decide))
  have k1 : ∀ k, wid < nx + (h.new.length + k) := fun k => by omega
  have k2 : ∀ k, ¬ wid = nx + (h.new.length + k) := fun k => by omega
  have k3 : ¬ wid = nx + h.new.length := by omega
  have k4 : wid < nx + h.new.length := by omega
  have k5 : ∀ k, ¬ nx + (h.new.length + k) = wid := fun k => by omega
  have k6 : ¬ nx + h.new.length = wid := by omega
  rw [htb] at han
  generalize x >>> i = s at *
  rcases g.at' with ⟨rfl, l1⟩ | ⟨h0, p1, p2, p3, l1, l2⟩
  · -- the first bit
    have hp : p = [] := List.length_eq_zero_iff.1 (by rw [g.len])
    subst hp
    have b0 : byt [0] = [.int .u8 0] := rfl
    cases hb : x.testBit i
    · have e := Eq.refl (runCS ⟨Ω, noG, H, nx⟩ N ir136_0 ⟨[(0, .ref wid 0), (1, .int .u64 x), (6, .int .i64 i)], h⟩)
      rw [hb] at han hlen
      conv at e =>
        rhs
        simp [ir136_0, ssB, List.idxOf?_cons, Go.Sx.LV.undef, Go.undef, callO_A, aft_nil, aft_one, Go.Sx.splice, Go.Sx.finish, Go.Sx.setAll, Go.Sx.appO, Go.Sx.leI_eq, ltF, look_push, push_len, setObj_len, look_set', Nat.add_assoc, hi0, hwi, hw1, hsh, han, k1, k2, k3, k4, k5, k6, l1, binI_rem']
      rw [hb] at *
      refine ⟨_, nx + (h.new.length + 1), e, ⟨hlt, hne, hlen, hs, ?_, .inr ⟨by omega, ?_, ?_, .inr ?_, ?_, ?_⟩⟩, by simp [upd_lt _ _ _ _ hlt, findU_set]⟩
      · repeat (first | exact g.uz | apply UZ.push | refine UZ.objW hlt hne ?_ _ | refine UZ.objP hne (.inr (by omega)) ?_ _ (.inr ⟨_, rfl⟩))
      all_goals simp [look_push, push_len, setObj_len, look_set', Nat.add_assoc, k1, k2, k3, k4, k5, k6, addBit, byt]
      all_goals try omega
    · have htop0 : shI .shr .u8 128 0 = some (.int .u8 128) := rfl
      have hor0 : binI .or .u8 0 128 = some (.int .u8 128) := rfl
      have e := Eq.refl (runCS ⟨Ω, noG, H, nx⟩ N ir136_0 ⟨[(0, .ref wid 0), (1, .int .u64 x), (6, .int .i64 i)], h⟩)
      rw [hb] at han hlen
      conv at e =>
        rhs
        simp [ir136_0, ssB, List.idxOf?_cons, Go.Sx.LV.undef, Go.undef, callO_A, aft_nil, aft_one, Go.Sx.splice, Go.Sx.finish, Go.Sx.setAll, Go.Sx.appO, Go.Sx.leI_eq, ltF, look_push, push_len, setObj_len, look_set', Nat.add_assoc, hi0, hwi, hw1, hsh, han, k1, k2, k3, k4, k5, k6, l1, binI_rem', binI_quo0, htop0, hor0]
      refine ⟨_, nx + (h.new.length + 1), e, ⟨hlt, hne, hlen, hs, ?_, .inr ⟨by omega, ?_, ?_, .inr ?_, ?_, ?_⟩⟩, by simp [upd_lt _ _ _ _ hlt, findU_set]⟩
      · exact UZ.objW hlt hne (UZ.objP hne (.inr (by omega)) (UZ.objW hlt hne (UZ.push (UZ.push g.uz _) _) _) _ (.inr ⟨[128], rfl⟩)) _
      all_goals simp [look_push, push_len, setObj_len, look_set', Nat.add_assoc, k1, k2, k3, k4, k5, k6, addBit, byt]
      all_goals try omega
  · have p2' : ¬ pid = wid := p2
    have p2'' : ¬ wid = pid := fun e => p2 e.symm
    have q1 : ∀ k, pid < nx + (h.new.length + k) := fun k => by omega
    have q2 : ∀ k, ¬ pid = nx + (h.new.length + k) := fun k => by omega
    have q3 : ¬ pid = nx + h.new.length := by omega
    have q4 : pid < nx + h.new.length := by omega
    have q5 : ∀ k, ¬ nx + (h.new.length + k) = pid := fun k => by omega
    have q6 : ¬ nx + h.new.length = pid := by omega
    have hL := g.len
    have hLb := byt_len p
    by_cases h8 : n % 8 = 0
    · have hL8 : p.length = n / 8 := by omega
      have r0 : binI .rem .i64 n 8 = some (.int .i64 0) := by rw [hr8, h8]; rfl
      rw [h8] at htop
      have htop0 : shI .shr .u8 128 0 = some (.int .u8 128) := rfl
      have hor0 : binI .or .u8 0 128 = some (.int .u8 128) := rfl
      have hq8' : binI .quo .i64 n 8 = some (.int .i64 p.length) := by rw [hq8, hL8]
      have h41 : ¬ 1099511627776 < p.length + 1 := by omega
      have h42 : p.length + 1 ≤ 1099511627776 := by omega
      have htk : List.take p.length (byt p) = byt p := take_byt p
      cases hb : x.testBit i
      · have e := Eq.refl (runCS ⟨Ω, noG, H, nx⟩ N ir136_0 ⟨[(0, .ref wid 0), (1, .int .u64 x), (6, .int .i64 i)], h⟩)
        rw [hb] at han hlen
        conv at e =>
          rhs
          simp [ir136_0, ssB, List.idxOf?_cons, Go.Sx.LV.undef, Go.undef, callO_A, aft_nil, aft_one, Go.Sx.splice, Go.Sx.finish, Go.Sx.setAll, Go.Sx.appO, Go.Sx.leI_eq, ltF, look_push, push_len, setObj_len, look_set', Nat.add_assoc, hi0, hwi, hwn, hsh, han, k1, k2, k3, k4, k5, k6, q1, q2, q3, q4, q5, q6, p1, p2', p2'', l1, l2, hLb, r0, h41, h42, htk]
        have hadd : addBit p n false = p ++ [0] := by simp [addBit, h8]
        rw [hadd] at hlen ⊢
        refine ⟨_, nx + (h.new.length + 1), e, ⟨hlt, hne, hlen, hs, ?_, .inr ⟨by omega, ?_, ?_, .inr ?_, ?_, ?_⟩⟩, by simp [upd_lt _ _ _ _ hlt, findU_set]⟩
        · exact UZ.objW hlt hne (UZ.objW hlt hne (UZ.push (UZ.objP hne p3 (UZ.push g.uz _) none (.inl rfl)) _) _) _
        all_goals simp [look_push, push_len, setObj_len, look_set', Nat.add_assoc, k1, k2, k3, k4, k5, k6, q1, q2, q3, q4, q5, q6, p1, p2', p2'', l1, l2, hLb, byt]
        all_goals try omega
      · have hget : (byt p ++ [.int .u8 0])[p.length]? = some (.int .u8 0) := by rw [List.getElem?_append_right (by rw [byt_len]; omega), byt_len, Nat.sub_self]; rfl
        have hspl : List.take p.length (byt p ++ [.int .u8 0]) ++ .int .u8 128 :: List.drop (p.length + 1) (byt p ++ [.int .u8 0]) = byt (p ++ [128]) := by
          rw [List.take_left' (byt_len p), List.drop_of_length_le (by simp [byt_len]), byt_app]; rfl
        have e := Eq.refl (runCS ⟨Ω, noG, H, nx⟩ N ir136_0 ⟨[(0, .ref wid 0), (1, .int .u64 x), (6, .int .i64 i)], h⟩)
        rw [hb] at han hlen
        conv at e =>
          rhs
          simp [ir136_0, ssB, List.idxOf?_cons, Go.Sx.LV.undef, Go.undef, callO_A, aft_nil, aft_one, Go.Sx.splice, Go.Sx.finish, Go.Sx.setAll, Go.Sx.appO, Go.Sx.leI_eq, ltF, look_push, push_len, setObj_len, look_set', Nat.add_assoc, hi0, hwi, hwn, hsh, han, k1, k2, k3, k4, k5, k6, q1, q2, q3, q4, q5, q6, p1, p2', p2'', l1, l2, hLb, r0, h41, h42, htk, hq8', htop0, hor0, hget, hspl]
        have hadd : addBit p n true = p ++ [128] := by
          simp [addBit, h8, ← hL8]
        rw [hadd] at hlen ⊢
        refine ⟨_, nx + (h.new.length + 1), e, ⟨hlt, hne, hlen, hs, ?_, .inr ⟨by omega, ?_, ?_, .inr ?_, ?_, ?_⟩⟩, by simp [upd_lt _ _ _ _ hlt, findU_set]⟩
        · exact UZ.objW hlt hne (UZ.objP hne (.inr (by omega)) (UZ.objW hlt hne (UZ.push (UZ.objP hne p3 (UZ.push g.uz _) none (.inl rfl)) _) _) _ (.inr ⟨p ++ [128], by rw [List.drop_of_length_le (by simp [byt_len]), byt_app]; rfl⟩)) _
        all_goals simp [look_push, push_len, setObj_len, look_set', Nat.add_assoc, k1, k2, k3, k4, k5, k6, q1, q2, q3, q4, q5, q6, p1, p2', p2'', l1, l2, hLb, byt]
        all_goals try omega
    · have hlt8 : n / 8 < p.length := by omega
      have hr0 : ¬ n % 8 = 0 := h8
      have hrem : (((n % 8 : Nat) : Int) == 0) = false := by simp; omega
      obtain ⟨b, hbq⟩ : ∃ b, p[n / 8]? = some b := ⟨p[n / 8], List.getElem?_eq_getElem hlt8⟩
      have hbb : (byt p)[n / 8]? = some (.int .u8 b.toNat) := by simp [byt, hbq]
      have hbb2 : ∀ h : n / 8 < (byt p).length, (byt p)[n / 8] = .int .u8 b.toNat := fun h => (List.getElem?_eq_some_iff.1 hbb).2
      have hor := or_u8 b (UInt8.ofNat (128 >>> (n % 8)))
      have hset : List.take (n / 8) (byt p) ++ .int .u8 (b ||| UInt8.ofNat (128 >>> (n % 8))).toNat :: List.drop (n / 8 + 1) (byt p) = byt (p.set (n / 8) (b ||| UInt8.ofNat (128 >>> (n % 8)))) := by
        rw [List.set_eq_take_append_cons_drop, if_pos hlt8]
        simp [byt]
      have hsl : (p.set (n / 8) (b ||| UInt8.ofNat (128 >>> (n % 8)))).length = p.length := by simp
      have hgd : p.getD (n / 8) 0 = b := by rw [List.getD, hbq]; rfl
      have hle1 : n / 8 + 1 ≤ p.length := by omega
      have haddt : addBit p n true = p.set (n / 8) (b ||| UInt8.ofNat (128 >>> (n % 8))) := by simp only [addBit, if_neg h8, hgd, if_true]
      have haddf : addBit p n false = p := by simp [addBit, h8]
      generalize UInt8.ofNat (128 >>> (n % 8)) = tb at *
      generalize b ||| tb = z at *
      generalize n % 8 = r at *
      generalize n / 8 = q at *
      cases hb : x.testBit i
      · have e := Eq.refl (runCS ⟨Ω, noG, H, nx⟩ N ir136_0 ⟨[(0, .ref wid 0), (1, .int .u64 x), (6, .int .i64 i)], h⟩)
        rw [hb] at han hlen
        conv at e =>
          rhs
          simp [ir136_0, ssB, List.idxOf?_cons, Go.Sx.LV.undef, Go.undef, callO_A, aft_nil, aft_one, Go.Sx.splice, Go.Sx.finish, Go.Sx.setAll, Go.Sx.appO, Go.Sx.leI_eq, ltF, look_push, push_len, setObj_len, look_set', Nat.add_assoc, hi0, hwi, hwn, hsh, han, k1, k2, k3, k4, k5, k6, q1, q2, q3, q4, q5, q6, p1, p2', p2'', l1, l2, hLb, hr8, hrem, hr0]
        rw [haddf] at hlen ⊢
        refine ⟨_, pid, e, ⟨hlt, hne, hlen, hs, UZ.objW hlt hne g.uz _, .inr ⟨by omega, ?_, p2, p3, ?_, ?_⟩⟩, by simp [upd_lt _ _ _ _ hlt, findU_set]⟩
        all_goals simp [look_push, push_len, setObj_len, look_set', Nat.add_assoc, k1, k2, k3, k4, k5, k6, q1, q2, q3, q4, q5, q6, p1, p2', p2'', l1, l2, hLb, byt_len]
        all_goals try omega
      · have e := Eq.refl (runCS ⟨Ω, noG, H, nx⟩ N ir136_0 ⟨[(0, .ref wid 0), (1, .int .u64 x), (6, .int .i64 i)], h⟩)
        rw [hb] at han hlen
        conv at e =>
          rhs
          simp [ir136_0, ssB, List.idxOf?_cons, Go.Sx.LV.undef, Go.undef, callO_A, aft_nil, aft_one, Go.Sx.splice, Go.Sx.finish, Go.Sx.setAll, Go.Sx.appO, Go.Sx.leI_eq, ltF, look_push, push_len, setObj_len, look_set', Nat.add_assoc, hi0, hwi, hwn, hsh, han, k1, k2, k3, k4, k5, k6, q1, q2, q3, q4, q5, q6, p1, p2', p2'', l1, l2, hLb, hr8, hrem, hr0, hq8, htop, hor, hbb, hbb2, hset, hlt8, hle1]
        rw [haddt] at hlen ⊢
        rw [hsl] at hlen
        refine ⟨_, pid, e, ⟨hlt, hne, by rw [hsl]; exact hlen, hs, ?_, .inr ⟨by omega, ?_, p2, p3, ?_, ?_⟩⟩, by simp [upd_lt _ _ _ _ hlt, findU_set]⟩
        · exact UZ.objW hlt hne (UZ.objP hne p3 g.uz _ (.inr ⟨_, rfl⟩)) _
        all_goals simp [look_push, push_len, setObj_len, look_set', Nat.add_assoc, k1, k2, k3, k4, k5, k6, q1, q2, q3, q4, q5, q6, p1, p2', p2'', l1, l2, hLb, byt_len, hsl]
        all_goals try omega

theorem put_end (N : Nat) (x : LV) (wr : LV) : runCS ⟨Ω, noG, H, nx⟩ N ir136_0 ⟨[(0, wr), (1, x), (6, .int .i64 (-1))], h⟩ = some (.exit 0, ⟨[(0, wr), (1, x), (6, .int .i64 (-1)), (13, .bool false)], h⟩) := by
  simp [ir136_0, ssB, List.idxOf?_cons, Go.Sx.LV.undef, Go.undef, callO_A, aft_nil, aft_one, Go.Sx.splice, Go.Sx.finish, Go.Sx.setAll, Go.Sx.appO, Go.Sx.leI_eq, ltF]
end bit
theorem put_loop {H : Heap} {nx wid pid0 : Nat} (N : Nat) (x : Nat) : ∀ (k q pid n : Nat) (h : Hp) (p : List UInt8), k ≤ 64 → k < q → n + k < 2 ^ 30 → WrH H nx h wid pid0 pid p n → ∃ h' pid',
    iter (runCS ⟨Ω, noG, H, nx⟩ N ir136_0) q ⟨[(0, .ref wid 0), (1, .int .u64 x), (6, .int .i64 ((k : Int) - 1))], h⟩ = some (.exit 0, ⟨[(0, .ref wid 0), (1, .int .u64 x), (6, .int .i64 (-1)), (13, .bool false)], h'⟩) ∧
    WrH H nx h' wid pid0 pid' (addBits p n (bitsOf x k)) (n + k) ∧ (0 < k → (findU h'.upd wid).isSome = true) ∧ (k = 0 → h' = h) := by
  intro k
  induction k with
  | zero =>
    intro q pid n h p _ hq _ g
    obtain ⟨q, rfl⟩ : ∃ r, q = r + 1 := ⟨q - 1, by omega⟩
    exact ⟨h, pid, iter_out (put_end N _ _) (by simp), g, fun h => absurd h (Nat.lt_irrefl 0), fun _ => rfl⟩
  | succ k ih =>
    intro q pid n h p hk hq hn g
    obtain ⟨q, rfl⟩ : ∃ r, q = r + 1 := ⟨q - 1, by omega⟩
    obtain ⟨h1, pid1, e1, g1, f1⟩ := bit_ N g (by omega) x k (by omega)
    have e0 : ((k + 1 : Nat) : Int) - 1 = k := by omega
    rw [e0, iter_step e1]
    obtain ⟨h2, pid2, e2, g2, f2, f3⟩ := ih q pid1 (n + 1) h1 _ (by omega) (by omega) (by omega) g1
    refine ⟨h2, pid2, e2, ?_, fun _ => ?_, fun h => by omega⟩
    · rw [bitsOf, addBits, show n + (k + 1) = n + 1 + k by omega]
      exact g2
    · by_cases hk0 : k = 0
      · rw [f3 hk0]; exact f1
      · exact f2 (by omega)

/-- What a call that writes has updated. -/
inductive UForm (wid pid nx : Nat) : Upd → Prop where
  | f1 (X : Option Go.Sx.Obj) : UForm wid pid nx [(wid, X)]
  | f2 (X Z : Option Go.Sx.Obj) (h : pid < nx) (hz : Z = none ∨ ∃ l, Z = some (.cells (byt l))) : UForm wid pid nx [(pid, Z), (wid, X)]
  | f3 (X Z : Option Go.Sx.Obj) (h : pid < nx) (hz : Z = none ∨ ∃ l, Z = some (.cells (byt l))) : UForm wid pid nx [(wid, X), (pid, Z)]
/-- What a call that writes leaves. -/
structure Post (H : Heap) (nx wid pid n : Nat) (u : Upd) (m : List (Option Go.Sx.Obj)) (pid' : Nat) (p' : List UInt8) (n' : Nat) : Prop where
  form : UForm wid (if n = 0 then nx + wid + 1 else pid) nx u
  keys : ∀ id o, findU u id = some o → id < nx
  wr : Wr (Go.Sx.look H nx ⟨u, m⟩) (nx + m.length) wid pid' p' n'
  pp : (0 < n ∧ pid' = pid) ∨ nx ≤ pid'
  frame : ∀ id, id < nx → id ≠ wid → (n = 0 ∨ id ≠ pid) → Go.Sx.look H nx ⟨u, m⟩ id = H id

theorem keys1 {nx a : Nat} {X : Option Go.Sx.Obj} (h : a < nx) : ∀ id o, findU [(a, X)] id = some o → id < nx := fun id o hf => by
  simp only [findU] at hf
  split at hf
  · rename_i e; rw [e]; exact h
  · cases hf
theorem keys2 {nx a b : Nat} {X Y : Option Go.Sx.Obj} (h : a < nx) (h' : b < nx) : ∀ id o, findU [(a, X), (b, Y)] id = some o → id < nx := fun id o hf => by
  simp only [findU] at hf
  split at hf
  · rename_i e; rw [e]; exact h
  · split at hf
    · rename_i e; rw [e]; exact h'
    · cases hf
theorem fin_wr {H : Heap} {nx wid pid0 pid : Nat} {h : Hp} {p : List UInt8} {n : Nat} (own : Bool) (g : WrH H nx h wid pid0 pid p n) (hn : 0 < n) (hw : (findU h.upd wid).isSome = true) :
    ∃ u m pid', finish own H nx (.tuple []) h = some (.tuple [], u, m) ∧ UForm wid pid0 nx u ∧ (∀ id o, findU u id = some o → id < nx) ∧ Wr (Go.Sx.look H nx ⟨u, m⟩) (nx + m.length) wid pid' p n ∧ ((pid < nx ∧ pid' = pid) ∨ (nx ≤ pid ∧ pid' = nx)) ∧
      (∀ id, id < nx → id ≠ wid → id ≠ pid0 → Go.Sx.look H nx ⟨u, m⟩ id = H id) := by
  have hlt := g.lt
  have hne := g.ne0
  have hne' : ¬ wid = pid0 := fun e => hne e.symm
  obtain ⟨uf, zz, kk⟩ := g.uz
  rcases g.at' with ⟨h0, _⟩ | ⟨_, p1, p2, p3, l1, l2⟩
  · omega
  have hup : ∀ X, findU h.upd wid = some X → X = some (.cells [.arr pid 0 p.length 1 p.length false, .int .i64 n]) := fun X hX => by
    have := l1
    simp only [Go.Sx.look, if_pos hlt, hX] at this
    exact this
  have hpw : ¬ wid = pid := fun e => p2 e.symm
  obtain ⟨ud, nw⟩ := h
  simp only at uf zz kk hw hup
  by_cases hp : pid < nx
  · have hp0 : pid = pid0 := by
      rcases p3 with h | h
      · exact h
      · omega
    have l2' : findU ud pid = some (some (.cells (byt p))) ∨ (findU ud pid = none ∧ H pid = some (.cells (byt p))) := by
      simp only [Go.Sx.look, if_pos hp] at l2
      cases hf : findU ud pid with
      | none => rw [hf] at l2; exact .inr ⟨rfl, l2⟩
      | some o => rw [hf] at l2; exact .inl (by rw [← l2])
    cases uf with
    | u0 => simp [findU] at hw
    | u4 Z => simp [findU, hne'] at hw
    | u1 X =>
      obtain rfl := hup X (by simp [findU])
      refine ⟨[(wid, some (.cells [.arr pid 0 p.length 1 p.length false, .int .i64 n]))], [], pid, by cases own <;> simp [ssB, List.idxOf?_cons, Go.Sx.LV.undef, Go.undef, Go.Sx.callO, Go.Sx.splice, Go.Sx.finish, Go.Sx.push, Go.Sx.setObj, Go.Sx.setU, Go.Sx.setAll, Go.Sx.appO, Go.Sx.leI_eq, ltF, hp], .f1 _, kk, ⟨by simp; omega, g.len, g.small, .inr ⟨hn, by simp; exact hp, p2, by simp [Go.Sx.look, findU, hlt], ?_⟩⟩, .inl ⟨hp, rfl⟩, fun id h1 h2 h3 => by simp [Go.Sx.look, findU, h1, h2]⟩
      simp only [findU, if_neg p2] at l2'
      have l3 : H pid = some (.cells (byt p)) := by simpa using l2'
      simp [Go.Sx.look, findU, hp, p2, l3]
    | u2 X Z =>
      subst hp0
      obtain rfl := hup X (by simp [findU, hne'])
      have hZ : Z = some (.cells (byt p)) := by simpa [findU] using l2'
      subst hZ
      refine ⟨[(pid, some (.cells (byt p))), (wid, some (.cells [.arr pid 0 p.length 1 p.length false, .int .i64 n]))], [], pid, by cases own <;> simp [ssB, List.idxOf?_cons, Go.Sx.LV.undef, Go.undef, Go.Sx.callO, Go.Sx.splice, Go.Sx.finish, Go.Sx.push, Go.Sx.setObj, Go.Sx.setU, Go.Sx.setAll, Go.Sx.appO, Go.Sx.leI_eq, ltF, hp, byt_len, bytP_len, take_byt, ids_byt, ren_byt, ids_app, ren_app, allP_byt, allP_app], .f2 _ _ hp (.inr ⟨_, rfl⟩), kk, ⟨by simp; omega, g.len, g.small, .inr ⟨hn, by simp; exact hp, p2, by simp [Go.Sx.look, findU, hlt, hpw], by simp [Go.Sx.look, findU, hp]⟩⟩, .inl ⟨hp, rfl⟩, fun id h1 h2 h3 => by simp [Go.Sx.look, findU, h1, h2, h3]⟩
    | u3 X Z =>
      subst hp0
      obtain rfl := hup X (by simp [findU])
      have hZ : Z = some (.cells (byt p)) := by simpa [findU, p2] using l2'
      subst hZ
      refine ⟨[(wid, some (.cells [.arr pid 0 p.length 1 p.length false, .int .i64 n])), (pid, some (.cells (byt p)))], [], pid, by cases own <;> simp [ssB, List.idxOf?_cons, Go.Sx.LV.undef, Go.undef, Go.Sx.callO, Go.Sx.splice, Go.Sx.finish, Go.Sx.push, Go.Sx.setObj, Go.Sx.setU, Go.Sx.setAll, Go.Sx.appO, Go.Sx.leI_eq, ltF, hp, byt_len, bytP_len, take_byt, ids_byt, ren_byt, ids_app, ren_app, allP_byt, allP_app], .f3 _ _ hp (.inr ⟨_, rfl⟩), kk, ⟨by simp; omega, g.len, g.small, .inr ⟨hn, by simp; exact hp, p2, by simp [Go.Sx.look, findU, hlt, hpw], by simp [Go.Sx.look, findU, hp, p2]⟩⟩, .inl ⟨hp, rfl⟩, fun id h1 h2 h3 => by simp [Go.Sx.look, findU, h1, h2, h3]⟩
  · have hge : nx ≤ pid := by omega
    have hnn : ¬ nx < nx := by omega
    have hxw : ¬ nx = wid := by omega
    have hwx : ¬ wid = nx := by omega
    cases uf with
    | u0 => simp [findU] at hw
    | u4 Z => simp [findU, hne'] at hw
    | u1 X =>
      obtain rfl := hup X (by simp [findU])
      refine ⟨[(wid, some (.cells [.arr nx 0 p.length 1 p.length false, .int .i64 n]))], [some (.cells (byt p))], nx, by cases own <;> simp [ssB, List.idxOf?_cons, Go.Sx.LV.undef, Go.undef, Go.Sx.callO, Go.Sx.splice, Go.Sx.finish, Go.Sx.push, Go.Sx.setObj, Go.Sx.setU, Go.Sx.setAll, Go.Sx.appO, Go.Sx.leI_eq, ltF, hp, l2, hlt, byt_len, bytP_len, take_byt, ids_byt, ren_byt, ids_app, ren_app, allP_byt, allP_app], .f1 _, keys1 hlt, ⟨by simp; omega, g.len, g.small, .inr ⟨hn, by simp, hxw, by simp [Go.Sx.look, findU, hlt], by simp [Go.Sx.look]⟩⟩, .inr ⟨hge, rfl⟩, fun id h1 h2 h3 => by simp [Go.Sx.look, findU, h1, h2]⟩
    | u2 X Z =>
      obtain rfl := hup X (by simp [findU, hne'])
      have h0 : pid0 < nx := kk pid0 Z (by simp [findU])
      have h0x : ¬ nx = pid0 := by omega
      refine ⟨[(pid0, Z), (wid, some (.cells [.arr nx 0 p.length 1 p.length false, .int .i64 n]))], [some (.cells (byt p))], nx, ?_, .f2 _ _ h0 (zz Z (by simp [findU])), keys2 h0 hlt, ⟨by simp; omega, g.len, g.small, .inr ⟨hn, by simp, hxw, by simp [Go.Sx.look, findU, hlt, hne'], by simp [Go.Sx.look]⟩⟩, .inr ⟨hge, rfl⟩, fun id h1 h2 h3 => by simp [Go.Sx.look, findU, h1, h2, h3]⟩
      rcases zz Z (by simp [findU]) with rfl | ⟨l, rfl⟩ <;> cases own <;> simp [ssB, List.idxOf?_cons, Go.Sx.LV.undef, Go.undef, Go.Sx.callO, Go.Sx.splice, Go.Sx.finish, Go.Sx.push, Go.Sx.setObj, Go.Sx.setU, Go.Sx.setAll, Go.Sx.appO, Go.Sx.leI_eq, ltF, hp, l2, hlt, h0, byt_len, bytP_len, take_byt, ids_byt, ren_byt, ids_app, ren_app, allP_byt, allP_app]
    | u3 X Z =>
      obtain rfl := hup X (by simp [findU])
      have h0 : pid0 < nx := kk pid0 Z (by simp [findU, hne])
      have h0x : ¬ nx = pid0 := by omega
      refine ⟨[(wid, some (.cells [.arr nx 0 p.length 1 p.length false, .int .i64 n])), (pid0, Z)], [some (.cells (byt p))], nx, ?_, .f3 _ _ h0 (zz Z (by simp [findU, hne])), keys2 hlt h0, ⟨by simp; omega, g.len, g.small, .inr ⟨hn, by simp, hxw, by simp [Go.Sx.look, findU, hlt], by simp [Go.Sx.look]⟩⟩, .inr ⟨hge, rfl⟩, fun id h1 h2 h3 => by simp [Go.Sx.look, findU, h1, h2, h3]⟩
      rcases zz Z (by simp [findU, hne]) with rfl | ⟨l, rfl⟩ <;> cases own <;> simp [ssB, List.idxOf?_cons, Go.Sx.LV.undef, Go.undef, Go.Sx.callO, Go.Sx.splice, Go.Sx.finish, Go.Sx.push, Go.Sx.setObj, Go.Sx.setU, Go.Sx.setAll, Go.Sx.appO, Go.Sx.leI_eq, ltF, hp, l2, hlt, h0, byt_len, bytP_len, take_byt, ids_byt, ren_byt, ids_app, ren_app, allP_byt, allP_app]
end put
end Go.Proofs.YtppeggedcaabkaaGreatDoor
end

section
namespace Go.Proofs.YtppeggedcaabkaaGreatDoor
open Go Go.Sx
set_option linter.unusedSimpArgs false
set_option linter.unusedVariables false

theorem uz0 (nx wid pid0 : Nat) : UZ nx wid pid0 ⟨[], []⟩ := ⟨.u0, fun o h => by simp [findU] at h, fun id o h => by simp [findU] at h⟩
theorem Wr.toH {H : Heap} {nx wid pid : Nat} {p : List UInt8} {n : Nat} (g : Wr H nx wid pid p n) : ∃ pid0, WrH H nx ⟨[], []⟩ wid pid0 pid0 p n ∧ ((0 < n ∧ pid0 = pid) ∨ (n = 0 ∧ pid0 = nx + wid + 1)) := by
  have hlt := g.lt
  rcases g.at' with ⟨h0, h1⟩ | ⟨h0, h1, h2, h3, h4⟩
  · refine ⟨nx + wid + 1, ⟨hlt, by omega, g.len, g.small, uz0 nx wid _, .inl ⟨h0, by simp [Go.Sx.look, findU, hlt, h1]⟩⟩,   .inr ⟨h0, rfl⟩⟩
  · exact ⟨pid, ⟨hlt, h2, g.len, g.small, uz0 nx wid _, .inr ⟨h0, by simp; omega, h2, .inl rfl, by simp [Go.Sx.look, findU, hlt, h3], by simp [Go.Sx.look, findU, h1, h4]⟩⟩, .inl ⟨h0, rfl⟩⟩

theorem post_of {H : Heap} {nx wid pid pid0 pid1 : Nat} {h : Hp} {p' : List UInt8} {n n' : Nat} (own : Bool) (h0 : (0 < n ∧ pid0 = pid) ∨ (n = 0 ∧ pid0 = nx + wid + 1)) (g : WrH H nx h wid pid0 pid1 p' n') (hn : 0 < n') (hw : (findU h.upd wid).isSome = true) (hp : pid1 = pid0 ∨ nx ≤ pid1) :
    ∃ u m pid', finish own H nx (.tuple []) h = some (.tuple [], u, m) ∧ Post H nx wid pid n u m pid' p' n' := by
  obtain ⟨u, m, pid', e1, e0, e2, e3, e4, e5⟩ := fin_wr own g hn hw
  have hp0 : pid0 = if n = 0 then nx + wid + 1 else pid := by
    rcases h0 with ⟨c, d⟩ | ⟨c, d⟩
    · rw [if_neg (by omega), d]
    · rw [if_pos c, d]
  refine ⟨u, m, pid', e1, ⟨hp0 ▸ e0, e2, e3, ?_, ?_⟩⟩
  · rcases e4 with ⟨a, b⟩ | ⟨a, b⟩
    · rcases hp with rfl | hp
      · rcases h0 with ⟨c, d⟩ | ⟨c, d⟩
        · exact .inl ⟨c, by rw [b, d]⟩
        · omega
      · omega
    · exact .inr (by omega)
  · intro id h1 h2 h3
    refine e5 id h1 h2 ?_
    rcases h0 with ⟨c, d⟩ | ⟨c, d⟩
    · rcases h3 with h3 | h3
      · omega
      · rw [d]; exact h3
    · omega

theorem put_ {H : Heap} {nx wid pid : Nat} {p : List UInt8} {n : Nat} (g : Wr H nx wid pid p n) (x k : Nat) (hk0 : 0 < k) (hk : k ≤ 64) (hn : n + k < 2 ^ 30) :
    ∃ u m pid', Ω 136 [.ref wid 0, .int .u64 x, .int .i64 k] H nx = some (.tuple [], u, m) ∧ Post H nx wid pid n u m pid' (addBits p n (bitsOf x k)) (n + k) := by
  obtain ⟨pid0, g0, h0⟩ := g.toH
  obtain ⟨h', pid1, e1, g1, f1, f2⟩ := put_loop (k + 1) x k (k + 1) pid0 n ⟨[], []⟩ p hk (by omega) hn g0
  have hp1 : pid1 = pid0 ∨ nx ≤ pid1 := by
    rcases g1.at' with ⟨a, _⟩ | ⟨_, _, _, a, _⟩
    · omega
    · exact a
  obtain ⟨u, m, pid', e2, e3⟩ := post_of true h0 g1 (by omega) (f1 hk0) hp1
  refine ⟨u, m, pid', ?_, e3⟩
  refine om_run (ir := ir136) (by kernel_rfl) (k + 1) ?_
  have hw := within_ k hk
  have hwi : IntKind.i64.wrap ((k : Int) - 1) = (k : Int) - 1 := wrap_i64 _ (by omega) (by omega)
  simp [ir136, ssB, List.idxOf?_cons, Go.Sx.LV.undef, Go.undef, callO_A, aft_nil, setAll_nil, Go.Sx.splice, Go.Sx.appO, Go.Sx.leI_eq, ltF, hw, hwi, e1, e2]

/-- Within a call: a writer, and what has been updated. -/
structure At (H : Heap) (nx : Nat) (h : Hp) (wid P pid : Nat) (p : List UInt8) (n : Nat) : Prop where
  wr : Wr (Go.Sx.look H nx h) (nx + h.new.length) wid pid p n
  lt : wid < nx
  ne : P ≠ wid
  pp : n = 0 ∨ pid = P ∨ nx ≤ pid
  uz : UZ nx wid P h

theorem UZ.all {nx wid P pid B : Nat} {h : Hp} {u : Upd} (hlt : wid < nx) (hne : P ≠ wid) (g : UZ nx wid P h) (hp : pid = P ∨ nx ≤ pid) (hu : UForm wid pid B u) : UZ nx wid P (setAll nx h u) ∧ (findU (setAll nx h u).upd wid).isSome = true := by
  cases hu with
  | f1 X => exact ⟨g.objW hlt hne X, by simp [setAll, upd_lt _ _ _ _ hlt, findU_set]⟩
  | f2 X Z h1 hz =>
    refine ⟨UZ.objP hne hp (g.objW hlt hne X) Z hz, ?_⟩
    simp only [setAll]
    by_cases hp2 : pid < nx
    · rw [upd_lt _ _ _ _ hp2, findU_set, upd_lt _ _ _ _ hlt]
      split
      · rfl
      · simp [findU_set]
    · rw [setObj_upd _ _ _ _ hp2, upd_lt _ _ _ _ hlt, findU_set]; simp
  | f3 X Z h1 hz =>
    refine ⟨UZ.objW hlt hne (UZ.objP hne hp g Z hz) X, ?_⟩
    simp [setAll, upd_lt _ _ _ _ hlt, findU_set]

theorem At.put {H : Heap} {nx wid P pid n : Nat} {h : Hp} {p : List UInt8} (g : At H nx h wid P pid p n) (x k : Nat) (hk0 : 0 < k) (hk : k ≤ 64) (hn : n + k < 2 ^ 30) :
    ∃ u m pid', Ω 136 [.ref wid 0, .int .u64 x, .int .i64 k] (Go.Sx.look H nx h) (nx + h.new.length) = some (.tuple [], u, m) ∧ At H nx (aft nx h u m) wid P pid' (addBits p n (bitsOf x k)) (n + k) ∧
      (∀ id, id < nx + h.new.length → id ≠ wid → (n = 0 ∨ id ≠ pid) → Go.Sx.look H nx (aft nx h u m) id = Go.Sx.look H nx h id) ∧ h.new.length ≤ (aft nx h u m).new.length ∧ (findU (aft nx h u m).upd wid).isSome = true ∧ (pid' = pid ∨ nx + h.new.length ≤ pid') := by
  obtain ⟨u, m, pid', e1, e2⟩ := put_ g.wr x k hk0 hk hn
  have hlook : ∀ id, Go.Sx.look H nx (aft nx h u m) id = Go.Sx.look (Go.Sx.look H nx h) (nx + h.new.length) ⟨u, m⟩ id := fun id => look_call e2.keys id
  have hlen : (aft nx h u m).new.length = h.new.length + m.length := by simp [aft, setAll_len]
  have hfun : Go.Sx.look H nx (aft nx h u m) = Go.Sx.look (Go.Sx.look H nx h) (nx + h.new.length) ⟨u, m⟩ := funext hlook
  have hupd : (aft nx h u m).upd = (setAll nx h u).upd := rfl
  have hal := UZ.all g.lt g.ne g.uz (pid := if n = 0 then nx + h.new.length + wid + 1 else pid) (by
    by_cases h0 : n = 0
    · rw [if_pos h0]; exact .inr (by omega)
    · rw [if_neg h0]; exact g.pp.resolve_left h0) e2.form
  have hpp : pid' = pid ∨ nx + h.new.length ≤ pid' := by
    rcases e2.pp with ⟨a, b⟩ | b
    · exact .inl b
    · exact .inr b
  refine ⟨u, m, pid', e1, ⟨?_, g.lt, g.ne, ?_, ⟨hal.1.uf, hal.1.zz, hal.1.kk⟩⟩, fun id h1 h2 h3 => by rw [hlook]; exact e2.frame id h1 h2 h3, by omega, hal.2, hpp⟩
  · rw [hfun, hlen, ← Nat.add_assoc]
    exact e2.wr
  · rcases e2.pp with ⟨a, b⟩ | b
    · rw [b]
      rcases g.pp with h | h
      · omega
      · exact .inr h
    · exact .inr (.inr (by omega))
end Go.Proofs.YtppeggedcaabkaaGreatDoor
end

section
namespace Go.Proofs.YtppeggedcaabkaaGreatDoor
open Go Go.Sx
set_option linter.unusedSimpArgs false
set_option linter.unusedVariables false

/-- A number in few bits. -/
def numBits (v b : Nat) : Nat → List Bool
  | 0 => false :: bitsOf v b
  | f + 1 => if 0 < v >>> b then true :: numBits (v - 2 ^ b) (b + 1) f else false :: bitsOf v b

theorem At.init {H : Heap} {nx wid pid : Nat} {p : List UInt8} {n : Nat} (g : Wr H nx wid pid p n) : At H nx ⟨[], []⟩ wid (if n = 0 then nx + wid + 1 else pid) pid p n := by
  have hlt := g.lt
  have hl : ∀ id, id < nx → Go.Sx.look H nx ⟨[], []⟩ id = H id := fun id h => by simp [Go.Sx.look, findU, h]
  refine ⟨⟨by simp; omega, g.len, g.small, ?_⟩, hlt, ?_, ?_, uz0 nx wid _⟩
  · rcases g.at' with ⟨h0, h1⟩ | ⟨h0, h1, h2, h3, h4⟩
    · exact .inl ⟨h0, by rw [hl _ hlt]; exact h1⟩
    · exact .inr ⟨h0, by simp; exact h1, h2, by rw [hl _ hlt]; exact h3, by rw [hl _ h1]; exact h4⟩
  · split
    · omega
    · rcases g.at' with ⟨h0, h1⟩ | ⟨h0, h1, h2, h3, h4⟩
      · omega
      · exact h2
  · by_cases h0 : n = 0
    · exact .inl h0
    · rw [if_neg h0]; exact .inr (.inl rfl)

theorem At.post {H : Heap} {nx wid pid0 pid n0 n : Nat} {h : Hp} {p : List UInt8} (own : Bool) (g : At H nx h wid (if n0 = 0 then nx + wid + 1 else pid0) pid p n) (hn : 0 < n) (hw : (findU h.upd wid).isSome = true) :
    ∃ u m pid', finish own H nx (.tuple []) h = some (.tuple [], u, m) ∧ Post H nx wid pid0 n0 u m pid' p n := by
  have hp : pid = (if n0 = 0 then nx + wid + 1 else pid0) ∨ nx ≤ pid := g.pp.resolve_left (by omega)
  have hW : WrH H nx h wid (if n0 = 0 then nx + wid + 1 else pid0) pid p n := by
    refine ⟨g.lt, g.ne, g.wr.len, g.wr.small, g.uz, ?_⟩
    rcases g.wr.at' with ⟨h0, h1⟩ | ⟨h0, h1, h2, h3, h4⟩
    · omega
    · exact .inr ⟨h0, h1, h2, hp, h3, h4⟩
  refine post_of own ?_ hW hn hw hp
  by_cases h0 : n0 = 0
  · exact .inr ⟨h0, by rw [if_pos h0]⟩
  · exact .inl ⟨by omega, by rw [if_neg h0]⟩

section num
variable {H : Heap} {nx wid P pid n : Nat} {h : Hp} {p : List UInt8}
theorem numw_step (N : Nat) (g : At H nx h wid P pid p n) (v b : Nat) (hb : b < 64) (hv : v < 2 ^ 64) (hvb : 0 < v >>> b) (hn : n + 1 < 2 ^ 30) : ∃ h' pid',
    runCS ⟨Ω, noG, H, nx⟩ N ir137_0 ⟨[(0, .ref wid 0), (1, .int .u64 v), (4, .int .i64 b)], h⟩ = some (.normal, ⟨[(0, .ref wid 0), (1, .int .u64 (v - 2 ^ b : Nat)), (4, .int .i64 (b + 1 : Nat))], h'⟩) ∧
    At H nx h' wid P pid' (addBits p n [true]) (n + 1) := by
  obtain ⟨u, m, pid', e1, e2, _⟩ := g.put 1 1 (by decide) (by decide) hn
  have c1 : ((1 : Nat) : Int) = 1 := rfl
  rw [c1] at e1
  refine ⟨_, pid', ?_, e2⟩
  have hb64 : ¬ (64 : Int) ≤ b := by omega
  have hsh := shr_u64 v b (by omega)
  have hs0 : ¬ ((v >>> b : Nat) : Int) ≤ 0 := by omega
  have hshl := shl_u64' 1 b (by omega)
  have h2b : (2 : Nat) ^ b ≤ v := by
    rw [Nat.shiftRight_eq_div_pow] at hvb
    have h2 : 0 < (2 : Nat) ^ b := Nat.pow_pos (by decide)
    have := (Nat.div_pos_iff).1 hvb
    omega
  have h2b64 : (2 : Nat) ^ b < 2 ^ 64 := by omega
  have hpw : (1 * 2 ^ b % 2 ^ 64 : Nat) = 2 ^ b := by rw [Nat.one_mul, Nat.mod_eq_of_lt h2b64]
  rw [hpw, c1] at hshl
  have hw : IntKind.u64.wrap ((v : Int) - ((2 ^ b : Nat) : Int)) = ((v - 2 ^ b : Nat) : Int) := by rw [wrap_u64' _ (by omega) (by omega)]; omega
  have hw2 : IntKind.i64.wrap ((b : Int) + 1) = (b : Int) + 1 := wrap_i64 _ (by omega) (by omega)
  generalize v >>> b = s at *
  generalize v - 2 ^ b = w at *
  generalize 2 ^ b = t at *
  have hs00 : ¬ s = 0 := by omega
  simp [ir137_0, ssB, List.idxOf?_cons, Go.Sx.LV.undef, Go.undef, callO_A, aft_nil, setAll_nil, Go.Sx.splice, Go.Sx.appO, Go.Sx.leI_eq, ltF, hb64, hsh, hs0, hs00, e1, hshl, hw, hw2]
theorem numw_out (N : Nat) (v b : Nat) (hb : b ≤ 64) (hvb : b = 64 ∨ v >>> b = 0) (x : LV) :
    ∃ c, runCS ⟨Ω, noG, H, nx⟩ N ir137_0 ⟨[(0, x), (1, .int .u64 v), (4, .int .i64 b)], h⟩ = some (.exit 0, ⟨[(0, x), (1, .int .u64 v), (4, .int .i64 b), (12, c)], h⟩) := by
  refine ⟨.bool false, ?_⟩
  by_cases h64 : b = 64
  · subst h64
    have c1 : ((64 : Nat) : Int) = 64 := rfl
    simp [ir137_0, ssB, List.idxOf?_cons, Go.Sx.LV.undef, Go.undef, callO_A, aft_nil, setAll_nil, Go.Sx.splice, Go.Sx.appO, Go.Sx.leI_eq, ltF, c1]
  · have hb64 : ¬ (64 : Int) ≤ b := by omega
    have hsh := shr_u64 v b hb
    rw [hvb.resolve_left h64] at hsh
    have c0 : ((0 : Nat) : Int) = 0 := rfl
    rw [c0] at hsh
    simp [ir137_0, ssB, List.idxOf?_cons, Go.Sx.LV.undef, Go.undef, callO_A, aft_nil, setAll_nil, Go.Sx.splice, Go.Sx.appO, Go.Sx.leI_eq, ltF, hb64, hsh]
end num
theorem numBits_len (f : Nat) : ∀ (v b : Nat), (numBits v b f).length ≤ 1 + b + f + f := by
  induction f with
  | zero => intro v b; simp [numBits, bitsOf_len]; omega
  | succ f ih =>
    intro v b
    rw [numBits]
    split
    · have := ih (v - 2 ^ b) (b + 1); simp; omega
    · simp [bitsOf_len]; omega
theorem numw_loop {H : Heap} {nx wid P : Nat} (N : Nat) : ∀ (f q v b pid n : Nat) (h : Hp) (p : List UInt8), b + f = 64 → f < q → v < 2 ^ 64 → n + f < 2 ^ 30 → At H nx h wid P pid p n →
    ∃ h' pid' v' b' c k, iter (runCS ⟨Ω, noG, H, nx⟩ N ir137_0) q ⟨[(0, .ref wid 0), (1, .int .u64 v), (4, .int .i64 b)], h⟩ = some (.exit 0, ⟨[(0, .ref wid 0), (1, .int .u64 (v' : Nat)), (4, .int .i64 (b' : Nat)), (12, c)], h'⟩) ∧
      At H nx h' wid P pid' (addBits p n (List.replicate k true)) (n + k) ∧ numBits v b f = List.replicate k true ++ false :: bitsOf v' b' ∧ b' ≤ 64 ∧ 0 < b' + (if b = 0 then 1 else 0) ∧ v' < 2 ^ 64 ∧ k ≤ f := by
  intro f
  induction f with
  | zero =>
    intro q v b pid n h p hb hq hv hn g
    obtain ⟨q, rfl⟩ : ∃ r, q = r + 1 := ⟨q - 1, by omega⟩
    obtain ⟨c, hc⟩ := numw_out (H := H) (nx := nx) (h := h) N v b (by omega) (.inl (by omega)) (.ref wid 0)
    exact ⟨h, pid, v, b, c, 0, iter_out hc (by simp), g, rfl, by omega, by split <;> omega, hv, Nat.le_refl _⟩
  | succ f ih =>
    intro q v b pid n h p hb hq hv hn g
    obtain ⟨q, rfl⟩ : ∃ r, q = r + 1 := ⟨q - 1, by omega⟩
    by_cases hs : 0 < v >>> b
    · obtain ⟨h1, pid1, e1, g1⟩ := numw_step N g v b (by omega) hv hs (by omega)
      rw [iter_step e1]
      obtain ⟨h', pid', v', b', c, k, e2, g2, e3, e4, e5, e6, e7⟩ := ih q (v - 2 ^ b) (b + 1) pid1 (n + 1) h1 _ (by omega) (by omega) (Nat.lt_of_le_of_lt (Nat.sub_le _ _) hv) (by omega) g1
      refine ⟨h', pid', v', b', c, k + 1, e2, ?_, ?_, e4, ?_, e6, by omega⟩
      · have : addBits p n (List.replicate (k + 1) true) = addBits (addBits p n [true]) (n + 1) (List.replicate k true) := rfl
        rw [this, show n + (k + 1) = n + 1 + k by omega]
        exact g2
      · rw [numBits, if_pos hs, e3]; rfl
      · rw [if_neg (by omega)] at e5; omega
    · obtain ⟨c, hc⟩ := numw_out (H := H) (nx := nx) (h := h) N v b (by omega) (.inr (Nat.eq_zero_of_not_pos hs)) (.ref wid 0)
      exact ⟨h, pid, v, b, c, 0, iter_out hc (by simp), g, by rw [numBits, if_neg hs]; rfl, by omega, by split <;> omega, hv, Nat.zero_le _⟩

theorem numw_ {H : Heap} {nx wid pid : Nat} {p : List UInt8} {n : Nat} (g : Wr H nx wid pid p n) (v : Nat) (hv : v < 2 ^ 64) (hn : n + 200 < 2 ^ 30) :
    ∃ u m pid', Ω 137 [.ref wid 0, .int .u64 v] H nx = some (.tuple [], u, m) ∧ Post H nx wid pid n u m pid' (addBits p n (numBits v 2 62)) (n + (numBits v 2 62).length) := by
  obtain ⟨h1, pid1, v', b', c, k, e1, g1, e3, e4, e5, e6, e7⟩ := numw_loop (N := 63) 62 63 v 2 pid n ⟨[], []⟩ p rfl (by decide) hv (by omega) (At.init g)
  obtain ⟨u2, m2, pid2, f1, g2, _⟩ := g1.put 0 1 (by decide) (by decide) (by omega)
  have hb' : 0 < b' := by simpa using e5
  obtain ⟨u3, m3, pid3, f2, g3, _, _, w3, _⟩ := g2.put v' b' hb' e4 (by omega)
  have hlist : numBits v 2 62 = List.replicate k true ++ bitsOf 0 1 ++ bitsOf v' b' := by rw [e3]; simp [bitsOf]
  have hbits : addBits (addBits (addBits p n (List.replicate k true)) (n + k) (bitsOf 0 1)) (n + k + 1) (bitsOf v' b') = addBits p n (numBits v 2 62) := by
    rw [hlist, addBits_app, addBits_app]
    simp [bitsOf_len, Nat.add_assoc]
  have hlen : n + k + 1 + b' = n + (numBits v 2 62).length := by rw [hlist]; simp [bitsOf_len]; omega
  rw [hbits, hlen] at g3
  obtain ⟨u, m, pid', f3, f4⟩ := g3.post true (pid0 := pid) (n0 := n) (by omega) w3
  refine ⟨u, m, pid', ?_, f4⟩
  have c0 : ((0 : Nat) : Int) = 0 := rfl
  have c1 : ((1 : Nat) : Int) = 1 := rfl
  have c2 : ((2 : Nat) : Int) = 2 := rfl
  rw [c0, c1] at f1
  rw [c2] at e1
  refine om_run (ir := ir137) (by kernel_rfl) 63 ?_
  simp [ir137, ssB, List.idxOf?_cons, Go.Sx.LV.undef, Go.undef, callO_A, aft_nil, setAll_nil, Go.Sx.splice, Go.Sx.appO, Go.Sx.leI_eq, ltF, e1, f1, f2, f3]
end Go.Proofs.YtppeggedcaabkaaGreatDoor
end

section
namespace Go.Proofs.YtppeggedcaabkaaGreatDoor
open Go Go.Sx
set_option linter.unusedSimpArgs false
set_option linter.unusedVariables false

theorem At.call {H : Heap} {nx wid P pid n : Nat} {h : Hp} {p : List UInt8} (g : At H nx h wid P pid p n) {u : Upd} {m : List (Option Go.Sx.Obj)} {pid' n' : Nat} {p' : List UInt8} (e2 : Post (Go.Sx.look H nx h) (nx + h.new.length) wid pid n u m pid' p' n') :
    At H nx (aft nx h u m) wid P pid' p' n' ∧ (∀ id, id < nx + h.new.length → id ≠ wid → (n = 0 ∨ id ≠ pid) → Go.Sx.look H nx (aft nx h u m) id = Go.Sx.look H nx h id) ∧ h.new.length ≤ (aft nx h u m).new.length ∧ (findU (aft nx h u m).upd wid).isSome = true ∧ (pid' = pid ∨ nx + h.new.length ≤ pid') := by
  have hlook : ∀ id, Go.Sx.look H nx (aft nx h u m) id = Go.Sx.look (Go.Sx.look H nx h) (nx + h.new.length) ⟨u, m⟩ id := fun id => look_call e2.keys id
  have hlen : (aft nx h u m).new.length = h.new.length + m.length := by simp [aft, setAll_len]
  have hfun : Go.Sx.look H nx (aft nx h u m) = Go.Sx.look (Go.Sx.look H nx h) (nx + h.new.length) ⟨u, m⟩ := funext hlook
  have hal := UZ.all g.lt g.ne g.uz (pid := if n = 0 then nx + h.new.length + wid + 1 else pid) (by
    by_cases h0 : n = 0
    · rw [if_pos h0]; exact .inr (by omega)
    · rw [if_neg h0]; exact g.pp.resolve_left h0) e2.form
  have hpp : pid' = pid ∨ nx + h.new.length ≤ pid' := by
    rcases e2.pp with ⟨a, b⟩ | b
    · exact .inl b
    · exact .inr b
  refine ⟨⟨?_, g.lt, g.ne, ?_, ⟨hal.1.uf, hal.1.zz, hal.1.kk⟩⟩, fun id h1 h2 h3 => by rw [hlook]; exact e2.frame id h1 h2 h3, by omega, hal.2, hpp⟩
  · rw [hfun, hlen, ← Nat.add_assoc]
    exact e2.wr
  · rcases e2.pp with ⟨a, b⟩ | b
    · rw [b]
      rcases g.pp with h | h
      · omega
      · exact .inr h
    · exact .inr (.inr (by omega))

/-- Within a call that has made some boxes: a writer, what has been updated, and the boxes. -/
structure Wk (H : Heap) (nx : Nat) (h : Hp) (wid P pid : Nat) (p : List UInt8) (n : Nat) (L : List (Option Go.Sx.Obj)) : Prop where
  a : At H nx h wid P pid p n
  k : ∀ (j : Nat) o, L[j]? = some (some o) → Go.Sx.look H nx h (nx + j) = some o
  kl : L.length ≤ h.new.length
  kp : n = 0 ∨ pid < nx ∨ nx + L.length ≤ pid
theorem Wk.init {H : Heap} {nx wid pid : Nat} {p : List UInt8} {n : Nat} (g : Wr H nx wid pid p n) (L : List (Option Go.Sx.Obj)) : Wk H nx ⟨[], L⟩ wid (if n = 0 then nx + wid + 1 else pid) pid p n L := by
  have hlt := g.lt
  have hl : ∀ id, id < nx → Go.Sx.look H nx ⟨[], L⟩ id = H id := fun id h => by simp [Go.Sx.look, findU, h]
  refine ⟨⟨⟨by simp; omega, g.len, g.small, ?_⟩, hlt, ?_, ?_, ⟨.u0, fun o h => by simp [findU] at h, fun id o h => by simp [findU] at h⟩⟩, ?_, Nat.le_refl _, ?_⟩
  · rcases g.at' with ⟨h0, h1⟩ | ⟨h0, h1, h2, h3, h4⟩
    · exact .inl ⟨h0, by rw [hl _ hlt]; exact h1⟩
    · exact .inr ⟨h0, by simp; omega, h2, by rw [hl _ hlt]; exact h3, by rw [hl _ h1]; exact h4⟩
  · split
    · omega
    · rcases g.at' with ⟨h0, h1⟩ | ⟨h0, h1, h2, h3, h4⟩
      · omega
      · exact h2
  · by_cases h0 : n = 0
    · exact .inl h0
    · rw [if_neg h0]; exact .inr (.inl rfl)
  · intro j o hj
    simp [Go.Sx.look, ltF, hj]
  · rcases g.at' with ⟨h0, h1⟩ | ⟨h0, h1, h2, h3, h4⟩
    · exact .inl h0
    · exact .inr (.inl h1)
theorem Wk.call {H : Heap} {nx wid P pid n : Nat} {h : Hp} {p : List UInt8} {L : List (Option Go.Sx.Obj)} (w : Wk H nx h wid P pid p n L) {u : Upd} {m : List (Option Go.Sx.Obj)} {pid' n' : Nat} {p' : List UInt8} (e2 : Post (Go.Sx.look H nx h) (nx + h.new.length) wid pid n u m pid' p' n') :
    Wk H nx (aft nx h u m) wid P pid' p' n' L ∧ (findU (aft nx h u m).upd wid).isSome = true := by
  obtain ⟨a', hf, hlen, hw, _⟩ := w.a.call e2
  have hlt := w.a.lt
  have hkl := w.kl
  refine ⟨⟨a', fun j o hj => ?_, Nat.le_trans w.kl hlen, ?_⟩, hw⟩
  · have hjl := (List.getElem?_eq_some_iff.1 hj).1
    rw [hf (nx + j) (by omega) (by omega) (by rcases w.kp with h | h | h; exact .inl h; exact .inr (by omega); exact .inr (by omega))]
    exact w.k j o hj
  · rcases e2.pp with ⟨h0, rfl⟩ | h0
    · exact .inr (w.kp.resolve_left (by omega))
    · exact .inr (.inr (by omega))
theorem Wk.put {H : Heap} {nx wid P pid n : Nat} {h : Hp} {p : List UInt8} {L : List (Option Go.Sx.Obj)} (w : Wk H nx h wid P pid p n L) (x k : Nat) (hk0 : 0 < k) (hk : k ≤ 64) (hn : n + k < 2 ^ 30) :
    ∃ u m pid', Ω 136 [.ref wid 0, .int .u64 x, .int .i64 k] (Go.Sx.look H nx h) (nx + h.new.length) = some (.tuple [], u, m) ∧ Wk H nx (aft nx h u m) wid P pid' (addBits p n (bitsOf x k)) (n + k) L ∧ (findU (aft nx h u m).upd wid).isSome = true := by
  obtain ⟨u, m, pid', e1, e2⟩ := put_ w.a.wr x k hk0 hk hn
  exact ⟨u, m, pid', e1, w.call e2⟩
theorem Wk.num {H : Heap} {nx wid P pid n : Nat} {h : Hp} {p : List UInt8} {L : List (Option Go.Sx.Obj)} (w : Wk H nx h wid P pid p n L) (v : Nat) (hv : v < 2 ^ 64) (hn : n + 200 < 2 ^ 30) :
    ∃ u m pid', Ω 137 [.ref wid 0, .int .u64 v] (Go.Sx.look H nx h) (nx + h.new.length) = some (.tuple [], u, m) ∧ Wk H nx (aft nx h u m) wid P pid' (addBits p n (numBits v 2 62)) (n + (numBits v 2 62).length) L ∧ (findU (aft nx h u m).upd wid).isSome = true := by
  obtain ⟨u, m, pid', e1, e2⟩ := numw_ w.a.wr v hv hn
  exact ⟨u, m, pid', e1, w.call e2⟩

/- A text's parts. -/
def seqL : IRC → IRC
  | .seq a _ => a
  | x => x
def seqR : IRC → IRC
  | .seq _ b => b
  | x => x

/-- A share's bits. -/
def idBits : Id → List Bool
  | .zero => bitsOf 0 2 ++ bitsOf 0 1
  | .one => bitsOf 0 2 ++ bitsOf 1 1
  | .node l r => if l = .zero then bitsOf 1 2 ++ idBits r else if r = .zero then bitsOf 2 2 ++ idBits l else bitsOf 3 2 ++ idBits l ++ idBits r
theorem idBits_pos (i : Id) : 0 < (idBits i).length := by
  cases i with
  | node l r => unfold idBits; split <;> (try split) <;> simp [bitsOf_len] <;> omega
  | _ => simp [idBits, bitsOf_len]

def pidA : IRC := seqL ir132.body
def pidB : IRC := seqL (seqR ir132.body)
def pidC : IRC := seqR (seqR ir132.body)
theorem pid_parts : ir132.body = .seq pidA (.seq pidB pidC) := rfl
theorem pid_head : ir132.params = [0, 1] ∧ ir132.results = [] ∧ ir132.own = false := ⟨rfl, rfl, rfl⟩
abbrev idC (i : Id) : Option Go.Sx.Obj := some (.cells [.bool i.all, .p i.ptr])
theorem pid_a (i : Id) (x : LV) (H : Heap) (nx n : Nat) : runCS ⟨Ω, noG, H, nx⟩ n pidA ⟨[(0, x), (1, .p i.pv)], ⟨[], []⟩⟩ = some (.normal, ⟨[(0, x), (3, .ref nx 0)], ⟨[], [idC i]⟩⟩) := by
  simp [pidA, seqL, ir132, ssB, List.idxOf?_cons, Go.Sx.LV.undef, Go.undef, Go.Sx.callO, Go.Sx.splice, Go.Sx.finish, Go.Sx.look, Go.Sx.push, Go.Sx.setObj, Go.Sx.setU, Go.Sx.setAll, Go.Sx.appO, Go.Sx.leI_eq, ltF]
theorem pid_b (i : Id) (x : LV) (H : Heap) (nx n : Nat) : runCS ⟨Ω, noG, H, nx⟩ n pidB ⟨[(0, x), (3, .ref nx 0)], ⟨[], [idC i]⟩⟩ = some (.normal, ⟨[(0, x), (3, .ref nx 0), (4, .ref (nx + 1) 0), (5, .ref (nx + 2) 0)], ⟨[], [idC i, idC i.left, idC i.right]⟩⟩) := by
  have l1 := idLeft_ i
  have l2 := idRight_ i
  generalize i.left = l at *
  generalize i.right = r at *
  simp [pidB, seqL, seqR, ir132, ssB, List.idxOf?_cons, Go.Sx.LV.undef, Go.undef, Go.Sx.callO, Go.Sx.splice, Go.Sx.finish, Go.Sx.look, Go.Sx.push, Go.Sx.setObj, Go.Sx.setU, Go.Sx.setAll, Go.Sx.appO, Go.Sx.leI_eq, ltF, l1, l2]

section
variable {H : Heap} {nx wid pid n : Nat} {p : List UInt8}
theorem pid_end {i : Id} {h : Hp} {u : Upd} {m : List (Option Go.Sx.Obj)} {e : List (Nat × LV)} (N : Nat) (H : Heap) (nx : Nat) (h3 : runCS ⟨Ω, noG, H, nx⟩ N pidC ⟨[(0, .ref wid 0), (3, .ref nx 0), (4, .ref (nx + 1) 0), (5, .ref (nx + 2) 0)], ⟨[], [idC i, idC i.left, idC i.right]⟩⟩ = some (.normal, ⟨e, h⟩)) (hf : finish false H nx (.tuple []) h = some (.tuple [], u, m)) :
    Ω 132 [.ref wid 0, .p i.pv] H nx = some (.tuple [], u, m) := by
  refine om_run (ir := ir132) (by kernel_rfl) N ?_
  have hr : ir132 = ⟨[0, 1], .seq pidA (.seq pidB pidC), [], false⟩ := rfl
  rw [hr]
  have a := pid_a i (.ref wid 0) H nx N
  have b := pid_b i (.ref wid 0) H nx N
  generalize pidA = A at *
  generalize pidB = B at *
  generalize pidC = C at *
  simp [ssB, List.idxOf?_cons, Go.Sx.LV.undef, Go.undef, callO_A, aft_nil, setAll_nil, Go.Sx.splice, Go.Sx.appO, Go.Sx.leI_eq, ltF, a, b, h3, hf]

theorem putID_leaf (i : Id) (x : Nat) (hx : (i = .zero ∧ x = 0) ∨ (i = .one ∧ x = 1)) (g : Wr H nx wid pid p n) (hn : n + 3 < 2 ^ 30) :
    ∃ u m pid', Ω 132 [.ref wid 0, .p i.pv] H nx = some (.tuple [], u, m) ∧ Post H nx wid pid n u m pid' (addBits p n (bitsOf 0 2 ++ bitsOf x 1)) (n + 3) := by
  have a0 := Wk.init g [idC i, idC i.left, idC i.right]
  obtain ⟨u1, m1, q1, f1, a1, _⟩ := a0.put 0 2 (by decide) (by decide) (by omega)
  obtain ⟨u2, m2, q2, f2, a2, w2⟩ := a1.put x 1 (by decide) (by decide) (by omega)
  have hb : addBits (addBits p n (bitsOf 0 2)) (n + 2) (bitsOf x 1) = addBits p n (bitsOf 0 2 ++ bitsOf x 1) := by rw [addBits_app, bitsOf_len]
  rw [hb] at a2
  obtain ⟨u, m, q, f3, f4⟩ := a2.a.post false (pid0 := pid) (n0 := n) (by omega) w2
  refine ⟨u, m, q, pid_end (e := []) 1 H nx ?_ f3, f4⟩
  have z1 := idIsZero_ i
  have z2 := idIsOne_ i
  have k0 := a0.k 0 _ rfl
  have c0 : ((0 : Nat) : Int) = 0 := rfl
  have c1 : ((1 : Nat) : Int) = 1 := rfl
  have c2 : ((2 : Nat) : Int) = 2 := rfl
  rw [c0, c2] at f1
  rw [Nat.add_zero] at k0
  generalize (⟨[], [idC i, idC i.left, idC i.right]⟩ : Hp) = h0 at *
  rcases hx with ⟨hi, rfl⟩ | ⟨hi, rfl⟩
  · rw [c0, c1] at f2
    have n1 : (i = .zero) = True := by simp [hi]
    simp only [n1, decide_true] at z1
    clear hi n1
    simp [pidC, seqR, ir132, ssB, List.idxOf?_cons, Go.Sx.LV.undef, Go.undef, callO_A, aft_nil, setAll_nil, Go.Sx.splice, Go.Sx.appO, Go.Sx.leI_eq, ltF, z1, z2, f1, f2, k0]
  · rw [c1] at f2
    have n1 : (i = .zero) = False := by simp [hi]
    have n2 : (i = .one) = True := by simp [hi]
    simp only [n1, decide_false] at z1
    simp only [n2, decide_true] at z2
    clear hi n1 n2
    simp [pidC, seqR, ir132, ssB, List.idxOf?_cons, Go.Sx.LV.undef, Go.undef, callO_A, aft_nil, setAll_nil, Go.Sx.splice, Go.Sx.appO, Go.Sx.leI_eq, ltF, z1, z2, f1, f2, k0]

theorem putID_ : ∀ (i : Id) (H : Heap) (nx wid pid n : Nat) (p : List UInt8), Wr H nx wid pid p n → n + (idBits i).length < 2 ^ 30 →
    ∃ u m pid', Ω 132 [.ref wid 0, .p i.pv] H nx = some (.tuple [], u, m) ∧ Post H nx wid pid n u m pid' (addBits p n (idBits i)) (n + (idBits i).length)
  | .zero, H, nx, wid, pid, n, p, g, hn => putID_leaf .zero 0 (.inl ⟨rfl, rfl⟩) g (by simpa [idBits, bitsOf_len] using hn)
  | .one, H, nx, wid, pid, n, p, g, hn => putID_leaf .one 1 (.inr ⟨rfl, rfl⟩) g (by simpa [idBits, bitsOf_len] using hn)
  | .node l r, H, nx, wid, pid, n, p, g, hn => by
    have a0 := Wk.init g [idC (.node l r), idC l, idC r]
    have z1 := idIsZero_ (.node l r)
    have z2 := idIsOne_ (.node l r)
    have z3 := idIsZero_ l
    have z4 := idIsZero_ r
    have c0 : ((0 : Nat) : Int) = 0 := rfl
    have c1 : ((1 : Nat) : Int) = 1 := rfl
    have c2 : ((2 : Nat) : Int) = 2 := rfl
    have c3 : ((3 : Nat) : Int) = 3 := rfl
    have n1 : (Id.node l r = .zero) = False := by simp
    have n2 : (Id.node l r = .one) = False := by simp
    simp only [n1, decide_false] at z1
    simp only [n2, decide_false] at z2
    clear n1 n2
    have k0 := a0.k 0 _ rfl
    have k1 := a0.k 1 _ rfl
    have k2 := a0.k 2 _ rfl
    rw [Nat.add_zero] at k0
    by_cases hl : l = .zero
    · have hB : idBits (.node l r) = bitsOf 1 2 ++ idBits r := by simp [idBits, hl]
      rw [hB] at hn ⊢
      rw [List.length_append, bitsOf_len] at hn
      obtain ⟨u1, m1, q1, f1, a1, _⟩ := a0.put 1 2 (by decide) (by decide) (by omega)
      obtain ⟨u2, m2, q2, f2, p2⟩ := putID_ r _ _ wid q1 (n + 2) _ a1.a.wr (by omega)
      obtain ⟨a2, w2⟩ := a1.call p2
      rw [List.length_append, bitsOf_len, ← Nat.add_assoc, addBits_app, bitsOf_len]
      have hp := idBits_pos r
      obtain ⟨u, m, q, f3, f4⟩ := a2.a.post false (pid0 := pid) (n0 := n) (by omega) w2
      refine ⟨u, m, q, pid_end (e := []) 1 H nx ?_ f3, f4⟩
      rw [c1, c2] at f1
      have n3 : (l = .zero) = True := by simp [hl]
      simp only [n3, decide_true] at z3
      clear n3
      have k3 := a1.k 2 _ rfl
      rw [Id.left_n, Id.right_n]
      generalize (⟨[], [idC (.node l r), idC l, idC r]⟩ : Hp) = h0 at *
      generalize Id.node l r = i at *
      clear hl
      simp [pidC, seqR, ir132, ssB, List.idxOf?_cons, Go.Sx.LV.undef, Go.undef, callO_A, aft_nil, setAll_nil, Go.Sx.splice, Go.Sx.appO, Go.Sx.leI_eq, ltF, z1, z2, z3, f1, f2, k0, k1, k3]
    · simp only [hl, decide_false] at z3
      by_cases hr : r = .zero
      · have hB : idBits (.node l r) = bitsOf 2 2 ++ idBits l := by simp [idBits, hl, hr]
        rw [hB] at hn ⊢
        rw [List.length_append, bitsOf_len] at hn
        obtain ⟨u1, m1, q1, f1, a1, _⟩ := a0.put 2 2 (by decide) (by decide) (by omega)
        obtain ⟨u2, m2, q2, f2, p2⟩ := putID_ l _ _ wid q1 (n + 2) _ a1.a.wr (by omega)
        obtain ⟨a2, w2⟩ := a1.call p2
        rw [List.length_append, bitsOf_len, ← Nat.add_assoc, addBits_app, bitsOf_len]
        have hp := idBits_pos l
        obtain ⟨u, m, q, f3, f4⟩ := a2.a.post false (pid0 := pid) (n0 := n) (by omega) w2
        refine ⟨u, m, q, pid_end (e := []) 1 H nx ?_ f3, f4⟩
        rw [c2] at f1
        have n4 : (r = .zero) = True := by simp [hr]
        simp only [n4, decide_true] at z4
        clear n4
        have k3 := a1.k 1 _ rfl
        rw [Id.left_n, Id.right_n]
        generalize (⟨[], [idC (.node l r), idC l, idC r]⟩ : Hp) = h0 at *
        generalize Id.node l r = i at *
        clear hl hr
        simp [pidC, seqR, ir132, ssB, List.idxOf?_cons, Go.Sx.LV.undef, Go.undef, callO_A, aft_nil, setAll_nil, Go.Sx.splice, Go.Sx.appO, Go.Sx.leI_eq, ltF, z1, z2, z3, z4, f1, f2, k0, k1, k2, k3]
      · simp only [hr, decide_false] at z4
        have hB : idBits (.node l r) = bitsOf 3 2 ++ idBits l ++ idBits r := by simp [idBits, hl, hr]
        rw [hB] at hn ⊢
        rw [List.length_append, List.length_append, bitsOf_len] at hn
        obtain ⟨u1, m1, q1, f1, a1, _⟩ := a0.put 3 2 (by decide) (by decide) (by omega)
        obtain ⟨u2, m2, q2, f2, p2⟩ := putID_ l _ _ wid q1 (n + 2) _ a1.a.wr (by omega)
        obtain ⟨a2, _⟩ := a1.call p2
        obtain ⟨u3, m3, q3, f3, p3⟩ := putID_ r _ _ wid q2 (n + 2 + (idBits l).length) _ a2.a.wr (by omega)
        obtain ⟨a3, w3⟩ := a2.call p3
        rw [List.length_append, List.length_append, bitsOf_len, ← Nat.add_assoc, ← Nat.add_assoc, addBits_app, addBits_app, bitsOf_len, List.length_append, bitsOf_len, ← Nat.add_assoc]
        have hp := idBits_pos l
        obtain ⟨u, m, q, f4, f5⟩ := a3.a.post false (pid0 := pid) (n0 := n) (by omega) w3
        refine ⟨u, m, q, pid_end (e := []) 1 H nx ?_ f4, f5⟩
        rw [c3, c2] at f1
        have k3 := a1.k 1 _ rfl
        have k4 := a2.k 2 _ rfl
        rw [Id.left_n, Id.right_n]
        generalize (⟨[], [idC (.node l r), idC l, idC r]⟩ : Hp) = h0 at *
        generalize Id.node l r = i at *
        clear hl hr
        simp [pidC, seqR, ir132, ssB, List.idxOf?_cons, Go.Sx.LV.undef, Go.undef, callO_A, aft_nil, setAll_nil, Go.Sx.splice, Go.Sx.appO, Go.Sx.leI_eq, ltF, z1, z2, z3, z4, f1, f2, f3, k0, k1, k2, k3, k4]
end
end Go.Proofs.YtppeggedcaabkaaGreatDoor
end

section
namespace Go.Proofs.YtppeggedcaabkaaGreatDoor
open Go Go.Sx
set_option linter.unusedSimpArgs false
set_option linter.unusedVariables false

/-- A writer, what has been updated, and boxes that stay. -/
structure Wq (H : Heap) (nx : Nat) (h : Hp) (wid P pid : Nat) (p : List UInt8) (n : Nat) (K : List (Nat × Go.Sx.Obj)) : Prop where
  a : At H nx h wid P pid p n
  k : ∀ x ∈ K, Go.Sx.look H nx h x.1 = some x.2 ∧ nx ≤ x.1 ∧ x.1 < nx + h.new.length ∧ (n = 0 ∨ x.1 ≠ pid)
section
variable {H : Heap} {nx : Nat} {h : Hp} {wid P pid : Nat} {p : List UInt8} {n : Nat} {K : List (Nat × Go.Sx.Obj)}
theorem Wk.toQ {L : List (Option Go.Sx.Obj)} (w : Wk H nx h wid P pid p n L) (hK : ∀ x ∈ K, ∃ j, x.1 = nx + j ∧ L[j]? = some (some x.2)) : Wq H nx h wid P pid p n K := by
  refine ⟨w.a, fun x hx => ?_⟩
  obtain ⟨j, h1, h2⟩ := hK x hx
  have hj := (List.getElem?_eq_some_iff.1 h2).1
  have hl := w.kl
  rw [h1]
  refine ⟨w.k j _ h2, by omega, by omega, ?_⟩
  rcases w.kp with h | h | h
  · exact .inl h
  · exact .inr (by omega)
  · exact .inr (by omega)
theorem Wq.call (w : Wq H nx h wid P pid p n K) {u : Upd} {m : List (Option Go.Sx.Obj)} {pid' n' : Nat} {p' : List UInt8} (e2 : Post (Go.Sx.look H nx h) (nx + h.new.length) wid pid n u m pid' p' n') :
    Wq H nx (aft nx h u m) wid P pid' p' n' K ∧ (findU (aft nx h u m).upd wid).isSome = true := by
  obtain ⟨a', hf, hlen, hw, _⟩ := w.a.call e2
  have hlt := w.a.lt
  refine ⟨⟨a', fun x hx => ?_⟩, hw⟩
  obtain ⟨k1, k2, k3, k4⟩ := w.k x hx
  refine ⟨by rw [hf x.1 k3 (by omega) k4]; exact k1, k2, by omega, ?_⟩
  rcases e2.pp with ⟨h0, rfl⟩ | h0
  · exact .inr (k4.resolve_left (by omega))
  · exact .inr (by omega)
theorem Wq.put (w : Wq H nx h wid P pid p n K) (x k : Nat) (hk0 : 0 < k) (hk : k ≤ 64) (hn : n + k < 2 ^ 30) :
    ∃ u m pid', Ω 136 [.ref wid 0, .int .u64 x, .int .i64 k] (Go.Sx.look H nx h) (nx + h.new.length) = some (.tuple [], u, m) ∧ Wq H nx (aft nx h u m) wid P pid' (addBits p n (bitsOf x k)) (n + k) K ∧ (findU (aft nx h u m).upd wid).isSome = true := by
  obtain ⟨u, m, pid', e1, e2⟩ := put_ w.a.wr x k hk0 hk hn
  exact ⟨u, m, pid', e1, w.call e2⟩
theorem Wq.num (w : Wq H nx h wid P pid p n K) (v : Nat) (hv : v < 2 ^ 64) (hn : n + 200 < 2 ^ 30) :
    ∃ u m pid', Ω 137 [.ref wid 0, .int .u64 v] (Go.Sx.look H nx h) (nx + h.new.length) = some (.tuple [], u, m) ∧ Wq H nx (aft nx h u m) wid P pid' (addBits p n (numBits v 2 62)) (n + (numBits v 2 62).length) K ∧ (findU (aft nx h u m).upd wid).isSome = true := by
  obtain ⟨u, m, pid', e1, e2⟩ := numw_ w.a.wr v hv hn
  exact ⟨u, m, pid', e1, w.call e2⟩
theorem Wq.push (w : Wq H nx h wid P pid p n K) (o : Go.Sx.Obj) : Wq H nx (Go.Sx.push h o) wid P pid p n ((nx + h.new.length, o) :: K) := by
  have hlt := w.a.lt
  have lk : ∀ id, id < nx + h.new.length → Go.Sx.look H nx (Go.Sx.push h o) id = Go.Sx.look H nx h id := fun id hi => by rw [look_push]; exact if_neg (by omega)
  have hpl : (Go.Sx.push h o).new.length = h.new.length + 1 := push_len _ _
  refine ⟨⟨⟨by rw [hpl]; omega, w.a.wr.len, w.a.wr.small, ?_⟩, w.a.lt, w.a.ne, w.a.pp, w.a.uz.push o⟩, fun x hx => ?_⟩
  · rcases w.a.wr.at' with ⟨h0, h1⟩ | ⟨h0, h1, h2, h3, h4⟩
    · exact .inl ⟨h0, by rw [lk _ (by omega)]; exact h1⟩
    · exact .inr ⟨h0, by rw [hpl]; omega, h2, by rw [lk _ (by omega)]; exact h3, by rw [lk _ (by omega)]; exact h4⟩
  · rcases List.mem_cons.1 hx with rfl | hx
    · refine ⟨by rw [look_push, if_pos rfl], by omega, by rw [hpl]; omega, ?_⟩
      rcases w.a.wr.at' with ⟨h0, h1⟩ | ⟨h0, h1, h2, h3, h4⟩
      · exact .inl h0
      · exact .inr (Nat.ne_of_gt h1)
    · obtain ⟨k1, k2, k3, k4⟩ := w.k x hx
      exact ⟨by rw [lk _ k3]; exact k1, k2, by rw [hpl]; omega, k4⟩
theorem Wq.sub {K' : List (Nat × Go.Sx.Obj)} (w : Wq H nx h wid P pid p n K) (hs : ∀ x ∈ K', x ∈ K) : Wq H nx h wid P pid p n K' := ⟨w.a, fun x hx => w.k x (hs x hx)⟩
theorem setObj_push (nx : Nat) (h : Hp) (o : Go.Sx.Obj) (o' : Option Go.Sx.Obj) : Go.Sx.setObj nx (Go.Sx.push h o) (nx + h.new.length) o' = ⟨h.upd, h.new ++ [o']⟩ := by
  simp [Go.Sx.setObj, Go.Sx.push, ltF]
end

theorem evZero_ (e : Ev) (H : Heap) (nx : Nat) : Ω 139 [.p e.pv] H nx = some (.bool (decide (e = .leaf 0)), [], []) := by
  refine om_run (ir := ir139) (by kernel_rfl) 0 ?_
  cases e with
  | leaf n =>
    have h1 := evIsLeaf_l n
    have h2 := evBase_ n (.s (.pointer none))
    by_cases h0 : n = 0
    · subst h0
      simp only [Int.natCast_zero, Int.ofNat_zero] at h1 h2
      simp [ir139, Ev.n_l, Ev.ptr_l, h1, h2, ssB, List.idxOf?_cons, Go.Sx.LV.undef, Go.undef, Go.Sx.callO, Go.Sx.splice, Go.Sx.finish, Go.Sx.look, Go.Sx.push, Go.Sx.setObj, Go.Sx.setU, Go.Sx.setAll, Go.Sx.appO, Go.Sx.leI_eq, ltF]
    · have : ((n : Int) == 0) = false := by simp; omega
      simp [ir139, Ev.n_l, Ev.ptr_l, h1, h2, this, h0, ssB, List.idxOf?_cons, Go.Sx.LV.undef, Go.undef, Go.Sx.callO, Go.Sx.splice, Go.Sx.finish, Go.Sx.look, Go.Sx.push, Go.Sx.setObj, Go.Sx.setU, Go.Sx.setAll, Go.Sx.appO, Go.Sx.leI_eq, ltF]
  | node n l r =>
    have h1 := fun cs => evIsLeaf_n n cs
    simp [ir139, Ev.n_n, Ev.ptr_n, h1, ssB, List.idxOf?_cons, Go.Sx.LV.undef, Go.undef, Go.Sx.callO, Go.Sx.splice, Go.Sx.finish, Go.Sx.look, Go.Sx.push, Go.Sx.setObj, Go.Sx.setU, Go.Sx.setAll, Go.Sx.appO, Go.Sx.leI_eq, ltF]
theorem evLeft_ (e : Ev) (H : Heap) (nx : Nat) : Ω 133 [.p e.pv] H nx = some (.p e.left.pv, [], []) := by
  cases e
  · exact evLeft_l _ H nx
  · exact evLeft_n _ _ _ _ _ H nx
theorem evRight_ (e : Ev) (H : Heap) (nx : Nat) : Ω 134 [.p e.pv] H nx = some (.p e.right.pv, [], []) := by
  cases e
  · exact evRight_l _ H nx
  · exact evRight_n _ _ _ _ _ H nx
theorem evIsLeaf_ (e : Ev) (H : Heap) (nx : Nat) : Ω 135 [.p e.pv] H nx = some (.bool e.isLeaf, [], []) := by
  cases e
  · exact evIsLeaf_l _ H nx
  · exact evIsLeaf_n _ _ H nx
theorem evBase' (e : Ev) (H : Heap) (nx : Nat) : Ω 138 [.p e.pv] H nx = some (.int .u64 e.n, [], []) := evBase_ _ _ H nx

/-- What a node's bits begin with. -/
def evKind (n : Nat) (zl zr : Bool) : List Bool :=
  if n = 0 then (if zl then bitsOf 0 2 else if zr then bitsOf 1 2 else bitsOf 2 2)
  else bitsOf 3 2 ++ (if zl then bitsOf 0 2 else if zr then bitsOf 1 2 else bitsOf 1 1)
theorem evKind_len (n : Nat) (zl zr : Bool) : 0 < (evKind n zl zr).length ∧ (evKind n zl zr).length ≤ 4 := by
  unfold evKind
  split <;> cases zl <;> cases zr <;> simp [bitsOf_len]
/-- A tree's bits. -/
def evBits : Ev → List Bool
  | .leaf n => bitsOf 1 1 ++ numBits n 2 62
  | .node n l r => bitsOf 0 1 ++ evKind n (decide (l = .leaf 0)) (decide (r = .leaf 0)) ++ (if n = 0 then [] else numBits n 2 62) ++ (if l = .leaf 0 then [] else evBits l) ++ (if r = .leaf 0 then [] else evBits r)

def pevA : IRC := seqL ir74.body
def pevB : IRC := seqL (seqR ir74.body)
def pevC : IRC := seqL (seqR (seqR ir74.body))
def pevD : IRC := seqL (seqR (seqR (seqR ir74.body)))
def pevE : IRC := seqL (seqR (seqR (seqR (seqR ir74.body))))
def pevF : IRC := seqL (seqR (seqR (seqR (seqR (seqR ir74.body)))))
def pevG : IRC := seqL (seqR (seqR (seqR (seqR (seqR (seqR ir74.body))))))
theorem pev_parts : ir74 = ⟨[0, 1], .seq pevA (.seq pevB (.seq pevC (.seq pevD (.seq pevE (.seq pevF (.seq pevG (.block 1 (.loop ir74_0)))))))), [], false⟩ := rfl
abbrev evO (e : Ev) : Go.Sx.Obj := .cells [.int .u64 e.n, .p e.ptr]
abbrev evC (e : Ev) : Option Go.Sx.Obj := some (evO e)
theorem pev_a (e : Ev) (x : LV) (H : Heap) (nx n : Nat) : runCS ⟨Ω, noG, H, nx⟩ n pevA ⟨[(0, x), (1, .p e.pv)], ⟨[], []⟩⟩ = some (.normal, ⟨[(0, x), (3, .ref nx 0)], ⟨[], [evC e]⟩⟩) := by
  simp [pevA, seqL, ir74, ssB, List.idxOf?_cons, Go.Sx.LV.undef, Go.undef, Go.Sx.callO, Go.Sx.splice, Go.Sx.finish, Go.Sx.look, Go.Sx.push, Go.Sx.setObj, Go.Sx.setU, Go.Sx.setAll, Go.Sx.appO, Go.Sx.leI_eq, ltF]
theorem pev_b (e : Ev) (x : LV) (H : Heap) (nx n : Nat) : runCS ⟨Ω, noG, H, nx⟩ n pevB ⟨[(0, x), (3, .ref nx 0)], ⟨[], [evC e]⟩⟩ = some (.normal, ⟨[(0, x), (3, .ref nx 0), (4, .ref (nx + 1) 0), (5, .ref (nx + 2) 0)], ⟨[], [evC e, evC e.left, evC e.right]⟩⟩) := by
  have l1 := evLeft_ e
  have l2 := evRight_ e
  generalize e.left = l at *
  generalize e.right = r at *
  simp [pevB, seqL, seqR, ir74, ssB, List.idxOf?_cons, Go.Sx.LV.undef, Go.undef, Go.Sx.callO, Go.Sx.splice, Go.Sx.finish, Go.Sx.look, Go.Sx.push, Go.Sx.setObj, Go.Sx.setU, Go.Sx.setAll, Go.Sx.appO, Go.Sx.leI_eq, ltF, l1, l2]
abbrev pevEnv (wid nx : Nat) : List (Nat × LV) := [(0, .ref wid 0), (3, .ref nx 0), (4, .ref (nx + 1) 0), (5, .ref (nx + 2) 0)]
abbrev pevK (nx : Nat) (e : Ev) : List (Nat × Go.Sx.Obj) := [(nx, evO e), (nx + 1, evO e.left), (nx + 2, evO e.right)]
section
variable {H : Heap} {nx : Nat} {h : Hp} {wid P pid : Nat} {p : List UInt8} {n : Nat}
theorem pev_c0 (N : Nat) (e : Ev) (w : Wq H nx h wid P pid p n (pevK nx e)) (hl : e.isLeaf = false) : runCS ⟨Ω, noG, H, nx⟩ N pevC ⟨pevEnv wid nx, h⟩ = some (.normal, ⟨(pevEnv wid nx) ++ [(13, .bool false)], h⟩) := by
  have k0 := (w.k _ (List.mem_cons_self)).1
  have z := evIsLeaf_ e
  rw [hl] at z
  simp [pevC, seqL, seqR, ir74, ssB, List.idxOf?_cons, Go.Sx.LV.undef, Go.undef, callO_A, aft_nil, setAll_nil, Go.Sx.splice, Go.Sx.appO, Go.Sx.leI_eq, ltF, z, k0]
theorem pev_c1 (N : Nat) (e : Ev) (w : Wq H nx h wid P pid p n (pevK nx e)) (hl : e.isLeaf = true) (hv : e.n < 2 ^ 64) (hn : n + 201 < 2 ^ 30) : ∃ h' pid', runCS ⟨Ω, noG, H, nx⟩ N pevC ⟨pevEnv wid nx, h⟩ = some (.ret, ⟨[], h'⟩) ∧ Wq H nx h' wid P pid' (addBits p n (bitsOf 1 1 ++ numBits e.n 2 62)) (n + (1 + (numBits e.n 2 62).length)) (pevK nx e) ∧ (findU h'.upd wid).isSome = true := by
  have k0 := (w.k _ (List.mem_cons_self)).1
  have z := evIsLeaf_ e
  rw [hl] at z
  have b := evBase' e
  obtain ⟨u1, m1, q1, f1, a1, _⟩ := w.put 1 1 (by decide) (by decide) (by omega)
  obtain ⟨u2, m2, q2, f2, a2, w2⟩ := a1.num e.n hv (by omega)
  have k1 := (a1.k _ (List.mem_cons_self)).1
  have c1 : ((1 : Nat) : Int) = 1 := rfl
  rw [c1] at f1
  refine ⟨_, q2, ?_, by rw [addBits_app, bitsOf_len, ← Nat.add_assoc]; exact a2, w2⟩
  simp [pevC, seqL, seqR, ir74, ssB, List.idxOf?_cons, Go.Sx.LV.undef, Go.undef, callO_A, aft_nil, setAll_nil, Go.Sx.splice, Go.Sx.appO, Go.Sx.leI_eq, ltF, z, k0, k1, b, f1, f2]
theorem pev_d (N : Nat) (e : Ev) (x : LV) (w : Wq H nx h wid P pid p n (pevK nx e)) (hn : n + 201 < 2 ^ 30) : ∃ h' pid', runCS ⟨Ω, noG, H, nx⟩ N pevD ⟨(pevEnv wid nx) ++ [(13, x)], h⟩ = some (.normal, ⟨pevEnv wid nx, h'⟩) ∧ Wq H nx h' wid P pid' (addBits p n (bitsOf 0 1)) (n + 1) (pevK nx e) ∧ (findU h'.upd wid).isSome = true := by
  obtain ⟨u1, m1, q1, f1, a1, w1⟩ := w.put 0 1 (by decide) (by decide) (by omega)
  have c0 : ((0 : Nat) : Int) = 0 := rfl
  have c1 : ((1 : Nat) : Int) = 1 := rfl
  rw [c0, c1] at f1
  refine ⟨_, q1, ?_, a1, w1⟩
  simp [pevD, seqL, seqR, ir74, ssB, List.idxOf?_cons, Go.Sx.LV.undef, Go.undef, callO_A, aft_nil, setAll_nil, Go.Sx.splice, Go.Sx.appO, Go.Sx.leI_eq, ltF, f1]
theorem pev_e (N : Nat) (e : Ev) (w : Wq H nx h wid P pid p n (pevK nx e)) (hn : n + 201 < 2 ^ 30) : ∃ h' pid', runCS ⟨Ω, noG, H, nx⟩ N pevE ⟨pevEnv wid nx, h⟩ = some (.normal, ⟨pevEnv wid nx, h'⟩) ∧
    Wq H nx h' wid P pid' (addBits p n (evKind e.n (decide (e.left = .leaf 0)) (decide (e.right = .leaf 0)))) (n + (evKind e.n (decide (e.left = .leaf 0)) (decide (e.right = .leaf 0))).length) (pevK nx e) ∧ (findU h'.upd wid).isSome = true := by
  have k0 := (w.k _ (List.mem_cons_self)).1
  have k1 := (w.k (nx + 1, evO e.left) (by simp)).1
  have k2 := (w.k (nx + 2, evO e.right) (by simp)).1
  have z1 := evZero_ e.left
  have z2 := evZero_ e.right
  have b := evBase' e
  have c0 : ((0 : Nat) : Int) = 0 := rfl
  have c1 : ((1 : Nat) : Int) = 1 := rfl
  have c2 : ((2 : Nat) : Int) = 2 := rfl
  have c3 : ((3 : Nat) : Int) = 3 := rfl
  generalize decide (e.left = .leaf 0) = zl at *
  generalize decide (e.right = .leaf 0) = zr at *
  have one : ∀ (v k : Nat), 0 < k → k ≤ 64 → n + k < 2 ^ 30 → evKind e.n zl zr = bitsOf v k → (∀ (u : Upd) (m : List (Option Go.Sx.Obj)), Ω 136 [.ref wid 0, .int .u64 v, .int .i64 k] (Go.Sx.look H nx h) (nx + h.new.length) = some (.tuple [], u, m) →
      runCS ⟨Ω, noG, H, nx⟩ N pevE ⟨pevEnv wid nx, h⟩ = some (.normal, ⟨pevEnv wid nx, aft nx h u m⟩)) → ∃ h' pid', runCS ⟨Ω, noG, H, nx⟩ N pevE ⟨pevEnv wid nx, h⟩ = some (.normal, ⟨pevEnv wid nx, h'⟩) ∧
        Wq H nx h' wid P pid' (addBits p n (evKind e.n zl zr)) (n + (evKind e.n zl zr).length) (pevK nx e) ∧ (findU h'.upd wid).isSome = true := by
    intro v k hk0 hk hnk hB hr
    obtain ⟨u1, m1, q1, f1, a1, w1⟩ := w.put v k hk0 hk hnk
    exact ⟨_, q1, hr u1 m1 f1, by rw [hB, bitsOf_len]; exact a1, w1⟩
  have two : ∀ (v k : Nat), 0 < k → k ≤ 64 → n + 2 + k < 2 ^ 30 → evKind e.n zl zr = bitsOf 3 2 ++ bitsOf v k → (∀ (u : Upd) (m : List (Option Go.Sx.Obj)) (u2 : Upd) (m2 : List (Option Go.Sx.Obj)), Ω 136 [.ref wid 0, .int .u64 3, .int .i64 2] (Go.Sx.look H nx h) (nx + h.new.length) = some (.tuple [], u, m) →
      Ω 136 [.ref wid 0, .int .u64 v, .int .i64 k] (Go.Sx.look H nx (aft nx h u m)) (nx + (aft nx h u m).new.length) = some (.tuple [], u2, m2) →
      runCS ⟨Ω, noG, H, nx⟩ N pevE ⟨pevEnv wid nx, h⟩ = some (.normal, ⟨pevEnv wid nx, aft nx (aft nx h u m) u2 m2⟩)) → ∃ h' pid', runCS ⟨Ω, noG, H, nx⟩ N pevE ⟨pevEnv wid nx, h⟩ = some (.normal, ⟨pevEnv wid nx, h'⟩) ∧
        Wq H nx h' wid P pid' (addBits p n (evKind e.n zl zr)) (n + (evKind e.n zl zr).length) (pevK nx e) ∧ (findU h'.upd wid).isSome = true := by
    intro v k hk0 hk hnk hB hr
    obtain ⟨u1, m1, q1, f1, a1, w1⟩ := w.put 3 2 (by decide) (by decide) (by omega)
    obtain ⟨u2, m2, q2, f2, a2, w2⟩ := a1.put v k hk0 hk hnk
    exact ⟨_, q2, hr u1 m1 u2 m2 f1 f2, by rw [hB, addBits_app, List.length_append, bitsOf_len, bitsOf_len, ← Nat.add_assoc]; exact a2, w2⟩
  by_cases h0 : e.n = 0
  · have hb : ((e.n : Int) == 0) = true := by simp [h0]
    cases zl with
    | true =>
      refine one 0 2 (by decide) (by decide) (by omega) (by simp [evKind, h0]) fun u m f1 => ?_
      rw [c0, c2] at f1
      simp [pevE, seqL, seqR, ir74, ssB, List.idxOf?_cons, Go.Sx.LV.undef, Go.undef, callO_A, aft_nil, setAll_nil, Go.Sx.splice, Go.Sx.appO, Go.Sx.leI_eq, ltF, k0, k1, k2, z1, z2, b, hb, f1]
    | false =>
      cases zr with
      | true =>
        refine one 1 2 (by decide) (by decide) (by omega) (by simp [evKind, h0]) fun u m f1 => ?_
        rw [c1, c2] at f1
        simp [pevE, seqL, seqR, ir74, ssB, List.idxOf?_cons, Go.Sx.LV.undef, Go.undef, callO_A, aft_nil, setAll_nil, Go.Sx.splice, Go.Sx.appO, Go.Sx.leI_eq, ltF, k0, k1, k2, z1, z2, b, hb, f1]
      | false =>
        refine one 2 2 (by decide) (by decide) (by omega) (by simp [evKind, h0]) fun u m f1 => ?_
        rw [c2] at f1
        simp [pevE, seqL, seqR, ir74, ssB, List.idxOf?_cons, Go.Sx.LV.undef, Go.undef, callO_A, aft_nil, setAll_nil, Go.Sx.splice, Go.Sx.appO, Go.Sx.leI_eq, ltF, k0, k1, k2, z1, z2, b, hb, f1]
  · have hb : ((e.n : Int) == 0) = false := by simp; omega
    cases zl with
    | true =>
      refine two 0 2 (by decide) (by decide) (by omega) (by simp [evKind, h0]) fun u m u2 m2 f1 f2 => ?_
      rw [c0, c2] at f2
      simp [pevE, seqL, seqR, ir74, ssB, List.idxOf?_cons, Go.Sx.LV.undef, Go.undef, callO_A, aft_nil, setAll_nil, Go.Sx.splice, Go.Sx.appO, Go.Sx.leI_eq, ltF, k0, k1, k2, z1, z2, b, hb, f1, f2]
    | false =>
      cases zr with
      | true =>
        refine two 1 2 (by decide) (by decide) (by omega) (by simp [evKind, h0]) fun u m u2 m2 f1 f2 => ?_
        rw [c1, c2] at f2
        simp [pevE, seqL, seqR, ir74, ssB, List.idxOf?_cons, Go.Sx.LV.undef, Go.undef, callO_A, aft_nil, setAll_nil, Go.Sx.splice, Go.Sx.appO, Go.Sx.leI_eq, ltF, k0, k1, k2, z1, z2, b, hb, f1, f2]
      | false =>
        refine two 1 1 (by decide) (by decide) (by omega) (by simp [evKind, h0]) fun u m u2 m2 f1 f2 => ?_
        rw [c1] at f2
        simp [pevE, seqL, seqR, ir74, ssB, List.idxOf?_cons, Go.Sx.LV.undef, Go.undef, callO_A, aft_nil, setAll_nil, Go.Sx.splice, Go.Sx.appO, Go.Sx.leI_eq, ltF, k0, k1, k2, z1, z2, b, hb, f1, f2]
end
end Go.Proofs.YtppeggedcaabkaaGreatDoor
end

section
namespace Go.Proofs.YtppeggedcaabkaaGreatDoor
open Go Go.Sx
set_option linter.unusedSimpArgs false
set_option linter.unusedVariables false

section
variable {H : Heap} {nx : Nat} {h : Hp} {wid P pid : Nat} {p : List UInt8} {n : Nat}
theorem pev_f (N : Nat) (e : Ev) (w : Wq H nx h wid P pid p n (pevK nx e)) (hs : (findU h.upd wid).isSome = true) (hv : e.n < 2 ^ 64) (hn : n + 200 < 2 ^ 30) : ∃ E h' pid', runCS ⟨Ω, noG, H, nx⟩ N pevF ⟨pevEnv wid nx, h⟩ = some (.normal, ⟨E, h'⟩) ∧
    (Go.Sx.get E 0 = .ref wid 0 ∧ Go.Sx.get E 4 = .ref (nx + 1) 0 ∧ Go.Sx.get E 5 = .ref (nx + 2) 0) ∧
    Wq H nx h' wid P pid' (addBits p n (if e.n = 0 then [] else numBits e.n 2 62)) (n + (if e.n = 0 then [] else numBits e.n 2 62).length) (pevK nx e) ∧ (findU h'.upd wid).isSome = true := by
  have k0 := (w.k _ (List.mem_cons_self)).1
  have b := evBase' e
  by_cases h0 : e.n = 0
  · rw [if_pos h0]
    have hb : ¬ (0 : Int) < e.n := by omega
    have hb2 : ((e.n : Int) ≤ 0) := by omega
    refine ⟨pevEnv wid nx ++ [(68, .bool false)], h, pid, ?_, by simp [Go.Sx.get], by simpa [addBits] using w, hs⟩
    have hq : (e.n = 0) = True := by simp [h0]
    simp [pevF, seqL, seqR, ir74, ssB, List.idxOf?_cons, Go.Sx.LV.undef, Go.undef, callO_A, aft_nil, setAll_nil, Go.Sx.splice, Go.Sx.appO, Go.Sx.leI_eq, ltF, k0, b, hq]
  · rw [if_neg h0]
    have hb : (0 : Int) < e.n := by omega
    have hb2 : ¬ ((e.n : Int) ≤ 0) := by omega
    obtain ⟨u2, m2, q2, f2, a2, w2⟩ := w.num e.n hv hn
    refine ⟨[(0, .ref wid 0), (4, .ref (nx + 1) 0), (5, .ref (nx + 2) 0)], _, q2, ?_, by simp [Go.Sx.get], a2, w2⟩
    simp [pevF, seqL, seqR, ir74, ssB, List.idxOf?_cons, Go.Sx.LV.undef, Go.undef, callO_A, aft_nil, setAll_nil, Go.Sx.splice, Go.Sx.appO, Go.Sx.leI_eq, ltF, k0, b, hb2, h0, f2]
abbrev halO (l r : Ev) : Go.Sx.Obj := .cells [.int .u64 l.n, .p l.ptr, .int .u64 r.n, .p r.ptr]
theorem pev_g (N : Nat) (e : Ev) (E : List (Nat × LV)) (hE : Go.Sx.get E 0 = .ref wid 0 ∧ Go.Sx.get E 4 = .ref (nx + 1) 0 ∧ Go.Sx.get E 5 = .ref (nx + 2) 0) (w : Wq H nx h wid P pid p n (pevK nx e)) :
    runCS ⟨Ω, noG, H, nx⟩ N pevG ⟨E, h⟩ = some (.normal, ⟨[(0, .ref wid 0), (75, .arr (nx + h.new.length) 0 2 2 2 true), (76, .int .i64 2), (77, .int .i64 0)], push h (halO e.left e.right)⟩) := by
  have k1 := (w.k (nx + 1, evO e.left) (by simp)).1
  have k2 := (w.k (nx + 2, evO e.right) (by simp)).1
  obtain ⟨g0, g4, g5⟩ := hE
  simp [pevG, seqL, seqR, ir74, ssB, List.idxOf?_cons, Go.Sx.LV.undef, Go.undef, callO_A, aft_nil, setAll_nil, Go.Sx.splice, Go.Sx.appO, Go.Sx.leI_eq, ltF, k1, k2, g0, g4, g5]

theorem hal_0 (N : Nat) (l r e : Ev) (hid : Nat) (j : Nat) (hj : (j = 0 ∧ e = l) ∨ (j = 1 ∧ e = r)) (hl : Go.Sx.look H nx h hid = some (halO l r)) (hlt : hid < nx + h.new.length) (hz : e = .leaf 0) :
    runCS ⟨Ω, noG, H, nx⟩ N ir74_0 ⟨[(0, .ref wid 0), (75, .arr hid 0 2 2 2 true), (76, .int .i64 2), (77, .int .i64 j)], h⟩ =
      some (.normal, ⟨[(0, .ref wid 0), (75, .arr hid 0 2 2 2 true), (76, .int .i64 2), (77, .int .i64 (j + 1 : Nat))], push h (evO e)⟩) := by
  have z := evZero_ e
  rw [show (decide (e = Ev.leaf 0)) = true by simp [hz]] at z
  have ne : ¬ hid = nx + h.new.length := by omega
  have sp := fun o o' => setObj_push nx h o o'
  have hq : ∀ o : Go.Sx.Obj, (⟨h.upd, h.new ++ [some o]⟩ : Hp) = push h o := fun o => rfl
  have lk : ∀ o : Go.Sx.Obj, Go.Sx.look H nx (push h o) (nx + h.new.length) = some o := fun o => by rw [look_push, if_pos rfl]
  have lk2 : ∀ o : Go.Sx.Obj, Go.Sx.look H nx (push h o) hid = some (halO l r) := fun o => by rw [look_push, if_neg ne]; exact hl
  have w1 : IntKind.i64.wrap 1 = 1 := by decide
  have w2 : IntKind.i64.wrap 2 = 2 := by decide
  rcases hj with ⟨rfl, he⟩ | ⟨rfl, he⟩ <;> subst he <;> clear hz
  · simp [ir74_0, ssB, List.idxOf?_cons, Go.Sx.LV.undef, Go.undef, callO_A, aft_nil, setAll_nil, Go.Sx.splice, Go.Sx.appO, Go.Sx.leI_eq, ltF, z, hl, sp, hq, lk, lk2, w1]
  · simp [ir74_0, ssB, List.idxOf?_cons, Go.Sx.LV.undef, Go.undef, callO_A, aft_nil, setAll_nil, Go.Sx.splice, Go.Sx.appO, Go.Sx.leI_eq, ltF, z, hl, sp, hq, lk, lk2, w2]
theorem hal_1 (N : Nat) (l r e : Ev) (hid : Nat) (j : Nat) (hj : (j = 0 ∧ e = l) ∨ (j = 1 ∧ e = r)) (hl : Go.Sx.look H nx h hid = some (halO l r)) (hlt : hid < nx + h.new.length) (hz : e ≠ .leaf 0) {u : Upd} {m : List (Option Go.Sx.Obj)}
    (f : Ω 74 [.ref wid 0, .p e.pv] (Go.Sx.look H nx (push h (evO e))) (nx + (push h (evO e)).new.length) = some (.tuple [], u, m)) :
    runCS ⟨Ω, noG, H, nx⟩ N ir74_0 ⟨[(0, .ref wid 0), (75, .arr hid 0 2 2 2 true), (76, .int .i64 2), (77, .int .i64 j)], h⟩ =
      some (.normal, ⟨[(0, .ref wid 0), (75, .arr hid 0 2 2 2 true), (76, .int .i64 2), (77, .int .i64 (j + 1 : Nat))], aft nx (push h (evO e)) u m⟩) := by
  have z := evZero_ e
  rw [show (decide (e = Ev.leaf 0)) = false by simp [hz]] at z
  have ne : ¬ hid = nx + h.new.length := by omega
  have sp := fun o o' => setObj_push nx h o o'
  have hq : ∀ o : Go.Sx.Obj, (⟨h.upd, h.new ++ [some o]⟩ : Hp) = push h o := fun o => rfl
  have lk : ∀ o : Go.Sx.Obj, Go.Sx.look H nx (push h o) (nx + h.new.length) = some o := fun o => by rw [look_push, if_pos rfl]
  have lk2 : ∀ o : Go.Sx.Obj, Go.Sx.look H nx (push h o) hid = some (halO l r) := fun o => by rw [look_push, if_neg ne]; exact hl
  have w1 : IntKind.i64.wrap 1 = 1 := by decide
  have w2 : IntKind.i64.wrap 2 = 2 := by decide
  rcases hj with ⟨rfl, he⟩ | ⟨rfl, he⟩ <;> subst he <;> clear hz
  · simp [ir74_0, ssB, List.idxOf?_cons, Go.Sx.LV.undef, Go.undef, callO_A, aft_nil, setAll_nil, Go.Sx.splice, Go.Sx.appO, Go.Sx.leI_eq, ltF, z, hl, sp, hq, lk, lk2, w1, f]
  · simp [ir74_0, ssB, List.idxOf?_cons, Go.Sx.LV.undef, Go.undef, callO_A, aft_nil, setAll_nil, Go.Sx.splice, Go.Sx.appO, Go.Sx.leI_eq, ltF, z, hl, sp, hq, lk, lk2, w2, f]
theorem hal_2 (N : Nat) (hid : Nat) (x : LV) : runCS ⟨Ω, noG, H, nx⟩ N ir74_0 ⟨[(0, x), (75, .arr hid 0 2 2 2 true), (76, .int .i64 2), (77, .int .i64 2)], h⟩ =
      some (.exit 1, ⟨[(0, x), (75, .arr hid 0 2 2 2 true), (76, .int .i64 2), (77, .int .i64 2), (78, .bool false)], h⟩) := by
  simp [ir74_0, ssB, List.idxOf?_cons, Go.Sx.LV.undef, Go.undef, callO_A, aft_nil, setAll_nil, Go.Sx.splice, Go.Sx.appO, Go.Sx.leI_eq, ltF]
/-- A half's turn. -/
theorem hal_step (N : Nat) (l r e : Ev) (hid : Nat) (j : Nat) (hj : (j = 0 ∧ e = l) ∨ (j = 1 ∧ e = r)) (w : Wq H nx h wid P pid p n [(hid, halO l r)]) (hs : (findU h.upd wid).isSome = true)
    (ih : e ≠ .leaf 0 → ∀ (H : Heap) (nx wid pid n : Nat) (p : List UInt8), Wr H nx wid pid p n → n + (evBits e).length + 201 < 2 ^ 30 →
      ∃ u m pid', Ω 74 [.ref wid 0, .p e.pv] H nx = some (.tuple [], u, m) ∧ Post H nx wid pid n u m pid' (addBits p n (evBits e)) (n + (evBits e).length))
    (hn : n + (if e = .leaf 0 then [] else evBits e).length + 201 < 2 ^ 30) :
    ∃ h' pid', runCS ⟨Ω, noG, H, nx⟩ N ir74_0 ⟨[(0, .ref wid 0), (75, .arr hid 0 2 2 2 true), (76, .int .i64 2), (77, .int .i64 j)], h⟩ =
      some (.normal, ⟨[(0, .ref wid 0), (75, .arr hid 0 2 2 2 true), (76, .int .i64 2), (77, .int .i64 (j + 1 : Nat))], h'⟩) ∧
      Wq H nx h' wid P pid' (addBits p n (if e = .leaf 0 then [] else evBits e)) (n + (if e = .leaf 0 then [] else evBits e).length) [(hid, halO l r)] ∧ (findU h'.upd wid).isSome = true := by
  obtain ⟨k1, k2, k3, k4⟩ := w.k (hid, halO l r) (by simp)
  have wp := (w.push (evO e)).sub (K' := [(hid, halO l r)]) (by simp)
  by_cases hz : e = .leaf 0
  · rw [if_pos hz]
    exact ⟨_, pid, hal_0 N l r e hid j hj k1 k3 hz, by simpa [addBits] using wp, hs⟩
  · rw [if_neg hz] at hn ⊢
    obtain ⟨u, m, q, f, po⟩ := ih hz _ _ wid pid n p wp.a.wr hn
    obtain ⟨w2, s2⟩ := wp.call po
    exact ⟨_, q, hal_1 N l r e hid j hj k1 k3 hz f, w2, s2⟩
end

theorem pev_end {e : Ev} {wid : Nat} {h : Hp} {u : Upd} {m : List (Option Go.Sx.Obj)} (N : Nat) (H : Heap) (nx : Nat)
    (h3 : ∃ ex E, (ex = .normal ∨ ex = .ret) ∧ runCS ⟨Ω, noG, H, nx⟩ N (.seq pevC (.seq pevD (.seq pevE (.seq pevF (.seq pevG (.block 1 (.loop ir74_0))))))) ⟨pevEnv wid nx, ⟨[], [evC e, evC e.left, evC e.right]⟩⟩ = some (ex, ⟨E, h⟩)) (hf : finish false H nx (.tuple []) h = some (.tuple [], u, m)) :
    Ω 74 [.ref wid 0, .p e.pv] H nx = some (.tuple [], u, m) := by
  refine om_run (ir := ir74) (by kernel_rfl) N ?_
  rw [pev_parts]
  have a := pev_a e (.ref wid 0) H nx N
  have b := pev_b e (.ref wid 0) H nx N
  obtain ⟨ex, E, hex, h3⟩ := h3
  generalize pevA = A at *
  generalize pevB = B at *
  generalize IRC.seq pevC (.seq pevD (.seq pevE (.seq pevF (.seq pevG (.block 1 (.loop ir74_0)))))) = C at *
  rcases hex with rfl | rfl <;> simp [ssB, List.idxOf?_cons, Go.Sx.LV.undef, Go.undef, callO_A, aft_nil, setAll_nil, Go.Sx.splice, Go.Sx.appO, Go.Sx.leI_eq, ltF, a, b, h3, hf]

theorem putEvent_ : ∀ (e : Ev), e.max < 2 ^ 64 → ∀ (H : Heap) (nx wid pid n : Nat) (p : List UInt8), Wr H nx wid pid p n → n + (evBits e).length + 201 < 2 ^ 30 →
    ∃ u m pid', Ω 74 [.ref wid 0, .p e.pv] H nx = some (.tuple [], u, m) ∧ Post H nx wid pid n u m pid' (addBits p n (evBits e)) (n + (evBits e).length)
  | .leaf v, hm, H, nx, wid, pid, n, p, g, hn => by
    have a0 : Wq H nx _ wid _ pid p n (pevK nx (.leaf v)) := (Wk.init g [evC (.leaf v), evC (Ev.leaf v).left, evC (Ev.leaf v).right]).toQ (by
      intro x hx
      simp only [pevK, List.mem_cons, List.not_mem_nil, or_false] at hx
      rcases hx with rfl | rfl | rfl
      · exact ⟨0, rfl, rfl⟩
      · exact ⟨1, rfl, rfl⟩
      · exact ⟨2, rfl, rfl⟩)
    have hv : v < 2 ^ 64 := hm
    obtain ⟨h', q', f1, w1, s1⟩ := pev_c1 63 (.leaf v) a0 rfl hv (by omega)
    have hB : evBits (.leaf v) = bitsOf 1 1 ++ numBits v 2 62 := rfl
    rw [hB, List.length_append, bitsOf_len]
    obtain ⟨u, m, q, f3, f4⟩ := w1.a.post false (pid0 := pid) (n0 := n) (by omega) s1
    refine ⟨u, m, q, pev_end 63 H nx ⟨.ret, [], .inr rfl, ?_⟩ f3, f4⟩
    simp only [runCS_seq, f1]
  | .node v l r, hm, H, nx, wid, pid, n, p, g, hn => by
    have d1 := Ev.max_l v l r
    have d2 := Ev.max_r v l r
    have hB : evBits (.node v l r) = bitsOf 0 1 ++ evKind v (decide (l = .leaf 0)) (decide (r = .leaf 0)) ++ (if v = 0 then [] else numBits v 2 62) ++ (if l = .leaf 0 then [] else evBits l) ++ (if r = .leaf 0 then [] else evBits r) := by
      rw [evBits]
    have a0 : Wq H nx _ wid _ pid p n (pevK nx (.node v l r)) := (Wk.init g [evC (.node v l r), evC (Ev.node v l r).left, evC (Ev.node v l r).right]).toQ (by
      intro x hx
      simp only [pevK, List.mem_cons, List.not_mem_nil, or_false] at hx
      rcases hx with rfl | rfl | rfl
      · exact ⟨0, rfl, rfl⟩
      · exact ⟨1, rfl, rfl⟩
      · exact ⟨2, rfl, rfl⟩)
    rw [hB] at hn ⊢
    simp only [List.length_append, bitsOf_len] at hn
    have c := pev_c0 64 (.node v l r) a0 rfl
    obtain ⟨h1, q1, f1, w1, s1⟩ := pev_d 64 (.node v l r) (.bool false) a0 (by omega)
    obtain ⟨h2, q2, f2, w2, s2⟩ := pev_e 64 (.node v l r) w1 (by omega)
    have he1 : (Ev.node v l r).left = l := rfl
    have he2 : (Ev.node v l r).right = r := rfl
    have he3 : (Ev.node v l r).n = v := rfl
    rw [he1, he2, he3] at w2
    obtain ⟨E, h3, q3, f3, hE, w3, s3⟩ := pev_f 64 (.node v l r) w2 s2 (by rw [he3]; omega) (by omega)
    rw [he3] at w3
    have f4 := pev_g 64 (.node v l r) E hE w3
    have w4 := (w3.push (halO l r)).sub (K' := [(nx + h3.new.length, halO l r)]) (by simp)
    obtain ⟨h5, q5, f5, w5, s5⟩ := hal_step 64 l r l (nx + h3.new.length) 0 (.inl ⟨rfl, rfl⟩) w4 s3 (fun _ => putEvent_ l (by omega)) (by omega)
    obtain ⟨h6, q6, f6, w6, s6⟩ := hal_step 64 l r r (nx + h3.new.length) 1 (.inr ⟨rfl, rfl⟩) w5 s5 (fun _ => putEvent_ r (by omega)) (by omega)
    have f7 := hal_2 (H := H) (nx := nx) (h := h6) 64 (nx + h3.new.length) (.ref wid 0)
    obtain ⟨u, m, q, f8, f9⟩ := w6.a.post false (pid0 := pid) (n0 := n) (by omega) s6
    refine ⟨u, m, q, pev_end 64 H nx ⟨.normal, [(0, .ref wid 0), (75, .arr (nx + h3.new.length) 0 2 2 2 true), (76, .int .i64 2), (77, .int .i64 2), (78, .bool false)], .inl rfl, ?_⟩ f8, ?_⟩
    · have lp : iter (runCS ⟨Ω, noG, H, nx⟩ 64 ir74_0) 64 ⟨[(0, .ref wid 0), (75, .arr (nx + h3.new.length) 0 2 2 2 true), (76, .int .i64 2), (77, .int .i64 0)], push h3 (halO l r)⟩ = some (.exit 1, ⟨[(0, .ref wid 0), (75, .arr (nx + h3.new.length) 0 2 2 2 true), (76, .int .i64 2), (77, .int .i64 2), (78, .bool false)], h6⟩) := by
        exact (iter_step f5).trans ((iter_step f6).trans (iter_out f7 (by simp)))
      simp only [he1, he2] at c f1 f4
      simp only [runCS_seq, c, f1, f2, f3, f4, runCS_block, runCS_loop, he1, he2, lp, if_pos]
    · simp only [addBits_app, List.length_append, bitsOf_len]
      simp only [← Nat.add_assoc]
      exact f9
end Go.Proofs.YtppeggedcaabkaaGreatDoor
end

section
namespace Go.Proofs.YtppeggedcaabkaaGreatDoor
open Go
set_option linter.unusedSimpArgs false
set_option linter.unusedVariables false

def stp (r : BitVec 32) : BitVec 32 := if r &&& 1#32 = 1#32 then (r >>> 1) ^^^ 3988292384#32 else r >>> 1
def wide (b : UInt8) : BitVec 32 := BitVec.ofNat 32 b.toNat
def crcB (r : BitVec 32) (b : UInt8) : BitVec 32 := Nat.repeat stp 8 (r ^^^ wide b)
def crcL (r : BitVec 32) (l : List UInt8) : BitVec 32 := l.foldl crcB r
def crc (l : List UInt8) : BitVec 32 := ~~~ (crcL 4294967295#32 l)

theorem odd_bit (r : BitVec 32) : (r &&& 1#32 = 1#32) ↔ r.getLsbD 0 = true := by
  rw [BitVec.and_one_eq_setWidth_ofBool_getLsbD]
  cases r.getLsbD 0 <;> decide

theorem stp_bit (r : BitVec 32) (i : Nat) (hi : i < 32) : (stp r).getLsbD i = (r.getLsbD (1 + i) ^^ (r.getLsbD 0 && (3988292384#32).getLsbD i)) := by
  unfold stp
  by_cases h : r.getLsbD 0 = true
  · rw [if_pos ((odd_bit r).2 h), BitVec.getLsbD_xor, BitVec.getLsbD_ushiftRight, h, Bool.true_and]
  · rw [if_neg (fun e => h ((odd_bit r).1 e)), BitVec.getLsbD_ushiftRight]
    have h0 : r.getLsbD 0 = false := by simpa using h
    rw [h0]; simp

theorem stp_inj {r s : BitVec 32} (h : stp r = stp s) : r = s := by
  have top : ∀ x : BitVec 32, (stp x).getLsbD 31 = x.getLsbD 0 := fun x => by
    rw [stp_bit x 31 (by omega), BitVec.getLsbD_of_ge x (1 + 31) (by omega)]
    have : (3988292384#32).getLsbD 31 = true := by decide
    rw [this]; simp
  have h0 : r.getLsbD 0 = s.getLsbD 0 := by rw [← top r, ← top s, h]
  refine BitVec.eq_of_getLsbD_eq fun i hi => ?_
  cases i with
  | zero => exact h0
  | succ i =>
    have e1 := stp_bit r i (by omega)
    have e2 := stp_bit s i (by omega)
    rw [h, e2, h0, Nat.add_comm] at e1
    have := Bool.xor_right_inj.1 ((Bool.xor_comm _ _).trans (e1.trans (Bool.xor_comm _ _)))
    rw [this]

theorem rep_inj : ∀ (n : Nat) {r s : BitVec 32}, Nat.repeat stp n r = Nat.repeat stp n s → r = s
  | 0, _, _, h => h
  | n + 1, _, _, h => rep_inj n (stp_inj h)

theorem crcB_inj {r s : BitVec 32} {b : UInt8} (h : crcB r b = crcB s b) : r = s := by
  have := rep_inj 8 h
  exact (BitVec.xor_left_inj _).1 this

theorem crcB_byte {r : BitVec 32} {b c : UInt8} (h : crcB r b = crcB r c) : b = c := by
  have := (BitVec.xor_right_inj _).1 (rep_inj 8 h)
  have e := congrArg BitVec.toNat this
  unfold wide at e
  rw [BitVec.toNat_ofNat, BitVec.toNat_ofNat] at e
  have hb := b.toNat_lt
  have hc := c.toNat_lt
  exact UInt8.toNat_inj.1 (by omega)

theorem crcL_inj : ∀ (l : List UInt8) {r s : BitVec 32}, crcL r l = crcL s l → r = s
  | [], _, _, h => h
  | b :: l, _, _, h => crcB_inj (crcL_inj l h)

theorem crc_turned (l m : List UInt8) {b c : UInt8} (hn : b ≠ c) : crc (l ++ b :: m) ≠ crc (l ++ c :: m) := by
  intro h
  unfold crc crcL at h
  have h := BitVec.not_inj.1 h
  rw [List.foldl_append, List.foldl_append] at h
  exact hn (crcB_byte (crcL_inj m h))

/-- A number of 32 bits as four bytes, and back. -/
def low (x : BitVec 32) : UInt8 := UInt8.ofNat x.toNat
def le4 (x : BitVec 32) : List UInt8 := [low x, low (x >>> 8), low (x >>> 16), low (x >>> 24)]
def un4 (a b c d : UInt8) : BitVec 32 := 0#32 ||| wide a <<< 0 ||| wide b <<< 8 ||| wide c <<< 16 ||| wide d <<< 24

theorem low_nat (x : BitVec 32) : (low x).toNat = x.toNat % 256 := by simp [low]
theorem wide_nat (b : UInt8) : (wide b).toNat = b.toNat := by
  have := b.toNat_lt
  rw [wide, BitVec.toNat_ofNat]; omega
theorem un4_nat (a b c d : UInt8) : (un4 a b c d).toNat = a.toNat + b.toNat * 256 + c.toNat * 65536 + d.toNat * 16777216 := by
  have ha := a.toNat_lt
  have hb := b.toNat_lt
  have hc := c.toNat_lt
  have hd := d.toNat_lt
  have s : ∀ (k : Nat) (x : UInt8), k ≤ 24 → (wide x <<< k).toNat = x.toNat <<< k := fun k x hk => by
    have hx := x.toNat_lt
    rw [BitVec.toNat_shiftLeft, wide_nat, Nat.mod_eq_of_lt]
    rw [Nat.shiftLeft_eq]
    have h1 : (2 : Nat) ^ k ≤ 2 ^ 24 := Nat.pow_le_pow_right (by omega) hk
    have h2 : x.toNat * 2 ^ k ≤ x.toNat * 2 ^ 24 := Nat.mul_le_mul_left _ h1
    omega
  unfold un4
  rw [BitVec.toNat_or, BitVec.toNat_or, BitVec.toNat_or, BitVec.toNat_or, s 0 a (by omega), s 8 b (by omega), s 16 c (by omega), s 24 d (by omega)]
  have e0 : (0#32).toNat ||| a.toNat <<< 0 = a.toNat := by simp
  have o : ∀ (k n x : Nat), n < 2 ^ k → n ||| x <<< k = n + x * 2 ^ k := fun k n x h => by
    have := Nat.shiftLeft_add_eq_or_of_lt h x
    rw [Nat.or_comm, ← this, Nat.shiftLeft_eq, Nat.add_comm]
  rw [e0, o 8 _ _ (by omega), o 16 _ _ (by omega), o 24 _ _ (by omega)]

theorem un4_le4 (x : BitVec 32) : un4 (low x) (low (x >>> 8)) (low (x >>> 16)) (low (x >>> 24)) = x := by
  refine BitVec.eq_of_toNat_eq ?_
  have := x.isLt
  rw [un4_nat, low_nat, low_nat, low_nat, low_nat, BitVec.toNat_ushiftRight, BitVec.toNat_ushiftRight, BitVec.toNat_ushiftRight, Nat.shiftRight_eq_div_pow, Nat.shiftRight_eq_div_pow, Nat.shiftRight_eq_div_pow]
  omega
theorem un4_inj {a b c d a' b' c' d' : UInt8} (h : un4 a b c d = un4 a' b' c' d') : a = a' ∧ b = b' ∧ c = c' ∧ d = d' := by
  have h := congrArg BitVec.toNat h
  rw [un4_nat, un4_nat] at h
  have h1 := a.toNat_lt
  have h2 := b.toNat_lt
  have h3 := c.toNat_lt
  have h4 := d.toNat_lt
  have h5 := a'.toNat_lt
  have h6 := b'.toNat_lt
  have h7 := c'.toNat_lt
  have h8 := d'.toNat_lt
  refine ⟨UInt8.toNat_inj.1 ?_, UInt8.toNat_inj.1 ?_, UInt8.toNat_inj.1 ?_, UInt8.toNat_inj.1 ?_⟩ <;> omega

/-- A number's bytes. -/
def vnum (n : Nat) : List UInt8 := if n < 128 then [UInt8.ofNat n] else UInt8.ofNat (n % 128 + 128) :: vnum (n / 128)
  termination_by n
  decreasing_by omega

theorem vnum_lt {n : Nat} (h : n < 128) : vnum n = [UInt8.ofNat n] := by rw [vnum, if_pos h]
theorem vnum_ge {n : Nat} (h : ¬ n < 128) : vnum n = UInt8.ofNat (n % 128 + 128) :: vnum (n / 128) := by rw [vnum, if_neg h]
theorem vnum_length : ∀ (k n : Nat), n < 128 ^ k → 0 < k → (vnum n).length ≤ k
  | 0, n, _, h0 => absurd h0 (Nat.lt_irrefl 0)
  | 1, n, h, _ => by rw [vnum_lt (by simpa using h)]; simp
  | k + 2, n, h, _ => by
    by_cases hn : n < 128
    · rw [vnum_lt hn]; simp
    · rw [vnum_ge hn, List.length_cons]
      have := vnum_length (k + 1) (n / 128) (by rw [Nat.pow_succ] at h; exact Nat.div_lt_of_lt_mul (by rw [Nat.mul_comm]; exact h)) (by omega)
      omega
theorem vnum_pos (n : Nat) : 0 < (vnum n).length := by
  by_cases hn : n < 128
  · rw [vnum_lt hn]; simp
  · rw [vnum_ge hn]; simp
theorem vnum_len (n : Nat) (h : n < 2 ^ 64) : (vnum n).length ≤ 10 := vnum_length 10 n (Nat.lt_of_lt_of_le h (by decide)) (by decide)

/-- The next number: what was read, behind so many bytes. -/
def rnum (i n : Nat) : List UInt8 → Option (Nat × List UInt8)
  | [] => none
  | b :: l =>
    if (i = 9 ∧ 1 < b.toNat) ∨ (b = 0 ∧ 0 < i) then none
    else if b.toNat < 128 then some (n ||| (b.toNat % 128 * 2 ^ (7 * i)) % 2 ^ 64, l)
    else rnum (i + 1) (n ||| (b.toNat % 128 * 2 ^ (7 * i)) % 2 ^ 64) l

theorem rnum_vnum : ∀ (k m i n : Nat) (l : List UInt8), k = (vnum m).length → n < 2 ^ (7 * i) → m * 2 ^ (7 * i) < 2 ^ 64 → (0 < i → 0 < m) → rnum i n (vnum m ++ l) = some (n + m * 2 ^ (7 * i), l) := by
  have or_add : ∀ (i n b : Nat), n < 2 ^ (7 * i) → n ||| b * 2 ^ (7 * i) = n + b * 2 ^ (7 * i) := fun i n b h => by
    have := Nat.shiftLeft_add_eq_or_of_lt h b
    rw [Nat.shiftLeft_eq] at this
    rw [Nat.or_comm, ← this, Nat.add_comm]
  intro k
  induction k with
  | zero => intro m i n l hk; have := vnum_pos m; omega
  | succ k ih =>
    intro m i n l hk hn hm h0
    have hi : m ≠ 0 → i ≤ 9 := fun hm0 => by
      rcases Nat.lt_or_ge i 10 with h | h
      · omega
      · have h1 : (2 : Nat) ^ 70 ≤ 2 ^ (7 * i) := Nat.pow_le_pow_right (by omega) (by omega)
        have h2 : 2 ^ (7 * i) ≤ m * 2 ^ (7 * i) := Nat.le_mul_of_pos_left _ (by omega)
        omega
    have h9 : i = 9 → m < 2 := fun h => by subst h; omega
    by_cases h : m < 128
    · rw [vnum_lt h, List.singleton_append, rnum]
      have hb : (UInt8.ofNat m).toNat = m := by simp [UInt8.toNat_ofNat']; omega
      rw [if_neg, hb, if_pos h, Nat.mod_eq_of_lt h, Nat.mod_eq_of_lt hm, or_add i n m hn]
      rw [hb]
      rintro (⟨h1, h2⟩ | ⟨h1, h2⟩)
      · have := h9 h1; omega
      · have := h0 h2
        have h3 := congrArg UInt8.toNat h1
        rw [hb] at h3
        simp at h3
        omega
    · rw [vnum_ge h, List.cons_append, rnum]
      have hb : (UInt8.ofNat (m % 128 + 128)).toNat = m % 128 + 128 := by simp [UInt8.toNat_ofNat']; omega
      have e : (m % 128 + 128) % 128 = m % 128 := by omega
      have hlt : m % 128 * 2 ^ (7 * i) < 2 ^ 64 := Nat.lt_of_le_of_lt (Nat.mul_le_mul_right _ (Nat.mod_le m 128)) hm
      rw [if_neg, hb, if_neg (by omega), e, Nat.mod_eq_of_lt hlt, or_add i n _ hn]
      · have hd : m = m % 128 + 128 * (m / 128) := by omega
        have e2 : (2 : Nat) ^ (7 * (i + 1)) = 128 * 2 ^ (7 * i) := by rw [Nat.mul_add, Nat.pow_add, Nat.mul_comm]
        have e3 : m / 128 * 2 ^ (7 * (i + 1)) = 128 * (m / 128) * 2 ^ (7 * i) := by rw [e2]; simp only [Nat.mul_assoc, Nat.mul_comm, Nat.mul_left_comm]
        have e4 : m * 2 ^ (7 * i) = m % 128 * 2 ^ (7 * i) + 128 * (m / 128) * 2 ^ (7 * i) := by rw [← Nat.add_mul, ← hd]
        rw [ih (m / 128) (i + 1) _ l (by rw [vnum_ge h] at hk; simpa using hk)]
        · rw [e3, e4, Nat.add_assoc]
        · rw [e2]
          have : m % 128 * 2 ^ (7 * i) ≤ 127 * 2 ^ (7 * i) := Nat.mul_le_mul_right _ (by omega)
          omega
        · rw [e3]; omega
        · intro _; omega
      · rw [hb]
        rintro (⟨h1, h2⟩ | ⟨h1, h2⟩)
        · have := h9 h1; omega
        · have h3 := congrArg UInt8.toNat h1
          rw [hb] at h3
          simp at h3

theorem rnum_of (m : Nat) (h : m < 2 ^ 64) (l : List UInt8) : rnum 0 0 (vnum m ++ l) = some (m, l) := by
  rw [rnum_vnum _ m 0 0 l rfl (by decide) (by simpa using h) (by omega)]
  simp

theorem rnum_trunc : ∀ (k m i n j : Nat), k = (vnum m).length → j < k → rnum i n ((vnum m).take j) = none := by
  intro k
  induction k with
  | zero => intro m i n j _ hj; omega
  | succ k ih =>
    intro m i n j hk hj
    cases j with
    | zero => rw [List.take_zero]; rfl
    | succ j =>
      by_cases hm : m < 128
      · rw [vnum_lt hm] at hk; simp at hk; omega
      · have hv := vnum_ge hm
        rw [hv] at hk ⊢
        rw [List.length_cons] at hk
        rw [List.take_succ_cons, rnum]
        have hb : ¬ (UInt8.ofNat (m % 128 + 128)).toNat < 128 := by simp; omega
        rw [if_neg hb]
        split
        · rfl
        · exact ih (m / 128) (i + 1) _ j (by omega) (by omega)
end Go.Proofs.YtppeggedcaabkaaGreatDoor
end

section
namespace Go.Proofs.YtppeggedcaabkaaGreatDoor
open Go Go.Sx
set_option linter.unusedSimpArgs false
set_option linter.unusedVariables false

theorem wrap_u32 (x : BitVec 32) : IntKind.u32.wrap (x.toNat : Int) = x.toNat := by
  simp only [IntKind.wrap, IntKind.signed, IntKind.bits]
  have := x.isLt
  simp
  omega
/-- A number of 32 bits. -/
def nv (x : BitVec 32) : Int := x.toNat
theorem nv_inj {x y : BitVec 32} : nv x = nv y ↔ x = y := by
  constructor
  · intro h; exact BitVec.eq_of_toNat_eq (Int.ofNat_inj.1 h)
  · intro h; rw [h]
theorem xor_u32 (x y : BitVec 32) : binI .xor .u32 (nv x) (nv y) = some (.int .u32 (nv (x ^^^ y))) := by
  have : binI .xor .u32 (nv x) (nv y) = some (.int .u32 (IntKind.u32.wrap (BitVec.ofInt 32 (nv x) ^^^ BitVec.ofInt 32 (nv y)).toNat)) := rfl
  rw [this, nv, nv, BitVec.ofInt_natCast, BitVec.ofInt_natCast, BitVec.ofNat_toNat, BitVec.ofNat_toNat, BitVec.setWidth_eq, BitVec.setWidth_eq, wrap_u32]
  rfl
theorem and_u32 (x y : BitVec 32) : binI .and .u32 (nv x) (nv y) = some (.int .u32 (nv (x &&& y))) := by
  have : binI .and .u32 (nv x) (nv y) = some (.int .u32 (IntKind.u32.wrap (BitVec.ofInt 32 (nv x) &&& BitVec.ofInt 32 (nv y)).toNat)) := rfl
  rw [this, nv, nv, BitVec.ofInt_natCast, BitVec.ofInt_natCast, BitVec.ofNat_toNat, BitVec.ofNat_toNat, BitVec.setWidth_eq, BitVec.setWidth_eq, wrap_u32]
  rfl
theorem or_u32 (x y : BitVec 32) : binI .or .u32 (nv x) (nv y) = some (.int .u32 (nv (x ||| y))) := by
  have : binI .or .u32 (nv x) (nv y) = some (.int .u32 (IntKind.u32.wrap (BitVec.ofInt 32 (nv x) ||| BitVec.ofInt 32 (nv y)).toNat)) := rfl
  rw [this, nv, nv, BitVec.ofInt_natCast, BitVec.ofInt_natCast, BitVec.ofNat_toNat, BitVec.ofNat_toNat, BitVec.setWidth_eq, BitVec.setWidth_eq, wrap_u32]
  rfl
theorem xor_poly (x : BitVec 32) : binI .xor .u32 (nv x) 3988292384 = some (.int .u32 (nv (x ^^^ 3988292384#32))) := xor_u32 x 3988292384#32
theorem and_one (x : BitVec 32) : binI .and .u32 (nv x) 1 = some (.int .u32 (nv (x &&& 1#32))) := and_u32 x 1#32
theorem shr_one (x : BitVec 32) : shI .shr .u32 (nv x) 1 = some (.int .u32 (nv (x >>> 1))) := by
  have : shI .shr .u32 (nv x) 1 = some (.int .u32 ((x.toNat : Int).fdiv (2 ^ 1))) := rfl
  rw [this, nv, BitVec.toNat_ushiftRight, Nat.shiftRight_eq_div_pow, Int.fdiv_eq_ediv_of_nonneg _ (by decide)]
  norm_cast
theorem wrap_byte (b : UInt8) : IntKind.u32.wrap (b.toNat : Int) = nv (wide b) := by
  have hb := b.toNat_lt
  simp only [IntKind.wrap, IntKind.signed, IntKind.bits, nv, wide, BitVec.toNat_ofNat]
  simp
  omega

theorem not_u32 (x : BitVec 32) : unL .xor (.p (.s (.int .u32 (nv x)))) = some (.p (.s (.int .u32 (nv (~~~ x))))) := by
  have : unL .xor (.p (.s (.int .u32 (nv x)))) = some (.p (.s (.int .u32 (IntKind.u32.wrap (BitVec.ofInt 32 4294967295 ^^^ BitVec.ofInt 32 (nv x)).toNat)))) := rfl
  have h1 : BitVec.ofInt 32 4294967295 = BitVec.allOnes 32 := by decide
  rw [this, h1, nv, BitVec.ofInt_natCast, BitVec.ofNat_toNat, BitVec.setWidth_eq, BitVec.allOnes_xor, wrap_u32]
  rfl

theorem shr_u32 (x : BitVec 32) (k : Nat) (hk : k ≤ 32) : shI .shr .u32 (nv x) k = some (.int .u32 (nv (x >>> k))) := by
  have : shI .shr .u32 (nv x) k = some (.int .u32 ((x.toNat : Int).fdiv (2 ^ (min k 32)))) := by
    simp only [shI, nv]
    rw [if_neg (by omega)]
    rfl
  rw [this, nv, BitVec.toNat_ushiftRight, Nat.shiftRight_eq_div_pow, Int.fdiv_eq_ediv_of_nonneg _ (Int.le_of_lt (Int.pow_pos (by decide))), Nat.min_eq_left hk]
  norm_cast
theorem shl_u32 (x : BitVec 32) (k : Nat) (hk : k ≤ 32) : shI .shl .u32 (nv x) k = some (.int .u32 (nv (x <<< k))) := by
  have : shI .shl .u32 (nv x) k = some (.int .u32 (IntKind.u32.wrap ((x.toNat : Int) * (2 ^ (min k 32))))) := by
    simp only [shI, nv]
    rw [if_neg (by omega)]
    rfl
  rw [this, nv, BitVec.toNat_shiftLeft, Nat.shiftLeft_eq, Nat.min_eq_left hk]
  simp [IntKind.wrap, IntKind.signed, IntKind.bits]
theorem wrap_low (x : BitVec 32) : IntKind.u8.wrap (nv x) = (low x).toNat := by
  rw [low_nat, nv]
  simp [IntKind.wrap, IntKind.signed, IntKind.bits]

theorem shr0 (x : BitVec 32) : shI .shr .u32 (nv x) 0 = some (.int .u32 (nv x)) := shr_u32 x 0 (by decide)
theorem shr8 (x : BitVec 32) : shI .shr .u32 (nv x) 8 = some (.int .u32 (nv (x >>> 8))) := shr_u32 x 8 (by decide)
theorem shr16 (x : BitVec 32) : shI .shr .u32 (nv x) 16 = some (.int .u32 (nv (x >>> 16))) := shr_u32 x 16 (by decide)
theorem shr24 (x : BitVec 32) : shI .shr .u32 (nv x) 24 = some (.int .u32 (nv (x >>> 24))) := shr_u32 x 24 (by decide)
theorem shl0 (x : BitVec 32) : shI .shl .u32 (nv x) 0 = some (.int .u32 (nv (x <<< 0))) := shl_u32 x 0 (by decide)
theorem shl8 (x : BitVec 32) : shI .shl .u32 (nv x) 8 = some (.int .u32 (nv (x <<< 8))) := shl_u32 x 8 (by decide)
theorem shl16 (x : BitVec 32) : shI .shl .u32 (nv x) 16 = some (.int .u32 (nv (x <<< 16))) := shl_u32 x 16 (by decide)
theorem shl24 (x : BitVec 32) : shI .shl .u32 (nv x) 24 = some (.int .u32 (nv (x <<< 24))) := shl_u32 x 24 (by decide)
theorem or_zero (x : BitVec 32) : binI .or .u32 0 (nv x) = some (.int .u32 (nv (0#32 ||| x))) := or_u32 0#32 x

section sum
variable (c : Ctx) (h : Hp)
theorem sumIn_step (n : Nat) (j : Nat) (hj : j < 8) (r : BitVec 32) (x6 x7 x8 : LV) :
    runCS c n ir78_0 ⟨[(3, .int .u32 (nv r)), (6, x6), (7, x7), (8, x8), (16, .int .i64 j)], h⟩ =
      some (.normal, ⟨[(3, .int .u32 (nv (stp r))), (6, x6), (7, x7), (8, x8), (16, .int .i64 (j + 1 : Nat))], h⟩) := by
  have h8 : ¬ (8 : Int) ≤ j := by omega
  have hw : IntKind.i64.wrap ((j : Int) + 1) = (j : Int) + 1 := wrap_i64 _ (by omega) (by omega)
  have h1 : nv 1#32 = 1 := rfl
  by_cases hb : r &&& 1#32 = 1#32
  · have hb' : nv (r &&& 1#32) = 1 := by rw [hb]; rfl
    simp [ir78_0, ssB, List.idxOf?_cons, Go.Sx.LV.undef, Go.undef, Go.Sx.callO, Go.Sx.splice, Go.Sx.finish, Go.Sx.look, Go.Sx.push, Go.Sx.setObj, Go.Sx.setU, Go.Sx.setAll, Go.Sx.appO, Go.Sx.leI_eq, ltF, h8, hw, and_one, shr_one, xor_poly, stp, hb, h1]
  · have hb' : ¬ nv (r &&& 1#32) = 1 := fun e => hb (nv_inj.1 e)
    simp [ir78_0, ssB, List.idxOf?_cons, Go.Sx.LV.undef, Go.undef, Go.Sx.callO, Go.Sx.splice, Go.Sx.finish, Go.Sx.look, Go.Sx.push, Go.Sx.setObj, Go.Sx.setU, Go.Sx.setAll, Go.Sx.appO, Go.Sx.leI_eq, ltF, h8, hw, and_one, shr_one, xor_poly, stp, hb, hb']
theorem sumIn_out (n : Nat) (r : BitVec 32) (x6 x7 x8 : LV) :
    runCS c n ir78_0 ⟨[(3, .int .u32 (nv r)), (6, x6), (7, x7), (8, x8), (16, .int .i64 8)], h⟩ =
      some (.exit 2, ⟨[(3, .int .u32 (nv r)), (6, x6), (7, x7), (8, x8), (16, .int .i64 8), (17, .bool false)], h⟩) := by
  simp [ir78_0, ssB, List.idxOf?_cons, Go.Sx.LV.undef, Go.undef, Go.Sx.callO, Go.Sx.splice, Go.Sx.finish, Go.Sx.look, Go.Sx.push, Go.Sx.setObj, Go.Sx.setU, Go.Sx.setAll, Go.Sx.appO, Go.Sx.leI_eq, ltF]
theorem sumIn_all (n : Nat) (x6 x7 x8 : LV) : ∀ (k m j : Nat) (r : BitVec 32), j + k = 8 → k < m → iter (runCS c n ir78_0) m ⟨[(3, .int .u32 (nv r)), (6, x6), (7, x7), (8, x8), (16, .int .i64 j)], h⟩ =
      some (.exit 2, ⟨[(3, .int .u32 (nv (Nat.repeat stp k r))), (6, x6), (7, x7), (8, x8), (16, .int .i64 8), (17, .bool false)], h⟩) := by
  intro k
  induction k with
  | zero =>
    intro m j r hj hm
    obtain ⟨m, rfl⟩ : ∃ q, m = q + 1 := ⟨m - 1, by omega⟩
    obtain rfl : j = 8 := by omega
    exact iter_out (sumIn_out c h n r x6 x7 x8) (by simp)
  | succ k ih =>
    intro m j r hj hm
    obtain ⟨m, rfl⟩ : ∃ q, m = q + 1 := ⟨m - 1, by omega⟩
    rw [iter_step (sumIn_step c h n j (by omega) r x6 x7 x8), ih m (j + 1) (stp r) (by omega) (by omega), rep_succ]
end sum

section sum
variable {c : Ctx}
theorem sumOut_step {n : Nat} (hn : 9 ≤ n) {h : Hp} {l : List UInt8} {id : Nat} (hl : Go.Sx.look c.H c.nx h id = some (.cells (byt l))) (cp : Nat) (ex : Bool) (j : Nat) (b : UInt8) (hj : l[j]? = some b) (h62 : l.length < 2 ^ 62) (r : BitVec 32) :
    runCS c n ir78_1 ⟨[(3, .int .u32 (nv r)), (6, .arr id 0 l.length 1 cp ex), (7, .int .i64 l.length), (8, .int .i64 j)], h⟩ =
      some (.normal, ⟨[(3, .int .u32 (nv (crcB r b))), (6, .arr id 0 l.length 1 cp ex), (7, .int .i64 l.length), (8, .int .i64 (j + 1 : Nat))], h⟩) := by
  obtain ⟨hlt, hv⟩ := List.getElem?_eq_some_iff.1 hj
  have h8 : ¬ (l.length : Int) ≤ j := by omega
  have hw : IntKind.i64.wrap ((j : Int) + 1) = (j : Int) + 1 := wrap_i64 _ (by omega) (by omega)
  have hb : (byt l)[j]? = some (.int .u8 b.toNat) := by simp [byt, hj]
  have hs := sumIn_all c h n (.arr id 0 l.length 1 cp ex) (.int .i64 l.length) (.int .i64 j) 8 n 0 (r ^^^ wide b) rfl (by omega)
  simp only [Int.natCast_zero, Int.ofNat_zero] at hs
  simp [ir78_1, ssB, List.idxOf?_cons, Go.Sx.LV.undef, Go.undef, Go.Sx.callO, Go.Sx.splice, Go.Sx.finish, Go.Sx.push, Go.Sx.setObj, Go.Sx.setU, Go.Sx.setAll, Go.Sx.appO, Go.Sx.leI_eq, ltF, h8, hw, hlt, hb, hl, wrap_byte, xor_u32, hs, crcB]
theorem sumOut_out {n : Nat} {h : Hp} (len : Nat) (x : LV) (r : BitVec 32) :
    runCS c n ir78_1 ⟨[(3, .int .u32 (nv r)), (6, x), (7, .int .i64 len), (8, .int .i64 len)], h⟩ =
      some (.exit 0, ⟨[(3, .int .u32 (nv r)), (6, x), (7, .int .i64 len), (8, .int .i64 len), (9, .bool false)], h⟩) := by
  simp [ir78_1, ssB, List.idxOf?_cons, Go.Sx.LV.undef, Go.undef, Go.Sx.callO, Go.Sx.splice, Go.Sx.finish, Go.Sx.look, Go.Sx.push, Go.Sx.setObj, Go.Sx.setU, Go.Sx.setAll, Go.Sx.appO, Go.Sx.leI_eq, ltF]
theorem sumOut_all {n : Nat} (hn : 9 ≤ n) {h : Hp} {l : List UInt8} {id : Nat} (hl : Go.Sx.look c.H c.nx h id = some (.cells (byt l))) (cp : Nat) (ex : Bool) (h62 : l.length < 2 ^ 62) : ∀ (k m j : Nat) (r : BitVec 32), j + k = l.length → k < m →
    iter (runCS c n ir78_1) m ⟨[(3, .int .u32 (nv r)), (6, .arr id 0 l.length 1 cp ex), (7, .int .i64 l.length), (8, .int .i64 j)], h⟩ =
      some (.exit 0, ⟨[(3, .int .u32 (nv (crcL r (l.drop j)))), (6, .arr id 0 l.length 1 cp ex), (7, .int .i64 l.length), (8, .int .i64 l.length), (9, .bool false)], h⟩) := by
  intro k
  induction k with
  | zero =>
    intro m j r hj hm
    obtain ⟨m, rfl⟩ : ∃ q, m = q + 1 := ⟨m - 1, by omega⟩
    obtain rfl : j = l.length := by omega
    rw [List.drop_length]
    exact iter_out (sumOut_out _ _ r) (by simp)
  | succ k ih =>
    intro m j r hj hm
    obtain ⟨m, rfl⟩ : ∃ q, m = q + 1 := ⟨m - 1, by omega⟩
    have hlt : j < l.length := by omega
    rw [iter_step (sumOut_step hn hl cp ex j l[j] (List.getElem?_eq_getElem hlt) h62 r), ih m (j + 1) _ (by omega) (by omega), List.drop_eq_getElem_cons hlt]
    rfl
end sum

theorem sum_ (l : List UInt8) (h62 : l.length < 2 ^ 62) (id cp : Nat) (ex : Bool) (H : Heap) (nx : Nat) (hl : H id = some (.cells (byt l))) (hid : id < nx) :
    Ω 78 [.arr id 0 l.length 1 cp ex] H nx = some (.int .u32 (nv (crc l)), [], []) := by
  refine om_run (ir := ir78) (by kernel_rfl) (l.length + 9) ?_
  have hlk : Go.Sx.look H nx ⟨[], []⟩ id = some (.cells (byt l)) := by simp [Go.Sx.look, findU, hid, hl]
  have hs := sumOut_all (c := ⟨Ω, noG, H, nx⟩) (n := l.length + 9) (by omega) hlk cp ex h62 l.length (l.length + 9) 0 4294967295#32 (by omega) (by omega)
  have h1 : nv 4294967295#32 = 4294967295 := rfl
  rw [List.drop_zero, h1] at hs
  simp only [Int.natCast_zero, Int.ofNat_zero] at hs
  simp [ir78, ssB, List.idxOf?_cons, Go.Sx.LV.undef, Go.undef, Go.Sx.callO, Go.Sx.splice, Go.Sx.finish, Go.Sx.push, Go.Sx.setObj, Go.Sx.setU, Go.Sx.setAll, Go.Sx.appO, Go.Sx.leI_eq, ltF, hs, not_u32, crc]

theorem lay_nil (x : BitVec 32) (H : Heap) (nx : Nat) : Ω 77 [.p (.s (.slice none 0 0)), .int .u32 (nv x)] H nx =
    some (.arr nx 0 4 1 4 false, [], [some (.cells (byt (le4 x)))]) := by
  refine om_run (ir := ir77) (by kernel_rfl) 6 ?_
  simp [ir77, ir77_0, ssB, List.idxOf?_cons, Go.Sx.LV.undef, Go.undef, Go.Sx.callO, Go.Sx.splice, Go.Sx.finish, Go.Sx.look, Go.Sx.push, Go.Sx.setObj, Go.Sx.setU, Go.Sx.setAll, Go.Sx.appO, Go.Sx.leI_eq, ltF, iter, wrap_i64, shr0, shr8, shr16, shr24, wrap_low, byt, le4]

theorem lay_arr (a b c d : UInt8) (x : BitVec 32) (id : Nat) (H : Heap) (nx : Nat) (hl : H id = some (.cells (byt [a, b, c, d]))) (hid : id < nx) : Ω 77 [.arr id 0 4 1 4 true, .int .u32 (nv x)] H nx =
    some (.arr nx 0 8 1 8 false, [], [some (.cells (byt ([a, b, c, d] ++ le4 x)))]) := by
  refine om_run (ir := ir77) (by kernel_rfl) 6 ?_
  simp only [byt, List.map] at hl
  simp [ir77, ir77_0, ssB, List.idxOf?_cons, Go.Sx.LV.undef, Go.undef, Go.Sx.callO, Go.Sx.splice, Go.Sx.finish, Go.Sx.look, Go.Sx.push, Go.Sx.setObj, Go.Sx.setU, Go.Sx.setAll, Go.Sx.appO, Go.Sx.leI_eq, ltF, iter, wrap_i64, shr0, shr8, shr16, shr24, wrap_low, byt, le4, hl, hid]

theorem take_ (a b c d : UInt8) (l : List PV) (len : Nat) (fl : Bool) (h4 : 4 ≤ len) (H : Heap) (nx : Nat) :
    Ω 94 [.p (.sl (.s (.int .u8 a.toNat) :: .s (.int .u8 b.toNat) :: .s (.int .u8 c.toNat) :: .s (.int .u8 d.toNat) :: l) len 1 fl)] H nx = some (.int .u32 (nv (un4 a b c d)), [], []) := by
  refine om_run (ir := ir94) (by kernel_rfl) 6 ?_
  have h0 : 0 < len := by omega
  have h1 : 1 < len := by omega
  have h2 : 2 < len := by omega
  have h3 : 3 < len := by omega
  simp [ir94, ir94_0, ssB, List.idxOf?_cons, Go.Sx.LV.undef, Go.undef, Go.Sx.callO, Go.Sx.splice, Go.Sx.finish, Go.Sx.look, Go.Sx.push, Go.Sx.setObj, Go.Sx.setU, Go.Sx.setAll, Go.Sx.appO, Go.Sx.leI_eq, ltF, iter, wrap_i64, shl0, shl8, shl16, shl24, wrap_byte, or_zero, or_u32, un4, h0, h1, h2, h3]

/-- The frame of some bytes. -/
def frame (l : List UInt8) : List UInt8 := le4 (BitVec.ofNat 32 l.length) ++ le4 (crc (le4 (BitVec.ofNat 32 l.length) ++ l)) ++ l
theorem wrap_len (n : Nat) : IntKind.u32.wrap (n : Int) = nv (BitVec.ofNat 32 n) := by
  rw [nv, BitVec.toNat_ofNat]
  simp [IntKind.wrap, IntKind.signed, IntKind.bits]

theorem frame_ (l : List UInt8) (h0 : 0 < l.length) (h30 : l.length < 2 ^ 30) (id cp : Nat) (ex : Bool) (H : Heap) (nx : Nat) (hl : H id = some (.cells (byt l))) (hid : id < nx) :
    Ω 31 [.arr id 0 l.length 1 cp ex] H nx = some (.arr nx 0 (8 + l.length) 1 (8 + l.length) false, [], [some (.cells (byt (frame l)))]) := by
  refine om_run (ir := ir31) (by kernel_rfl) 0 ?_
  have hs : ∀ (id cp : Nat) (ex : Bool) (H : Heap) (nx : Nat), H id = some (.cells (byt (le4 (BitVec.ofNat 32 l.length)) ++ byt l)) → id < nx →
      Ω 78 [.arr id 0 (4 + l.length) 1 cp ex] H nx = some (.int .u32 (nv (crc (le4 (BitVec.ofNat 32 l.length) ++ l))), [], []) := fun id cp ex H nx h1 h2 => by
    have := sum_ (le4 (BitVec.ofNat 32 l.length) ++ l) (by simp [le4]; omega) id cp ex H nx (by rw [byt_app]; exact h1) h2
    have e : (le4 (BitVec.ofNat 32 l.length) ++ l).length = 4 + l.length := by simp [le4]; omega
    rwa [e] at this
  have hb : ∀ (x : BitVec 32), byt (le4 x) = [.int .u8 (low x).toNat, .int .u8 (low (x >>> 8)).toNat, .int .u8 (low (x >>> 16)).toNat, .int .u8 (low (x >>> 24)).toNat] := fun x => rfl
  have hne : ¬ l.length = 0 := by omega
  have hla := fun id H nx h1 h2 => lay_arr (low (BitVec.ofNat 32 l.length)) (low (BitVec.ofNat 32 l.length >>> 8)) (low (BitVec.ofNat 32 l.length >>> 16)) (low (BitVec.ofNat 32 l.length >>> 24)) (crc (le4 (BitVec.ofNat 32 l.length) ++ l)) id H nx h1 h2
  simp only [byt_app, hb] at hs
  simp only [byt_app, hb, byt_cons, byt_nil] at hla
  have h41 : ¬ 1099511627776 < 4 + l.length := by omega
  have h42 : ¬ 1099511627776 < 8 + l.length := by omega
  have hk : ∀ k, id < nx + k := fun k => by omega
  simp [ir31, ssB, List.idxOf?_cons, Go.Sx.LV.undef, Go.undef, Go.Sx.callO, Go.Sx.splice, Go.Sx.finish, Go.Sx.look, Go.Sx.push, Go.Sx.setObj, Go.Sx.setU, Go.Sx.setAll, Go.Sx.appO, Go.Sx.leI_eq, ltF, hid, hk, hl, wrap_len, lay_nil, byt_len, bytP_len, take_byt, ids_byt, ren_byt, ids_app, ren_app, allP_byt, allP_app, hs, hla, hb, hne, h41, h42, frame]
  rw [byt_app, byt_app, hb, hb]
  rfl

theorem frame_len (l : List UInt8) : (frame l).length = 8 + l.length := by simp [frame, le4]; omega
theorem frame_' (l : List UInt8) (h0 : 0 < l.length) (h30 : l.length < 2 ^ 30) (id cp : Nat) (ex : Bool) (H : Heap) (nx : Nat) (hl : H id = some (.cells (byt l))) (hid : id < nx) :
    Ω 31 [.arr id 0 l.length 1 cp ex] H nx = some (.arr nx 0 (frame l).length 1 (frame l).length false, [], [some (.cells (byt (frame l)))]) := by
  rw [frame_len]
  exact frame_ l h0 h30 id cp ex H nx hl hid

/- Bytes behind bytes. -/
theorem look_last (H : Heap) (nx : Nat) (h : Hp) (o : Go.Sx.Obj) : Go.Sx.look H nx (push h o) (nx + h.new.length) = some o := by
  simp [Go.Sx.look, push, ltF]
theorem look_before (H : Heap) (nx : Nat) (h : Hp) (o : Go.Sx.Obj) (i : Nat) (hi : i < nx + h.new.length) : Go.Sx.look H nx (push h o) i = Go.Sx.look H nx h i := by
  rw [look_push, if_neg (by omega)]
theorem app1 {c : Ctx} {h : Hp} {q : List UInt8} {i j : Nat} {ex : Bool} {b : UInt8} (hi : Go.Sx.look c.H c.nx h i = some (.cells (byt q))) (hj : Go.Sx.look c.H c.nx h j = some (.cells [.int .u8 b.toNat])) (h30 : q.length < 2 ^ 31) :
    appO c h 1 1 (.arr i 0 q.length 1 q.length ex) (.arr j 0 1 1 1 true) = some ⟨.arr (c.nx + h.new.length) 0 (q.length + 1) 1 (q.length + 1) false,
      push (if ex then h else Go.Sx.setObj c.nx h i none) (.cells (byt (q ++ [b]))), [i, j], !ex⟩ := by
  have h41 : ¬ 2 ^ 40 < (q.length + 1) * 1 := by omega
  cases ex <;> simp [appO, slCells, hi, hj, byt_len, h41, take_byt, byt_app, byt_cons, byt_nil, ids] <;> omega

theorem or128 : ∀ x : Fin 256, (BitVec.ofInt 8 (x.val : Int) ||| BitVec.ofInt 8 128).toNat = x.val % 128 + 128 := by decide +kernel
theorem byte_or (n : Nat) : binI .or .u8 (IntKind.u8.wrap (n : Int)) 128 = some (.int .u8 ((UInt8.ofNat (n % 128 + 128)).toNat : Nat)) := by
  have h1 : binI .or .u8 (IntKind.u8.wrap (n : Int)) 128 = some (.int .u8 (IntKind.u8.wrap (BitVec.ofInt 8 (IntKind.u8.wrap (n : Int)) ||| BitVec.ofInt 8 128).toNat)) := rfl
  have h2 : IntKind.u8.wrap (n : Int) = ((n % 256 : Nat) : Int) := by simp [IntKind.wrap, IntKind.signed, IntKind.bits]
  have h3 := or128 ⟨n % 256, Nat.mod_lt _ (by decide)⟩
  simp only at h3
  rw [h1, h2, h3]
  have h4 : IntKind.u8.wrap ((n % 256 % 128 + 128 : Nat) : Int) = ((n % 256 % 128 + 128 : Nat) : Int) := by
    simp [IntKind.wrap, IntKind.signed, IntKind.bits]
    omega
  rw [h4]
  simp
  omega
theorem wrap_u8 (n : Nat) : IntKind.u8.wrap (n : Int) = ((UInt8.ofNat n).toNat : Nat) := by
  simp [IntKind.wrap, IntKind.signed, IntKind.bits]
theorem shr7 (n : Nat) : shI .shr .u64 n 7 = some (.int .u64 (n / 128 : Nat)) := by
  have : shI .shr .u64 (n : Int) 7 = some (.int .u64 ((n : Int).fdiv (2 ^ 7))) := rfl
  rw [this, Int.fdiv_eq_ediv_of_nonneg _ (by decide)]
  norm_cast

section num
variable {c : Ctx}
theorem num_step {N : Nat} {h : Hp} {q : List UInt8} {i n : Nat} {ex : Bool} (hn : 128 ≤ n) (hi : Go.Sx.look c.H c.nx h i = some (.cells (byt q))) (hlt : i < c.nx + h.new.length) (h30 : q.length < 2 ^ 31) :
    runCS c N ir26_0 ⟨[(0, .arr i 0 q.length 1 q.length ex), (1, .int .u64 n)], h⟩ =
      some (.normal, ⟨[(0, .arr (c.nx + (h.new.length + 1)) 0 (q.length + 1) 1 (q.length + 1) false), (1, .int .u64 (n / 128 : Nat))],
        push (if ex then push h (.cells [.int .u8 (UInt8.ofNat (n % 128 + 128)).toNat]) else Go.Sx.setObj c.nx (push h (.cells [.int .u8 (UInt8.ofNat (n % 128 + 128)).toNat])) i none) (.cells (byt (q ++ [UInt8.ofNat (n % 128 + 128)])))⟩) := by
  have hn' : (128 : Int) ≤ n := by omega
  have ha := app1 (c := c) (h := push h (.cells [.int .u8 (UInt8.ofNat (n % 128 + 128)).toNat])) (q := q) (i := i) (j := c.nx + h.new.length) (ex := ex) (b := UInt8.ofNat (n % 128 + 128))
    (by rw [look_before _ _ _ _ _ hlt]; exact hi) (look_last _ _ _ _) h30
  have hb := byte_or n
  have hl : (push h (.cells [.int .u8 (UInt8.ofNat (n % 128 + 128)).toNat])).new.length = h.new.length + 1 := by simp [push]
  rw [hl] at ha
  generalize UInt8.ofNat (n % 128 + 128) = b at *
  simp [ir26_0, ssB, List.idxOf?_cons, Go.Sx.LV.undef, Go.undef, Go.Sx.callO, Go.Sx.splice, Go.Sx.finish, Go.Sx.setAll, Go.Sx.leI_eq, ltF, hn', hb, ha, shr7]
theorem num_out {N : Nat} {h : Hp} {x : LV} {n : Nat} (hn : n < 128) :
    runCS c N ir26_0 ⟨[(0, x), (1, .int .u64 n)], h⟩ = some (.exit 0, ⟨[(0, x), (1, .int .u64 n), (12, .bool false)], h⟩) := by
  have hn' : ¬ (128 : Int) ≤ n := by omega
  simp [ir26_0, ssB, List.idxOf?_cons, Go.Sx.LV.undef, Go.undef, Go.Sx.callO, Go.Sx.splice, Go.Sx.finish, Go.Sx.setAll, Go.Sx.leI_eq, ltF, hn']
theorem look_grow {h : Hp} {i : Nat} {o p : Go.Sx.Obj} {ex : Bool} (hex : ex = true ∨ c.nx ≤ i) (hu : h.upd = []) :
    Go.Sx.look c.H c.nx (push (if ex then push h o else Go.Sx.setObj c.nx (push h o) i none) p) (c.nx + (h.new.length + 1)) = some p ∧
    (push (if ex then push h o else Go.Sx.setObj c.nx (push h o) i none) p).upd = [] ∧
    (push (if ex then push h o else Go.Sx.setObj c.nx (push h o) i none) p).new.length = h.new.length + 2 := by
  cases ex with
  | true => exact ⟨by simp [Go.Sx.look, push, ltF], by simp [push, hu], by simp [push]⟩
  | false =>
    have hge : ¬ i < c.nx := by
      rcases hex with h | h
      · cases h
      · omega
    refine ⟨?_, ?_, ?_⟩
    · simp [Go.Sx.look, push, ltF, Go.Sx.setObj, hge]
    · simp [push, Go.Sx.setObj, hge, hu]
    · simp [push, Go.Sx.setObj, hge]

theorem num_loop {N : Nat} : ∀ (k n : Nat), k = (vnum n).length → ∀ (m : Nat) (h : Hp) (q : List UInt8) (i : Nat) (ex : Bool), k < m → Go.Sx.look c.H c.nx h i = some (.cells (byt q)) → i < c.nx + h.new.length → h.upd = [] → (ex = true ∨ c.nx ≤ i) → q.length + k < 2 ^ 31 →
    ∃ (h' : Hp) (q' : List UInt8) (i' n' : Nat) (ex' : Bool), iter (runCS c N ir26_0) m ⟨[(0, .arr i 0 q.length 1 q.length ex), (1, .int .u64 n)], h⟩ =
      some (.exit 0, ⟨[(0, .arr i' 0 q'.length 1 q'.length ex'), (1, .int .u64 n'), (12, .bool false)], h'⟩) ∧ q' ++ [UInt8.ofNat n'] = q ++ vnum n ∧
      Go.Sx.look c.H c.nx h' i' = some (.cells (byt q')) ∧ i' < c.nx + h'.new.length ∧ h'.upd = [] ∧ (ex' = true ∨ c.nx ≤ i') ∧ q'.length < 2 ^ 31 := by
  intro k
  induction k with
  | zero => intro n hk; have := vnum_pos n; omega
  | succ k ih =>
    intro n hk m h q i ex hm hi hlt hu hex hq
    obtain ⟨m, rfl⟩ : ∃ r, m = r + 1 := ⟨m - 1, by omega⟩
    by_cases hn : n < 128
    · exact ⟨h, q, i, n, ex, iter_out (num_out hn) (by simp), by rw [vnum_lt hn], hi, hlt, hu, hex, by omega⟩
    · obtain ⟨e1, e2, e3⟩ := look_grow (c := c) (h := h) (i := i) (ex := ex) (o := .cells [.int .u8 (UInt8.ofNat (n % 128 + 128)).toNat]) (p := .cells (byt (q ++ [UInt8.ofNat (n % 128 + 128)]))) hex hu
      rw [iter_step (num_step (by omega) hi hlt (by omega))]
      have hv := vnum_ge hn
      rw [hv, List.length_cons] at hk
      have hql : (q ++ [UInt8.ofNat (n % 128 + 128)]).length = q.length + 1 := by simp
      have := ih (n / 128) (by omega) m _ (q ++ [UInt8.ofNat (n % 128 + 128)]) (c.nx + (h.new.length + 1)) false (by omega) e1 (by rw [e3]; omega) e2 (.inr (by omega)) (by rw [hql]; omega)
      rw [hql] at this
      rw [hv]
      simpa using this
end num

theorem finish_arr {H : Heap} {nx i L : Nat} {h : Hp} {q : List UInt8} {ex : Bool} (hu : h.upd = []) (hi : nx ≤ i) (hl : Go.Sx.look H nx h i = some (.cells (byt q))) :
    finish true H nx (.arr i 0 L 1 L ex) h = some (.arr nx 0 L 1 L ex, [], [some (.cells (byt q))]) := by
  have h1 : ¬ i < nx := by omega
  simp [finish, ssB, List.idxOf?_cons, Go.Sx.LV.undef, Go.undef, Go.Sx.callO, Go.Sx.splice, Go.Sx.finish, Go.Sx.push, Go.Sx.setObj, Go.Sx.setU, Go.Sx.setAll, Go.Sx.appO, Go.Sx.leI_eq, ltF, hu, h1, hl, byt_len, bytP_len, take_byt, ids_byt, ren_byt, ids_app, ren_app, allP_byt, allP_app]

theorem num_ (q : List UInt8) (n : Nat) (h64 : n < 2 ^ 64) (hq : q.length < 2 ^ 30) (id cp : Nat) (ex : Bool) (H : Heap) (nx : Nat) (hl : H id = some (.cells (byt q))) (hid : id < nx) :
    Ω 26 [.arr id 0 q.length 1 cp ex, .int .u64 n] H nx = some (.arr nx 0 (q ++ vnum n).length 1 (q ++ vnum n).length false, [], [some (.cells (byt (q ++ vnum n)))]) := by
  refine om_run (ir := ir26) (by kernel_rfl) 11 ?_
  have hv := vnum_len n h64
  have hlk : Go.Sx.look H nx ⟨[], []⟩ id = some (.cells (byt q)) := by simp [Go.Sx.look, findU, hid, hl]
  obtain ⟨h', q', i', n', ex', e1, e2, e3, e4, e5, e6, e7⟩ := num_loop (c := ⟨Ω, noG, H, nx⟩) (N := 11) _ n rfl 11 ⟨[], []⟩ q id true (by omega) hlk (by simp; omega) rfl (.inl rfl) (by omega)
  rw [← e2]
  obtain ⟨f1, f2, f3⟩ := look_grow (c := ⟨Ω, noG, H, nx⟩) (h := h') (i := i') (ex := ex') (o := .cells [.int .u8 (UInt8.ofNat n').toNat]) (p := .cells (byt (q' ++ [UInt8.ofNat n']))) e6 e5
  have ha := app1 (c := ⟨Ω, noG, H, nx⟩) (h := push h' (.cells [.int .u8 (UInt8.ofNat n').toNat])) (q := q') (i := i') (j := nx + h'.new.length) (ex := ex') (b := UInt8.ofNat n')
    (by rw [look_before _ _ _ _ _ e4]; exact e3) (look_last _ _ _ _) e7
  have hl : (push h' (.cells [.int .u8 (UInt8.ofNat n').toNat])).new.length = h'.new.length + 1 := by simp [push]
  rw [hl] at ha
  have hw := wrap_u8 n'
  have hlen : (q' ++ [UInt8.ofNat n']).length = q'.length + 1 := by simp
  rw [hlen]
  generalize UInt8.ofNat n' = b at *
  dsimp only at ha f1 f2
  simp [ir26, ssB, List.idxOf?_cons, Go.Sx.LV.undef, Go.undef, Go.Sx.callO, Go.Sx.splice, Go.Sx.finish, Go.Sx.setAll, Go.Sx.leI_eq, ltF, e1, hw, ha, f1, f2, byt_len, bytP_len, take_byt, ids_byt, ren_byt, ids_app, ren_app, allP_byt, allP_app]
end Go.Proofs.YtppeggedcaabkaaGreatDoor
end
