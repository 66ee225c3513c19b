/- Functions that the law reaches, as the value machine has them: printed by a program of mine. No condition. -/
import Derived.Test.YtkdimbcfacoboaaGreatDoorSxV
namespace Go.Proofs.YtkdimbcfacoboaaGreatDoor
open Go Go.Sx
/-- kinfolk/kinfolklaw20.NetOrder -/
def ir3_0 : IRC := (.seq (.seq (.region [⟨(some 38), (.mv (.t 8)), none⟩,
    ⟨(some 39), (.len false (.t 38)), none⟩,
    ⟨(some 40), (.bin .gtr (.t 39) (.c (.p (.s (.int .i64 0))))), none⟩] none [1, 5, 8, 9, 40])
  (.cond (.t 40) .skip (.exit 2)))
  (.seq (.block 3 (.seq (.region [⟨(some 10), (.mv (.c (.p (.s (.int .i64 0))))), none⟩] none [1, 5, 8, 9, 10])
  (.seq (.seq (.region [⟨(some 43), (.mv (.t 9)), none⟩,
    ⟨(some 44), (.mv (.t 1)), none⟩,
    ⟨(some 45), (.len false (.t 44)), none⟩,
    ⟨(some 46), (.bin .lss (.t 43) (.t 45)), none⟩] none [1, 5, 8, 9, 10, 46])
  (.cond (.t 46) (.region [⟨(some 47), (.mv (.t 1)), none⟩,
    ⟨(some 48), (.mv (.t 9)), none⟩,
    ⟨(some 49), (.idxASl 1 (.t 47) (.t 48)), none⟩,
    ⟨(some 50), (.load 1 false (.t 49)), none⟩,
    ⟨(some 51), (.cvt .i64 (.t 50)), none⟩,
    ⟨(some 52), (.mv (.t 8)), none⟩,
    ⟨(some 53), (.len false (.t 52)), none⟩,
    ⟨(some 54), (.bin .rem (.t 51) (.t 53)), none⟩,
    ⟨(some 10), (.mv (.t 54)), none⟩] none [1, 5, 8, 9, 10]) .skip))
  (.seq (.region [⟨(some 56), (.mv (.t 5)), none⟩,
    ⟨(some 57), (.mv (.t 10)), none⟩,
    ⟨(some 58), (.call 8 [(.t 56), (.t 57)]), none⟩,
    ⟨(some 55), (.mv (.t 58)), none⟩,
    ⟨(some 59), (.ext (.t 55) 0), none⟩,
    ⟨(some 60), (.ext (.t 55) 1), none⟩,
    ⟨(some 11), (.alloc false [(.s (.int .i64 0)), (.s (.int .i64 0)), (.s (.int .i64 0)), (.s (.int .u64 0)), (.s (.int .i64 0)), (.s (.bool false)), (.s (.int .u64 0)), (.s (.pointer none)), (.s (.slice none 0 0)), (.s (.int .u64 0)), (.s (.int .i64 0)), (.s (.int .i64 0)), (.s (.bool false)), (.s (.pointer none)), (.s (.int .u64 0))]), none⟩,
    ⟨none, (.store 15 (.t 11) (.t 59)), none⟩,
    ⟨(some 12), (.mv (.t 60)), none⟩] none [1, 5, 8, 9, 10, 11, 12])
  (.seq (.seq (.region [⟨(some 61), (.mv (.t 12)), none⟩,
    ⟨(some 62), (.bin .neq (.t 61) (.c (.p (.s (.int .i64 0))))), none⟩,
    ⟨(some 63), (.mv (.t 62)), none⟩,
    ⟨(some 64), (.fieldAddr 14 (.t 11)), (some (63, false))⟩,
    ⟨(some 65), (.load 1 false (.t 64)), (some (63, false))⟩,
    ⟨(some 66), (.mv (.t 8)), (some (63, false))⟩,
    ⟨(some 67), (.mv (.t 10)), (some (63, false))⟩,
    ⟨(some 68), (.idxASl 1 (.t 66) (.t 67)), (some (63, false))⟩,
    ⟨(some 69), (.load 1 false (.t 68)), (some (63, false))⟩,
    ⟨(some 70), (.bin .neq (.t 65) (.t 69)), (some (63, false))⟩,
    ⟨(some 71), (.pick (.t 63) (.c (.p (.s (.bool true)))) (.t 70)), none⟩] (some [0, 1, 3, 7, 15, 7, 7, 103, 231, 511, 1023]) [1, 5, 8, 9, 10, 71])
  (.cond (.t 71) (.seq (.region [⟨(some 4), (.mv (.c (.p (.s (.bool false))))), none⟩] none [4])
  .ret) .skip))
  (.region [⟨(some 72), (.mkSl 0 1 [] []), none⟩,
    ⟨(some 73), (.mv (.t 8)), none⟩,
    ⟨(some 74), (.mv (.t 10)), none⟩,
    ⟨(some 75), (.slSl 1 (.t 73) none (some (.t 74)) none), none⟩,
    ⟨(some 76), (.app 1 8 (.t 72) (.t 75)), none⟩,
    ⟨(some 77), (.mv (.t 8)), none⟩,
    ⟨(some 78), (.mv (.t 10)), none⟩,
    ⟨(some 79), (.bin .add (.t 78) (.c (.p (.s (.int .i64 1))))), none⟩,
    ⟨(some 80), (.slSl 1 (.t 77) (some (.t 79)) none none), none⟩,
    ⟨(some 81), (.app 1 8 (.t 76) (.t 80)), none⟩,
    ⟨(some 8), (.mv (.t 81)), none⟩] (some [0, 0, 0, 6, 15, 0, 0, 64, 224, 511, 1023]) [1, 5, 8, 9]))))))
  (.region [⟨(some 41), (.mv (.t 9)), none⟩,
    ⟨(some 42), (.bin .add (.t 41) (.c (.p (.s (.int .i64 1))))), none⟩,
    ⟨(some 9), (.mv (.t 42)), none⟩] none [1, 5, 8, 9])))
def ir3_1 : IRC := (.seq (.region [⟨(some 26), (.bin .lss (.t 25) (.t 24)), none⟩] none [0, 1, 5, 23, 24, 25, 26])
  (.seq (.cond (.t 26) .skip (.exit 0))
  (.seq (.block 1 (.seq (.region [⟨(some 27), (.idxASl 1 (.t 23) (.t 25)), none⟩,
    ⟨(some 28), (.load 1 false (.t 27)), none⟩,
    ⟨(some 7), (.mv (.t 28)), none⟩] none [0, 1, 5, 7, 23, 24, 25])
  (.seq (.region [⟨(some 29), (.mv (.t 5)), none⟩,
    ⟨(some 30), (.mv (.t 7)), none⟩,
    ⟨(some 31), (.build [(.s (.int .i64 0)), (.s (.int .i64 0)), (.s (.int .i64 0)), (.s (.int .u64 0)), (.s (.int .i64 0)), (.s (.bool false)), (.s (.int .u64 0)), (.s (.pointer none)), (.s (.slice none 0 0)), (.s (.int .u64 0)), (.s (.int .i64 0)), (.s (.int .i64 0)), (.s (.bool false)), (.s (.pointer none)), (.s (.int .u64 0))] [(0, 1, (.c (.p (.s (.int .i64 7))))), (1, 1, (.c (.p (.s (.int .i64 1))))), (14, 1, (.t 30))]), none⟩,
    ⟨(some 32), (.call 7 [(.t 29), (.t 31)]), none⟩,
    ⟨(some 33), (.bin .neq (.t 32) (.c (.p (.s (.int .i64 0))))), none⟩] none [0, 1, 5, 23, 24, 25, 33])
  (.cond (.t 33) (.seq (.region [⟨(some 4), (.mv (.c (.p (.s (.bool false))))), none⟩] none [4])
  .ret) .skip))))
  (.region [⟨(some 34), (.bin .add (.t 25) (.c (.p (.s (.int .i64 1))))), none⟩,
    ⟨(some 25), (.mv (.t 34)), none⟩] none [0, 1, 5, 23, 24, 25]))))
def ir3 : IRF := ⟨[0, 1], (.seq (.region [⟨(some 4), (.mv (.c (.p (.s (.bool false))))), none⟩] none [0, 1])
  (.seq (.seq (.region [⟨(some 15), (.call 5 []), none⟩,
    ⟨(some 16), (.un .not (.t 15)), none⟩] none [0, 1, 16])
  (.cond (.t 16) (.seq (.region [⟨(some 4), (.mv (.c (.p (.s (.bool false))))), none⟩] none [4])
  .ret) .skip))
  (.seq (.region [⟨(some 17), (.call 6 [(.c (.p (.s (.int .i64 50))))]), none⟩,
    ⟨(some 5), (.mv (.t 17)), none⟩] none [0, 1, 5])
  (.seq (.region [⟨(some 18), (.mv (.t 0)), none⟩,
    ⟨(some 19), (.mv (.t 0)), none⟩,
    ⟨(some 20), (.len false (.t 19)), none⟩,
    ⟨(some 21), (.minmax false [(.t 20), (.c (.p (.s (.int .i64 30))))]), none⟩,
    ⟨(some 22), (.slSl 1 (.t 18) none (some (.t 21)) none), none⟩,
    ⟨(some 0), (.mv (.t 22)), none⟩] none [0, 1, 5])
  (.seq (.seq (.region [⟨(some 23), (.mv (.t 0)), none⟩,
    ⟨(some 24), (.len false (.t 23)), none⟩,
    ⟨(some 25), (.mv (.c (.p (.s (.int .i64 0))))), none⟩] none [0, 1, 5, 23, 24, 25])
  (.block 0 (.loop ir3_1)))
  (.seq (.region [⟨(some 35), (.mkSl 0 1 [] []), none⟩,
    ⟨(some 36), (.mv (.t 0)), none⟩,
    ⟨(some 37), (.app 1 8 (.t 35) (.t 36)), none⟩,
    ⟨(some 8), (.mv (.t 37)), none⟩] none [1, 5, 8])
  (.seq (.seq (.region [⟨(some 9), (.mv (.c (.p (.s (.int .i64 0))))), none⟩] none [1, 5, 8, 9])
  (.block 2 (.loop ir3_0)))
  (.seq (.region [⟨(some 83), (.mv (.t 5)), none⟩,
    ⟨(some 84), (.call 8 [(.t 83), (.c (.p (.s (.int .i64 0))))]), none⟩,
    ⟨(some 82), (.mv (.t 84)), none⟩,
    ⟨(some 85), (.ext (.t 82) 0), none⟩,
    ⟨(some 86), (.ext (.t 82) 1), none⟩,
    ⟨(some 13), (.alloc false [(.s (.int .i64 0)), (.s (.int .i64 0)), (.s (.int .i64 0)), (.s (.int .u64 0)), (.s (.int .i64 0)), (.s (.bool false)), (.s (.int .u64 0)), (.s (.pointer none)), (.s (.slice none 0 0)), (.s (.int .u64 0)), (.s (.int .i64 0)), (.s (.int .i64 0)), (.s (.bool false)), (.s (.pointer none)), (.s (.int .u64 0))]), none⟩,
    ⟨none, (.store 15 (.t 13) (.t 85)), none⟩,
    ⟨(some 14), (.mv (.t 86)), none⟩] none [5, 14])
  (.seq (.region [⟨(some 87), (.mv (.t 5)), none⟩,
    ⟨(some 88), (.call 9 [(.t 87)]), none⟩,
    ⟨(some 89), (.bin .eql (.t 88) (.c (.p (.s (.int .i64 0))))), none⟩,
    ⟨(some 90), (.mv (.t 89)), none⟩,
    ⟨(some 91), (.mv (.t 14)), (some (90, true))⟩,
    ⟨(some 92), (.bin .eql (.t 91) (.c (.p (.s (.int .i64 2))))), (some (90, true))⟩,
    ⟨(some 93), (.pick (.t 90) (.t 92) (.c (.p (.s (.bool false))))), none⟩,
    ⟨(some 4), (.mv (.t 93)), none⟩] none [4])
  .ret))))))))), [(4, none)], false⟩
/-- kinfolk/kinfolklaw20.NetTurned -/
def ir4 : IRF := ⟨[0, 1, 2, 3, 4], (.seq (.region [⟨(some 10), (.mv (.c (.p (.s (.bool false))))), none⟩] none [0, 1, 2, 3, 4])
  (.seq (.seq (.region [⟨(some 15), (.call 5 []), none⟩,
    ⟨(some 16), (.un .not (.t 15)), none⟩] none [0, 1, 2, 3, 4, 16])
  (.cond (.t 16) (.seq (.region [⟨(some 10), (.mv (.c (.p (.s (.bool false))))), none⟩] none [10])
  .ret) .skip))
  (.seq (.region [⟨(some 17), (.call 6 [(.c (.p (.s (.int .i64 3))))]), none⟩,
    ⟨(some 11), (.mv (.t 17)), none⟩] none [0, 1, 2, 3, 4, 11])
  (.seq (.region [⟨(some 18), (.mv (.t 0)), none⟩,
    ⟨(some 19), (.bin .rem (.t 18) (.c (.p (.s (.int .u8 12))))), none⟩,
    ⟨(some 20), (.cvt .i64 (.t 19)), none⟩,
    ⟨(some 21), (.mv (.t 1)), none⟩,
    ⟨(some 22), (.bin .rem (.t 21) (.c (.p (.s (.int .u8 12))))), none⟩,
    ⟨(some 23), (.cvt .i64 (.t 22)), none⟩,
    ⟨(some 24), (.mv (.t 2)), none⟩,
    ⟨(some 25), (.build [(.s (.int .i64 0)), (.s (.int .i64 0)), (.s (.int .i64 0)), (.s (.int .u64 0)), (.s (.int .i64 0)), (.s (.bool false)), (.s (.int .u64 0)), (.s (.pointer none)), (.s (.slice none 0 0)), (.s (.int .u64 0)), (.s (.int .i64 0)), (.s (.int .i64 0)), (.s (.bool false)), (.s (.pointer none)), (.s (.int .u64 0))] [(0, 1, (.c (.p (.s (.int .i64 7))))), (1, 1, (.t 20)), (2, 1, (.t 23)), (14, 1, (.t 24))]), none⟩,
    ⟨(some 12), (.alloc false [(.s (.int .i64 0)), (.s (.int .i64 0)), (.s (.int .i64 0)), (.s (.int .u64 0)), (.s (.int .i64 0)), (.s (.bool false)), (.s (.int .u64 0)), (.s (.pointer none)), (.s (.slice none 0 0)), (.s (.int .u64 0)), (.s (.int .i64 0)), (.s (.int .i64 0)), (.s (.bool false)), (.s (.pointer none)), (.s (.int .u64 0))]), none⟩,
    ⟨none, (.store 15 (.t 12) (.t 25)), none⟩] none [2, 3, 4, 11, 12])
  (.seq (.seq (.region [⟨(some 26), (.mv (.t 11)), none⟩,
    ⟨(some 27), (.load 15 true (.t 12)), none⟩,
    ⟨(some 28), (.call 7 [(.t 26), (.t 27)]), none⟩,
    ⟨(some 29), (.bin .neq (.t 28) (.c (.p (.s (.int .i64 0))))), none⟩] none [2, 3, 4, 11, 12, 29])
  (.cond (.t 29) (.seq (.region [⟨(some 30), (.fieldAddr 1 (.t 12)), none⟩,
    ⟨(some 31), (.load 1 false (.t 30)), none⟩,
    ⟨(some 32), (.fieldAddr 2 (.t 12)), none⟩,
    ⟨(some 33), (.load 1 false (.t 32)), none⟩,
    ⟨(some 34), (.bin .eql (.t 31) (.t 33)), none⟩,
    ⟨(some 10), (.mv (.t 34)), none⟩] none [10])
  .ret) .skip))
  (.seq (.seq (.region [⟨(some 35), (.mv (.t 11)), none⟩,
    ⟨(some 36), (.mv (.t 3)), none⟩,
    ⟨(some 37), (.mv (.t 4)), none⟩,
    ⟨(some 38), (.call 10 [(.t 35), (.c (.p (.s (.int .i64 0)))), (.t 36), (.t 37)]), none⟩,
    ⟨(some 39), (.bin .neq (.t 38) (.c (.p (.s (.int .i64 0))))), none⟩] none [2, 4, 11, 12, 39])
  (.cond (.t 39) (.seq (.region [⟨(some 10), (.mv (.c (.p (.s (.bool false))))), none⟩] none [10])
  .ret) .skip))
  (.seq (.region [⟨(some 41), (.mv (.t 11)), none⟩,
    ⟨(some 42), (.call 8 [(.t 41), (.c (.p (.s (.int .i64 0))))]), none⟩,
    ⟨(some 40), (.mv (.t 42)), none⟩,
    ⟨(some 43), (.ext (.t 40) 0), none⟩,
    ⟨(some 44), (.ext (.t 40) 1), none⟩,
    ⟨(some 13), (.alloc false [(.s (.int .i64 0)), (.s (.int .i64 0)), (.s (.int .i64 0)), (.s (.int .u64 0)), (.s (.int .i64 0)), (.s (.bool false)), (.s (.int .u64 0)), (.s (.pointer none)), (.s (.slice none 0 0)), (.s (.int .u64 0)), (.s (.int .i64 0)), (.s (.int .i64 0)), (.s (.bool false)), (.s (.pointer none)), (.s (.int .u64 0))]), none⟩,
    ⟨none, (.store 15 (.t 13) (.t 43)), none⟩,
    ⟨(some 14), (.mv (.t 44)), none⟩] none [2, 4, 12, 13, 14])
  (.seq (.seq (.region [⟨(some 45), (.mv (.t 4)), none⟩,
    ⟨(some 46), (.bin .eql (.t 45) (.c (.p (.s (.int .u8 0))))), none⟩] none [2, 12, 13, 14, 46])
  (.cond (.t 46) (.seq (.region [⟨(some 47), (.mv (.t 14)), none⟩,
    ⟨(some 48), (.bin .eql (.t 47) (.c (.p (.s (.int .i64 0))))), none⟩,
    ⟨(some 49), (.mv (.t 48)), none⟩,
    ⟨(some 50), (.fieldAddr 14 (.t 13)), (some (49, true))⟩,
    ⟨(some 51), (.load 1 false (.t 50)), (some (49, true))⟩,
    ⟨(some 52), (.mv (.t 2)), (some (49, true))⟩,
    ⟨(some 53), (.bin .eql (.t 51) (.t 52)), (some (49, true))⟩,
    ⟨(some 54), (.pick (.t 49) (.t 53) (.c (.p (.s (.bool false))))), none⟩,
    ⟨(some 55), (.mv (.t 54)), none⟩,
    ⟨(some 56), (.fieldAddr 1 (.t 13)), (some (55, true))⟩,
    ⟨(some 57), (.load 1 false (.t 56)), (some (55, true))⟩,
    ⟨(some 58), (.fieldAddr 1 (.t 12)), (some (55, true))⟩,
    ⟨(some 59), (.load 1 false (.t 58)), (some (55, true))⟩,
    ⟨(some 60), (.bin .eql (.t 57) (.t 59)), (some (55, true))⟩,
    ⟨(some 61), (.pick (.t 55) (.t 60) (.c (.p (.s (.bool false))))), none⟩,
    ⟨(some 62), (.mv (.t 61)), none⟩,
    ⟨(some 63), (.fieldAddr 2 (.t 13)), (some (62, true))⟩,
    ⟨(some 64), (.load 1 false (.t 63)), (some (62, true))⟩,
    ⟨(some 65), (.fieldAddr 2 (.t 12)), (some (62, true))⟩,
    ⟨(some 66), (.load 1 false (.t 65)), (some (62, true))⟩,
    ⟨(some 67), (.bin .eql (.t 64) (.t 66)), (some (62, true))⟩,
    ⟨(some 68), (.pick (.t 62) (.t 67) (.c (.p (.s (.bool false))))), none⟩,
    ⟨(some 10), (.mv (.t 68)), none⟩] none [10])
  .ret) .skip))
  (.seq (.region [⟨(some 69), (.mv (.t 14)), none⟩,
    ⟨(some 70), (.bin .neq (.t 69) (.c (.p (.s (.int .i64 0))))), none⟩,
    ⟨(some 71), (.mv (.t 70)), none⟩,
    ⟨(some 72), (.fieldAddr 0 (.t 13)), (some (71, true))⟩,
    ⟨(some 73), (.load 1 false (.t 72)), (some (71, true))⟩,
    ⟨(some 74), (.bin .eql (.t 73) (.c (.p (.s (.int .i64 0))))), (some (71, true))⟩,
    ⟨(some 75), (.pick (.t 71) (.t 74) (.c (.p (.s (.bool false))))), none⟩,
    ⟨(some 10), (.mv (.t 75)), none⟩] none [10])
  .ret))))))))), [(10, none)], false⟩
/-- kinfolk/kinfolklaw20.awake -/
def ir5 : IRF := ⟨[], (.seq (.region [⟨(some 0), (.mv (.c (.p (.s (.bool false))))), none⟩] none [])
  (.seq (.region [⟨(some 8), (.call 6 [(.c (.p (.s (.int .i64 5))))]), none⟩,
    ⟨(some 1), (.mv (.t 8)), none⟩] none [1])
  (.seq (.region [⟨(some 9), (.mv (.t 1)), none⟩,
    ⟨(some 10), (.build [(.s (.int .i64 0)), (.s (.int .i64 0)), (.s (.int .i64 0)), (.s (.int .u64 0)), (.s (.int .i64 0)), (.s (.bool false)), (.s (.int .u64 0)), (.s (.pointer none)), (.s (.slice none 0 0)), (.s (.int .u64 0)), (.s (.int .i64 0)), (.s (.int .i64 0)), (.s (.bool false)), (.s (.pointer none)), (.s (.int .u64 0))] [(0, 1, (.c (.p (.s (.int .i64 5))))), (1, 1, (.c (.p (.s (.int .i64 1)))))]), none⟩,
    ⟨(some 11), (.call 7 [(.t 9), (.t 10)]), none⟩,
    ⟨(some 12), (.mv (.t 1)), none⟩,
    ⟨(some 13), (.call 11 [(.t 12), (.c (.p (.s (.int .i64 0))))]), none⟩,
    ⟨(some 2), (.mv (.t 11)), none⟩,
    ⟨(some 3), (.mv (.t 13)), none⟩] none [1, 2, 3])
  (.seq (.region [⟨(some 15), (.mv (.t 1)), none⟩,
    ⟨(some 16), (.call 8 [(.t 15), (.c (.p (.s (.int .i64 0))))]), none⟩,
    ⟨(some 14), (.mv (.t 16)), none⟩,
    ⟨(some 17), (.ext (.t 14) 0), none⟩,
    ⟨(some 18), (.ext (.t 14) 1), none⟩,
    ⟨(some 4), (.alloc false [(.s (.int .i64 0)), (.s (.int .i64 0)), (.s (.int .i64 0)), (.s (.int .u64 0)), (.s (.int .i64 0)), (.s (.bool false)), (.s (.int .u64 0)), (.s (.pointer none)), (.s (.slice none 0 0)), (.s (.int .u64 0)), (.s (.int .i64 0)), (.s (.int .i64 0)), (.s (.bool false)), (.s (.pointer none)), (.s (.int .u64 0))]), none⟩,
    ⟨none, (.store 15 (.t 4) (.t 17)), none⟩,
    ⟨(some 5), (.mv (.t 18)), none⟩] none [1, 2, 3, 4, 5])
  (.seq (.region [⟨(some 20), (.mv (.t 1)), none⟩,
    ⟨(some 21), (.call 8 [(.t 20), (.c (.p (.s (.int .i64 0))))]), none⟩,
    ⟨(some 19), (.mv (.t 21)), none⟩,
    ⟨(some 22), (.ext (.t 19) 0), none⟩,
    ⟨(some 23), (.ext (.t 19) 1), none⟩,
    ⟨(some 6), (.alloc false [(.s (.int .i64 0)), (.s (.int .i64 0)), (.s (.int .i64 0)), (.s (.int .u64 0)), (.s (.int .i64 0)), (.s (.bool false)), (.s (.int .u64 0)), (.s (.pointer none)), (.s (.slice none 0 0)), (.s (.int .u64 0)), (.s (.int .i64 0)), (.s (.int .i64 0)), (.s (.bool false)), (.s (.pointer none)), (.s (.int .u64 0))]), none⟩,
    ⟨none, (.store 15 (.t 6) (.t 22)), none⟩,
    ⟨(some 7), (.mv (.t 23)), none⟩] none [1, 2, 3, 4, 5, 6, 7])
  (.seq (.region [⟨(some 24), (.mv (.t 2)), none⟩,
    ⟨(some 25), (.bin .eql (.t 24) (.c (.p (.s (.int .i64 0))))), none⟩,
    ⟨(some 26), (.mv (.t 25)), none⟩,
    ⟨(some 27), (.mv (.t 3)), (some (26, true))⟩,
    ⟨(some 28), (.bin .eql (.t 27) (.c (.p (.s (.int .i64 0))))), (some (26, true))⟩,
    ⟨(some 29), (.pick (.t 26) (.t 28) (.c (.p (.s (.bool false))))), none⟩,
    ⟨(some 30), (.mv (.t 29)), none⟩,
    ⟨(some 31), (.mv (.t 5)), (some (30, true))⟩,
    ⟨(some 32), (.bin .eql (.t 31) (.c (.p (.s (.int .i64 0))))), (some (30, true))⟩,
    ⟨(some 33), (.pick (.t 30) (.t 32) (.c (.p (.s (.bool false))))), none⟩,
    ⟨(some 34), (.mv (.t 33)), none⟩,
    ⟨(some 35), (.mv (.t 7)), (some (34, true))⟩,
    ⟨(some 36), (.bin .eql (.t 35) (.c (.p (.s (.int .i64 0))))), (some (34, true))⟩,
    ⟨(some 37), (.pick (.t 34) (.t 36) (.c (.p (.s (.bool false))))), none⟩,
    ⟨(some 38), (.mv (.t 37)), none⟩,
    ⟨(some 39), (.fieldAddr 0 (.t 4)), (some (38, true))⟩,
    ⟨(some 40), (.load 1 false (.t 39)), (some (38, true))⟩,
    ⟨(some 41), (.bin .eql (.t 40) (.c (.p (.s (.int .i64 5))))), (some (38, true))⟩,
    ⟨(some 42), (.pick (.t 38) (.t 41) (.c (.p (.s (.bool false))))), none⟩,
    ⟨(some 43), (.mv (.t 42)), none⟩,
    ⟨(some 44), (.fieldAddr 1 (.t 6)), (some (43, true))⟩,
    ⟨(some 45), (.load 1 false (.t 44)), (some (43, true))⟩,
    ⟨(some 46), (.bin .eql (.t 45) (.c (.p (.s (.int .i64 1))))), (some (43, true))⟩,
    ⟨(some 47), (.pick (.t 43) (.t 46) (.c (.p (.s (.bool false))))), none⟩,
    ⟨(some 48), (.mv (.t 47)), none⟩,
    ⟨(some 49), (.mv (.t 1)), (some (48, true))⟩,
    ⟨(some 50), (.call 9 [(.t 49)]), (some (48, true))⟩,
    ⟨(some 51), (.bin .eql (.t 50) (.c (.p (.s (.int .i64 0))))), (some (48, true))⟩,
    ⟨(some 52), (.pick (.t 48) (.t 51) (.c (.p (.s (.bool false))))), none⟩,
    ⟨(some 0), (.mv (.t 52)), none⟩] none [0])
  .ret)))))), [(0, none)], false⟩
/-- kinfolk/net.New -/
def ir6 : IRF := ⟨[0], (.seq (.region [⟨(some 2), (.mv (.c (.p (.s (.pointer none))))), none⟩] none [0])
  (.seq (.region [⟨(some 3), (.mv (.t 0)), none⟩,
    ⟨(some 4), (.minmax true [(.t 3), (.c (.p (.s (.int .i64 0))))]), none⟩,
    ⟨(some 5), (.build [(.s (.slice none 0 0)), (.s (.int .i64 0))] [(1, 1, (.t 4))]), none⟩,
    ⟨(some 6), (.box false (.t 5)), none⟩,
    ⟨(some 2), (.mv (.t 6)), none⟩] none [2])
  .ret)), [(2, none)], true⟩
/-- (*kinfolk/net.Net).Send -/
def ir7 : IRF := ⟨[0, 1], (.seq (.region [⟨(some 3), (.box false (.t 1)), none⟩,
    ⟨(some 4), (.mv (.c (.p (.s (.int .i64 0))))), none⟩] none [0, 3])
  (.seq (.seq (.region [⟨(some 7), (.mv (.t 0)), none⟩,
    ⟨(some 8), (.eq false .ptr (.t 7) (.c (.p (.s (.pointer none))))), none⟩] none [0, 3, 8])
  (.cond (.t 8) (.seq (.region [⟨(some 4), (.mv (.c (.p (.s (.int .i64 2))))), none⟩] none [4])
  .ret) .skip))
  (.seq (.region [⟨(some 10), (.load 15 true (.t 3)), none⟩,
    ⟨(some 11), (.call 12 [(.t 10)]), none⟩,
    ⟨(some 9), (.mv (.t 11)), none⟩,
    ⟨(some 12), (.ext (.t 9) 0), none⟩,
    ⟨(some 13), (.ext (.t 9) 1), none⟩,
    ⟨(some 5), (.mv (.t 12)), none⟩,
    ⟨(some 6), (.mv (.t 13)), none⟩] none [0, 3, 5, 6])
  (.seq (.block 0 (.seq (.region [⟨(some 15), (.mv (.t 6)), none⟩,
    ⟨(some 16), (.bin .neq (.t 15) (.c (.p (.s (.int .i64 0))))), none⟩,
    ⟨(some 14), (.mv (.t 16)), none⟩] none [0, 3, 5, 6, 14])
  (.cond (.t 14) (.seq (.region [⟨(some 17), (.mv (.t 6)), none⟩,
    ⟨(some 4), (.mv (.t 17)), none⟩] none [4])
  .ret) (.seq (.region [⟨(some 19), (.mv (.t 0)), none⟩,
    ⟨(some 20), (.nilCk (.t 19)), none⟩,
    ⟨(some 21), (.fieldAddr 0 (.t 20)), none⟩,
    ⟨(some 22), (.load 1 false (.t 21)), none⟩,
    ⟨(some 23), (.len false (.t 22)), none⟩,
    ⟨(some 24), (.mv (.t 0)), none⟩,
    ⟨(some 25), (.nilCk (.t 24)), none⟩,
    ⟨(some 26), (.fieldAddr 1 (.t 25)), none⟩,
    ⟨(some 27), (.load 1 false (.t 26)), none⟩,
    ⟨(some 28), (.bin .geq (.t 23) (.t 27)), none⟩,
    ⟨(some 18), (.mv (.t 28)), none⟩] (some [0, 1, 3, 7, 15, 0, 32, 96, 224, 511, 1023]) [0, 3, 5, 18])
  (.cond (.t 18) (.seq (.region [⟨(some 4), (.mv (.c (.p (.s (.int .i64 8))))), none⟩] none [4])
  .ret) .skip)))))
  (.seq (.region [⟨(some 29), (.mv (.t 0)), none⟩,
    ⟨(some 30), (.mv (.t 0)), none⟩,
    ⟨(some 31), (.nilCk (.t 30)), none⟩,
    ⟨(some 32), (.fieldAddr 0 (.t 31)), none⟩,
    ⟨(some 33), (.load 1 false (.t 32)), none⟩,
    ⟨(some 34), (.mv (.t 5)), none⟩,
    ⟨(some 35), (.fieldAddr 2 (.t 3)), none⟩,
    ⟨(some 36), (.load 1 false (.t 35)), none⟩,
    ⟨(some 37), (.build [(.s (.slice none 0 0)), (.s (.int .i64 0))] [(0, 1, (.t 34)), (1, 1, (.t 36))]), none⟩,
    ⟨(some 38), (.mkSl 1 2 [(.s (.slice none 0 0)), (.s (.int .i64 0))] [(0, 2, (.t 37))]), none⟩,
    ⟨(some 39), (.app 2 32 (.t 33) (.t 38)), none⟩,
    ⟨(some 40), (.nilCk (.t 29)), none⟩,
    ⟨(some 41), (.fieldAddr 0 (.t 40)), none⟩,
    ⟨none, (.store 1 (.t 41) (.t 39)), none⟩] (some [0, 0, 2, 6, 14, 0, 0, 64, 224, 480, 1022, 2047, 4095, 8191]) [])
  (.seq (.region [⟨(some 4), (.mv (.c (.p (.s (.int .i64 0))))), none⟩] none [4])
  .ret)))))), [(4, none)], false⟩
/-- (*kinfolk/net.Net).Take -/
def ir8 : IRF := ⟨[0, 1], (.seq (.region [⟨(some 4), (.alloc false [(.s (.int .i64 0)), (.s (.int .i64 0)), (.s (.int .i64 0)), (.s (.int .u64 0)), (.s (.int .i64 0)), (.s (.bool false)), (.s (.int .u64 0)), (.s (.pointer none)), (.s (.slice none 0 0)), (.s (.int .u64 0)), (.s (.int .i64 0)), (.s (.int .i64 0)), (.s (.bool false)), (.s (.pointer none)), (.s (.int .u64 0))]), none⟩,
    ⟨(some 5), (.mv (.c (.p (.s (.int .i64 0))))), none⟩] none [0, 1, 4])
  (.seq (.region [⟨(some 10), (.mv (.t 0)), none⟩,
    ⟨(some 11), (.mv (.t 1)), none⟩,
    ⟨(some 12), (.call 13 [(.t 10), (.t 11)]), none⟩,
    ⟨(some 9), (.mv (.t 12)), none⟩,
    ⟨(some 13), (.ext (.t 9) 0), none⟩,
    ⟨(some 14), (.ext (.t 9) 1), none⟩,
    ⟨(some 15), (.ext (.t 9) 2), none⟩,
    ⟨(some 6), (.mv (.t 13)), none⟩,
    ⟨(some 7), (.mv (.t 14)), none⟩,
    ⟨(some 8), (.mv (.t 15)), none⟩] none [0, 1, 4, 6, 8])
  (.seq (.seq (.region [⟨(some 16), (.mv (.t 8)), none⟩,
    ⟨(some 17), (.un .not (.t 16)), none⟩] none [0, 1, 4, 6, 17])
  (.cond (.t 17) (.seq (.region [⟨(some 18), (.build [(.s (.int .i64 0)), (.s (.int .i64 0)), (.s (.int .i64 0)), (.s (.int .u64 0)), (.s (.int .i64 0)), (.s (.bool false)), (.s (.int .u64 0)), (.s (.pointer none)), (.s (.slice none 0 0)), (.s (.int .u64 0)), (.s (.int .i64 0)), (.s (.int .i64 0)), (.s (.bool false)), (.s (.pointer none)), (.s (.int .u64 0))] []), none⟩,
    ⟨none, (.store 15 (.t 4) (.t 18)), none⟩,
    ⟨(some 5), (.mv (.c (.p (.s (.int .i64 2))))), none⟩] none [4, 5])
  .ret) .skip))
  (.seq (.region [⟨(some 19), (.mv (.t 0)), none⟩,
    ⟨(some 20), (.mv (.t 1)), none⟩,
    ⟨(some 21), (.call 14 [(.t 19), (.t 20)]), none⟩] none [4, 6])
  (.seq (.region [⟨(some 22), (.mv (.t 6)), none⟩,
    ⟨(some 23), (.call 15 [(.t 22)]), none⟩,
    ⟨(some 24), (.ext (.t 23) 0), none⟩,
    ⟨(some 25), (.ext (.t 23) 1), none⟩,
    ⟨none, (.store 15 (.t 4) (.t 24)), none⟩,
    ⟨(some 5), (.mv (.t 25)), none⟩] none [4, 5])
  .ret))))), [(4, some (15, true)), (5, none)], false⟩
/-- (*kinfolk/net.Net).Len -/
def ir9 : IRF := ⟨[0], (.seq (.region [⟨(some 2), (.mv (.c (.p (.s (.int .i64 0))))), none⟩] none [0])
  (.seq (.seq (.region [⟨(some 3), (.mv (.t 0)), none⟩,
    ⟨(some 4), (.eq false .ptr (.t 3) (.c (.p (.s (.pointer none))))), none⟩] none [0, 4])
  (.cond (.t 4) (.seq (.region [⟨(some 2), (.mv (.c (.p (.s (.int .i64 0))))), none⟩] none [2])
  .ret) .skip))
  (.seq (.region [⟨(some 5), (.mv (.t 0)), none⟩,
    ⟨(some 6), (.nilCk (.t 5)), none⟩,
    ⟨(some 7), (.fieldAddr 0 (.t 6)), none⟩,
    ⟨(some 8), (.load 1 false (.t 7)), none⟩,
    ⟨(some 9), (.len false (.t 8)), none⟩,
    ⟨(some 2), (.mv (.t 9)), none⟩] none [2])
  .ret))), [(2, none)], false⟩
/-- (*kinfolk/net.Net).Turn -/
def ir10 : IRF := ⟨[0, 1, 2, 3], (.seq (.region [⟨(some 8), (.mv (.c (.p (.s (.int .i64 0))))), none⟩] none [0, 1, 2, 3])
  (.seq (.region [⟨(some 16), (.mv (.t 0)), none⟩,
    ⟨(some 17), (.mv (.t 1)), none⟩,
    ⟨(some 18), (.call 13 [(.t 16), (.t 17)]), none⟩,
    ⟨(some 15), (.mv (.t 18)), none⟩,
    ⟨(some 19), (.ext (.t 15) 0), none⟩,
    ⟨(some 20), (.ext (.t 15) 1), none⟩,
    ⟨(some 21), (.ext (.t 15) 2), none⟩,
    ⟨(some 9), (.mv (.t 19)), none⟩,
    ⟨(some 10), (.mv (.t 20)), none⟩,
    ⟨(some 11), (.mv (.t 21)), none⟩] none [0, 1, 2, 3, 9, 11])
  (.seq (.seq (.region [⟨(some 22), (.mv (.t 11)), none⟩,
    ⟨(some 23), (.un .not (.t 22)), none⟩] none [0, 1, 2, 3, 9, 23])
  (.cond (.t 23) (.seq (.region [⟨(some 8), (.mv (.c (.p (.s (.int .i64 2))))), none⟩] none [8])
  .ret) .skip))
  (.seq (.seq (.region [⟨(some 25), (.mv (.t 9)), none⟩,
    ⟨(some 26), (.call 15 [(.t 25)]), none⟩,
    ⟨(some 24), (.mv (.t 26)), none⟩,
    ⟨(some 27), (.ext (.t 24) 0), none⟩,
    ⟨(some 28), (.ext (.t 24) 1), none⟩,
    ⟨(some 12), (.alloc false [(.s (.int .i64 0)), (.s (.int .i64 0)), (.s (.int .i64 0)), (.s (.int .u64 0)), (.s (.int .i64 0)), (.s (.bool false)), (.s (.int .u64 0)), (.s (.pointer none)), (.s (.slice none 0 0)), (.s (.int .u64 0)), (.s (.int .i64 0)), (.s (.int .i64 0)), (.s (.bool false)), (.s (.pointer none)), (.s (.int .u64 0))]), none⟩,
    ⟨none, (.store 15 (.t 12) (.t 27)), none⟩,
    ⟨(some 13), (.mv (.t 28)), none⟩] none [0, 1, 2, 3, 9, 13])
  (.seq (.region [⟨(some 29), (.mv (.t 13)), none⟩,
    ⟨(some 30), (.bin .neq (.t 29) (.c (.p (.s (.int .i64 0))))), none⟩] none [0, 1, 2, 3, 9, 30])
  (.cond (.t 30) (.seq (.region [⟨(some 8), (.mv (.c (.p (.s (.int .i64 12))))), none⟩] none [8])
  .ret) .skip)))
  (.seq (.region [⟨(some 31), (.mv (.t 2)), none⟩,
    ⟨(some 32), (.mv (.t 9)), none⟩,
    ⟨(some 33), (.len false (.t 32)), none⟩,
    ⟨(some 34), (.bin .rem (.t 31) (.t 33)), none⟩,
    ⟨(some 14), (.mv (.t 34)), none⟩] none [0, 1, 3, 9, 14])
  (.seq (.seq (.region [⟨(some 35), (.mv (.t 14)), none⟩,
    ⟨(some 36), (.bin .lss (.t 35) (.c (.p (.s (.int .i64 0))))), none⟩] none [0, 1, 3, 9, 14, 36])
  (.cond (.t 36) (.region [⟨(some 37), (.mv (.t 14)), none⟩,
    ⟨(some 38), (.mv (.t 9)), none⟩,
    ⟨(some 39), (.len false (.t 38)), none⟩,
    ⟨(some 40), (.bin .add (.t 37) (.t 39)), none⟩,
    ⟨(some 14), (.mv (.t 40)), none⟩] none [0, 1, 3, 9, 14]) .skip))
  (.seq (.region [⟨(some 41), (.mv (.t 9)), none⟩,
    ⟨(some 42), (.mv (.t 14)), none⟩,
    ⟨(some 43), (.idxASl 1 (.t 41) (.t 42)), none⟩,
    ⟨(some 44), (.load 1 false (.t 43)), none⟩,
    ⟨(some 45), (.mv (.t 3)), none⟩,
    ⟨(some 46), (.bin .xor (.t 44) (.t 45)), none⟩,
    ⟨(some 47), (.idxASl 1 (.t 41) (.t 42)), none⟩,
    ⟨none, (.store 1 (.t 47) (.t 46)), none⟩] none [0, 1, 9])
  (.seq (.region [⟨(some 48), (.mv (.t 0)), none⟩,
    ⟨(some 49), (.nilCk (.t 48)), none⟩,
    ⟨(some 50), (.fieldAddr 0 (.t 49)), none⟩,
    ⟨(some 51), (.load 1 false (.t 50)), none⟩,
    ⟨(some 52), (.mv (.t 1)), none⟩,
    ⟨(some 53), (.mv (.t 9)), none⟩,
    ⟨(some 54), (.idxASl 2 (.t 51) (.t 52)), none⟩,
    ⟨(some 55), (.fieldAddr 0 (.t 54)), none⟩,
    ⟨none, (.store 1 (.t 55) (.t 53)), none⟩] none [])
  (.seq (.region [⟨(some 8), (.mv (.c (.p (.s (.int .i64 0))))), none⟩] none [8])
  .ret))))))))), [(8, none)], false⟩
/-- (*kinfolk/net.Net).Double -/
def ir11 : IRF := ⟨[0, 1], (.seq (.region [⟨(some 4), (.mv (.c (.p (.s (.int .i64 0))))), none⟩] none [0, 1])
  (.seq (.block 0 (.seq (.region [⟨(some 6), (.mv (.t 0)), none⟩,
    ⟨(some 7), (.mv (.t 1)), none⟩,
    ⟨(some 8), (.call 16 [(.t 6), (.t 7)]), none⟩,
    ⟨(some 9), (.un .not (.t 8)), none⟩,
    ⟨(some 5), (.mv (.t 9)), none⟩] none [0, 1, 5])
  (.cond (.t 5) (.seq (.region [⟨(some 4), (.mv (.c (.p (.s (.int .i64 2))))), none⟩] none [4])
  .ret) (.seq (.region [⟨(some 11), (.mv (.t 0)), none⟩,
    ⟨(some 12), (.nilCk (.t 11)), none⟩,
    ⟨(some 13), (.fieldAddr 0 (.t 12)), none⟩,
    ⟨(some 14), (.load 1 false (.t 13)), none⟩,
    ⟨(some 15), (.len false (.t 14)), none⟩,
    ⟨(some 16), (.mv (.t 0)), none⟩,
    ⟨(some 17), (.nilCk (.t 16)), none⟩,
    ⟨(some 18), (.fieldAddr 1 (.t 17)), none⟩,
    ⟨(some 19), (.load 1 false (.t 18)), none⟩,
    ⟨(some 20), (.bin .geq (.t 15) (.t 19)), none⟩,
    ⟨(some 10), (.mv (.t 20)), none⟩] (some [0, 1, 3, 7, 15, 0, 32, 96, 224, 511, 1023]) [0, 1, 10])
  (.cond (.t 10) (.seq (.region [⟨(some 4), (.mv (.c (.p (.s (.int .i64 8))))), none⟩] none [4])
  .ret) .skip)))))
  (.seq (.region [⟨(some 21), (.mv (.t 0)), none⟩,
    ⟨(some 22), (.mv (.t 0)), none⟩,
    ⟨(some 23), (.nilCk (.t 22)), none⟩,
    ⟨(some 24), (.fieldAddr 0 (.t 23)), none⟩,
    ⟨(some 25), (.load 1 false (.t 24)), none⟩,
    ⟨(some 26), (.mv (.t 0)), none⟩,
    ⟨(some 27), (.nilCk (.t 26)), none⟩,
    ⟨(some 28), (.fieldAddr 0 (.t 27)), none⟩,
    ⟨(some 29), (.load 1 false (.t 28)), none⟩,
    ⟨(some 30), (.mv (.t 1)), none⟩,
    ⟨(some 31), (.idxASl 2 (.t 29) (.t 30)), none⟩,
    ⟨(some 32), (.load 2 true (.t 31)), none⟩,
    ⟨(some 33), (.mkSl 1 2 [(.s (.slice none 0 0)), (.s (.int .i64 0))] [(0, 2, (.t 32))]), none⟩,
    ⟨(some 34), (.app 2 32 (.t 25) (.t 33)), none⟩,
    ⟨(some 35), (.nilCk (.t 21)), none⟩,
    ⟨(some 36), (.fieldAddr 0 (.t 35)), none⟩,
    ⟨none, (.store 1 (.t 36) (.t 34)), none⟩] (some [0, 0, 2, 6, 14, 0, 32, 96, 224, 0, 992, 2016, 4064, 8190, 16383, 32767, 65535]) [])
  (.seq (.region [⟨(some 4), (.mv (.c (.p (.s (.int .i64 0))))), none⟩] none [4])
  .ret)))), [(4, none)], false⟩
/-- (kinfolk/note.Note).Bytes -/
def ir12 : IRF := ⟨[0], (.seq (.region [⟨(some 1), (.box false (.t 0)), none⟩,
    ⟨(some 2), (.mv (.c (.p (.s (.slice none 0 0))))), none⟩,
    ⟨(some 3), (.mv (.c (.p (.s (.int .i64 0))))), none⟩] none [1])
  (.seq (.seq (.region [⟨(some 7), (.load 15 true (.t 1)), none⟩,
    ⟨(some 8), (.call 17 [(.t 7)]), none⟩,
    ⟨(some 9), (.un .not (.t 8)), none⟩] none [1, 9])
  (.cond (.t 9) (.seq (.region [⟨(some 2), (.mv (.c (.p (.s (.slice none 0 0))))), none⟩,
    ⟨(some 3), (.mv (.c (.p (.s (.int .i64 1))))), none⟩] none [2, 3])
  .ret) .skip))
  (.seq (.region [⟨(some 10), (.fieldAddr 0 (.t 1)), none⟩,
    ⟨(some 11), (.load 1 false (.t 10)), none⟩,
    ⟨(some 12), (.call 18 [(.t 11)]), none⟩,
    ⟨(some 4), (.mv (.t 12)), none⟩] none [1, 4])
  (.seq (.region [⟨(some 13), (.fieldAddr 0 (.t 1)), none⟩,
    ⟨(some 14), (.load 1 false (.t 13)), none⟩,
    ⟨(some 15), (.cvt .u8 (.t 14)), none⟩,
    ⟨(some 16), (.fieldAddr 1 (.t 1)), none⟩,
    ⟨(some 17), (.load 1 false (.t 16)), none⟩,
    ⟨(some 18), (.cvt .u8 (.t 17)), none⟩,
    ⟨(some 19), (.fieldAddr 2 (.t 1)), none⟩,
    ⟨(some 20), (.load 1 false (.t 19)), none⟩,
    ⟨(some 21), (.cvt .u8 (.t 20)), none⟩,
    ⟨(some 22), (.mkSl 3 1 [(.s (.int .u8 0)), (.s (.int .u8 0)), (.s (.int .u8 0))] [(0, 1, (.t 15)), (1, 1, (.t 18)), (2, 1, (.t 21))]), none⟩,
    ⟨(some 5), (.mv (.t 22)), none⟩] none [1, 4, 5])
  (.seq (.seq (.region [⟨(some 23), (.mv (.t 4)), none⟩,
    ⟨(some 24), (.bin .and (.t 23) (.c (.p (.s (.int .i64 1))))), none⟩,
    ⟨(some 25), (.bin .gtr (.t 24) (.c (.p (.s (.int .i64 0))))), none⟩] none [1, 4, 5, 25])
  (.cond (.t 25) (.region [⟨(some 26), (.mv (.t 5)), none⟩,
    ⟨(some 27), (.fieldAddr 3 (.t 1)), none⟩,
    ⟨(some 28), (.load 1 false (.t 27)), none⟩,
    ⟨(some 29), (.call 19 [(.t 26), (.t 28)]), none⟩,
    ⟨(some 5), (.mv (.t 29)), none⟩] none [1, 4, 5]) .skip))
  (.seq (.seq (.region [⟨(some 30), (.mv (.t 4)), none⟩,
    ⟨(some 31), (.bin .and (.t 30) (.c (.p (.s (.int .i64 2))))), none⟩,
    ⟨(some 32), (.bin .gtr (.t 31) (.c (.p (.s (.int .i64 0))))), none⟩] none [1, 4, 5, 32])
  (.cond (.t 32) (.region [⟨(some 33), (.mv (.t 5)), none⟩,
    ⟨(some 34), (.fieldAddr 4 (.t 1)), none⟩,
    ⟨(some 35), (.load 1 false (.t 34)), none⟩,
    ⟨(some 36), (.cvt .u8 (.t 35)), none⟩,
    ⟨(some 37), (.mkSl 1 1 [(.s (.int .u8 0))] [(0, 1, (.t 36))]), none⟩,
    ⟨(some 38), (.app 1 1 (.t 33) (.t 37)), none⟩,
    ⟨(some 5), (.mv (.t 38)), none⟩] none [1, 4, 5]) .skip))
  (.seq (.seq (.region [⟨(some 39), (.mv (.t 4)), none⟩,
    ⟨(some 40), (.bin .and (.t 39) (.c (.p (.s (.int .i64 16))))), none⟩,
    ⟨(some 41), (.bin .gtr (.t 40) (.c (.p (.s (.int .i64 0))))), none⟩] none [1, 4, 5, 41])
  (.cond (.t 41) (.seq (.region [⟨(some 6), (.mv (.c (.p (.s (.int .u8 0))))), none⟩] none [1, 4, 5, 6])
  (.seq (.seq (.region [⟨(some 42), (.fieldAddr 5 (.t 1)), none⟩,
    ⟨(some 43), (.load 1 false (.t 42)), none⟩] none [1, 4, 5, 6, 43])
  (.cond (.t 43) (.region [⟨(some 6), (.mv (.c (.p (.s (.int .u8 1))))), none⟩] none [1, 4, 5, 6]) .skip))
  (.region [⟨(some 44), (.mv (.t 5)), none⟩,
    ⟨(some 45), (.mv (.t 6)), none⟩,
    ⟨(some 46), (.mkSl 1 1 [(.s (.int .u8 0))] [(0, 1, (.t 45))]), none⟩,
    ⟨(some 47), (.app 1 1 (.t 44) (.t 46)), none⟩,
    ⟨(some 5), (.mv (.t 47)), none⟩] none [1, 4, 5]))) .skip))
  (.seq (.seq (.region [⟨(some 48), (.mv (.t 4)), none⟩,
    ⟨(some 49), (.bin .and (.t 48) (.c (.p (.s (.int .i64 32))))), none⟩,
    ⟨(some 50), (.bin .gtr (.t 49) (.c (.p (.s (.int .i64 0))))), none⟩] none [1, 4, 5, 50])
  (.cond (.t 50) (.region [⟨(some 51), (.mv (.t 5)), none⟩,
    ⟨(some 52), (.fieldAddr 9 (.t 1)), none⟩,
    ⟨(some 53), (.load 5 true (.t 52)), none⟩,
    ⟨(some 54), (.call 20 [(.t 51), (.t 53)]), none⟩,
    ⟨(some 5), (.mv (.t 54)), none⟩] none [1, 4, 5]) .skip))
  (.seq (.seq (.region [⟨(some 55), (.mv (.t 4)), none⟩,
    ⟨(some 56), (.bin .and (.t 55) (.c (.p (.s (.int .i64 8))))), none⟩,
    ⟨(some 57), (.bin .gtr (.t 56) (.c (.p (.s (.int .i64 0))))), none⟩] none [1, 4, 5, 57])
  (.cond (.t 57) (.region [⟨(some 58), (.mv (.t 5)), none⟩,
    ⟨(some 59), (.fieldAddr 6 (.t 1)), none⟩,
    ⟨(some 60), (.load 2 true (.t 59)), none⟩,
    ⟨(some 61), (.call 22 [(.t 60)]), none⟩,
    ⟨(some 62), (.b2s (.t 61)), none⟩,
    ⟨(some 63), (.call 21 [(.t 58), (.t 62)]), none⟩,
    ⟨(some 5), (.mv (.t 63)), none⟩] none [1, 4, 5]) .skip))
  (.seq (.seq (.region [⟨(some 64), (.mv (.t 4)), none⟩,
    ⟨(some 65), (.bin .and (.t 64) (.c (.p (.s (.int .i64 4))))), none⟩,
    ⟨(some 66), (.bin .gtr (.t 65) (.c (.p (.s (.int .i64 0))))), none⟩] none [1, 4, 5, 66])
  (.cond (.t 66) (.region [⟨(some 67), (.mv (.t 5)), none⟩,
    ⟨(some 68), (.fieldAddr 8 (.t 1)), none⟩,
    ⟨(some 69), (.load 1 false (.t 68)), none⟩,
    ⟨(some 70), (.call 23 [(.t 67), (.t 69)]), none⟩,
    ⟨(some 5), (.mv (.t 70)), none⟩] none [1, 4, 5]) .skip))
  (.seq (.seq (.region [⟨(some 71), (.mv (.t 4)), none⟩,
    ⟨(some 72), (.bin .and (.t 71) (.c (.p (.s (.int .i64 64))))), none⟩,
    ⟨(some 73), (.bin .gtr (.t 72) (.c (.p (.s (.int .i64 0))))), none⟩] none [1, 5, 73])
  (.cond (.t 73) (.region [⟨(some 74), (.mv (.t 5)), none⟩,
    ⟨(some 75), (.fieldAddr 14 (.t 1)), none⟩,
    ⟨(some 76), (.load 1 false (.t 75)), none⟩,
    ⟨(some 77), (.call 19 [(.t 74), (.t 76)]), none⟩,
    ⟨(some 5), (.mv (.t 77)), none⟩] none [5]) .skip))
  (.seq (.seq (.region [⟨(some 78), (.mv (.t 5)), none⟩,
    ⟨(some 79), (.len false (.t 78)), none⟩,
    ⟨(some 80), (.bin .gtr (.t 79) (.c (.p (.s (.int .i64 1048576))))), none⟩] none [5, 80])
  (.cond (.t 80) (.seq (.region [⟨(some 2), (.mv (.c (.p (.s (.slice none 0 0))))), none⟩,
    ⟨(some 3), (.mv (.c (.p (.s (.int .i64 9))))), none⟩] none [2, 3])
  .ret) .skip))
  (.seq (.region [⟨(some 81), (.mv (.t 5)), none⟩,
    ⟨(some 82), (.call 24 [(.t 81)]), none⟩,
    ⟨(some 2), (.mv (.t 82)), none⟩,
    ⟨(some 3), (.mv (.c (.p (.s (.int .i64 0))))), none⟩] none [2, 3])
  .ret))))))))))))), [(2, none), (3, none)], false⟩
/-- (*kinfolk/net.Net).Look -/
def ir13 : IRF := ⟨[0, 1], (.seq (.region [⟨(some 4), (.mv (.c (.p (.s (.slice none 0 0))))), none⟩,
    ⟨(some 5), (.mv (.c (.p (.s (.int .i64 0))))), none⟩,
    ⟨(some 6), (.mv (.c (.p (.s (.bool false))))), none⟩] none [0, 1])
  (.seq (.seq (.region [⟨(some 7), (.mv (.t 0)), none⟩,
    ⟨(some 8), (.mv (.t 1)), none⟩,
    ⟨(some 9), (.call 16 [(.t 7), (.t 8)]), none⟩,
    ⟨(some 10), (.un .not (.t 9)), none⟩] none [0, 1, 10])
  (.cond (.t 10) (.seq (.region [⟨(some 4), (.mv (.c (.p (.s (.slice none 0 0))))), none⟩,
    ⟨(some 5), (.mv (.c (.p (.s (.int .i64 0))))), none⟩,
    ⟨(some 6), (.mv (.c (.p (.s (.bool false))))), none⟩] none [4, 5, 6])
  .ret) .skip))
  (.seq (.region [⟨(some 11), (.mv (.t 0)), none⟩,
    ⟨(some 12), (.nilCk (.t 11)), none⟩,
    ⟨(some 13), (.fieldAddr 0 (.t 12)), none⟩,
    ⟨(some 14), (.load 1 false (.t 13)), none⟩,
    ⟨(some 15), (.mv (.t 1)), none⟩,
    ⟨(some 16), (.idxASl 2 (.t 14) (.t 15)), none⟩,
    ⟨(some 17), (.fieldAddr 0 (.t 16)), none⟩,
    ⟨(some 18), (.load 1 false (.t 17)), none⟩,
    ⟨(some 19), (.call 25 [(.t 18)]), none⟩,
    ⟨(some 20), (.mv (.t 0)), none⟩,
    ⟨(some 21), (.nilCk (.t 20)), none⟩,
    ⟨(some 22), (.fieldAddr 0 (.t 21)), none⟩,
    ⟨(some 23), (.load 1 false (.t 22)), none⟩,
    ⟨(some 24), (.mv (.t 1)), none⟩,
    ⟨(some 25), (.idxASl 2 (.t 23) (.t 24)), none⟩,
    ⟨(some 26), (.fieldAddr 1 (.t 25)), none⟩,
    ⟨(some 27), (.load 1 false (.t 26)), none⟩,
    ⟨(some 4), (.mv (.t 19)), none⟩,
    ⟨(some 5), (.mv (.t 27)), none⟩,
    ⟨(some 6), (.mv (.c (.p (.s (.bool true))))), none⟩] (some [0, 1, 3, 7, 0, 31, 63, 127, 255, 0, 512, 1536, 3584, 0, 15872, 32256, 65024, 511, 262143, 524287]) [4, 5, 6])
  .ret))), [(4, none), (5, none), (6, none)], true⟩
/-- (*kinfolk/net.Net).Drop -/
def ir14 : IRF := ⟨[0, 1], (.seq (.region [⟨(some 4), (.mv (.c (.p (.s (.int .i64 0))))), none⟩] none [0, 1])
  (.seq (.seq (.region [⟨(some 5), (.mv (.t 0)), none⟩,
    ⟨(some 6), (.mv (.t 1)), none⟩,
    ⟨(some 7), (.call 16 [(.t 5), (.t 6)]), none⟩,
    ⟨(some 8), (.un .not (.t 7)), none⟩] none [0, 1, 8])
  (.cond (.t 8) (.seq (.region [⟨(some 4), (.mv (.c (.p (.s (.int .i64 2))))), none⟩] none [4])
  .ret) .skip))
  (.seq (.region [⟨(some 9), (.mv (.t 0)), none⟩,
    ⟨(some 10), (.mv (.t 0)), none⟩,
    ⟨(some 11), (.nilCk (.t 10)), none⟩,
    ⟨(some 12), (.fieldAddr 0 (.t 11)), none⟩,
    ⟨(some 13), (.load 1 false (.t 12)), none⟩,
    ⟨(some 14), (.mv (.t 1)), none⟩,
    ⟨(some 15), (.mv (.t 1)), none⟩,
    ⟨(some 16), (.bin .add (.t 15) (.c (.p (.s (.int .i64 1))))), none⟩,
    ⟨(some 17), (.call 26 [(.t 13), (.t 14), (.t 16)]), none⟩,
    ⟨(some 18), (.nilCk (.t 9)), none⟩,
    ⟨(some 19), (.fieldAddr 0 (.t 18)), none⟩,
    ⟨none, (.store 1 (.t 19) (.t 17)), none⟩] none [])
  (.seq (.region [⟨(some 4), (.mv (.c (.p (.s (.int .i64 0))))), none⟩] none [4])
  .ret)))), [(4, none)], false⟩
/-- kinfolk/note.Read -/
def ir15 : IRF := ⟨[0], (.seq (.region [⟨(some 2), (.alloc false [(.s (.int .i64 0)), (.s (.int .i64 0)), (.s (.int .i64 0)), (.s (.int .u64 0)), (.s (.int .i64 0)), (.s (.bool false)), (.s (.int .u64 0)), (.s (.pointer none)), (.s (.slice none 0 0)), (.s (.int .u64 0)), (.s (.int .i64 0)), (.s (.int .i64 0)), (.s (.bool false)), (.s (.pointer none)), (.s (.int .u64 0))]), none⟩,
    ⟨(some 3), (.mv (.c (.p (.s (.int .i64 0))))), none⟩] none [0, 2])
  (.seq (.region [⟨(some 10), (.mv (.t 0)), none⟩,
    ⟨(some 11), (.call 27 [(.t 10)]), none⟩,
    ⟨(some 9), (.mv (.t 11)), none⟩,
    ⟨(some 12), (.ext (.t 9) 0), none⟩,
    ⟨(some 13), (.ext (.t 9) 1), none⟩,
    ⟨(some 14), (.ext (.t 9) 2), none⟩,
    ⟨(some 4), (.mv (.t 12)), none⟩,
    ⟨(some 5), (.mv (.t 13)), none⟩,
    ⟨(some 6), (.mv (.t 14)), none⟩] none [0, 2, 4, 5, 6])
  (.seq (.seq (.region [⟨(some 15), (.mv (.t 6)), none⟩,
    ⟨(some 16), (.bin .neq (.t 15) (.c (.p (.s (.int .i64 0))))), none⟩] none [0, 2, 4, 5, 6, 16])
  (.cond (.t 16) (.seq (.region [⟨(some 17), (.build [(.s (.int .i64 0)), (.s (.int .i64 0)), (.s (.int .i64 0)), (.s (.int .u64 0)), (.s (.int .i64 0)), (.s (.bool false)), (.s (.int .u64 0)), (.s (.pointer none)), (.s (.slice none 0 0)), (.s (.int .u64 0)), (.s (.int .i64 0)), (.s (.int .i64 0)), (.s (.bool false)), (.s (.pointer none)), (.s (.int .u64 0))] []), none⟩,
    ⟨(some 18), (.mv (.t 6)), none⟩,
    ⟨none, (.store 15 (.t 2) (.t 17)), none⟩,
    ⟨(some 3), (.mv (.t 18)), none⟩] none [2, 3])
  .ret) .skip))
  (.seq (.region [⟨(some 19), (.mv (.t 4)), none⟩,
    ⟨(some 20), (.call 28 [(.t 19)]), none⟩,
    ⟨(some 7), (.mv (.t 20)), none⟩] none [0, 2, 5, 7])
  (.seq (.region [⟨(some 21), (.mv (.t 7)), none⟩,
    ⟨(some 22), (.call 29 [(.t 21)]), none⟩,
    ⟨(some 8), (.alloc false [(.s (.int .i64 0)), (.s (.int .i64 0)), (.s (.int .i64 0)), (.s (.int .u64 0)), (.s (.int .i64 0)), (.s (.bool false)), (.s (.int .u64 0)), (.s (.pointer none)), (.s (.slice none 0 0)), (.s (.int .u64 0)), (.s (.int .i64 0)), (.s (.int .i64 0)), (.s (.bool false)), (.s (.pointer none)), (.s (.int .u64 0))]), none⟩,
    ⟨none, (.store 15 (.t 8) (.t 22)), none⟩] none [0, 2, 5, 7, 8])
  (.seq (.seq (.region [⟨(some 23), (.mv (.t 5)), none⟩,
    ⟨(some 24), (.mv (.t 0)), none⟩,
    ⟨(some 25), (.len false (.t 24)), none⟩,
    ⟨(some 26), (.bin .neq (.t 23) (.t 25)), none⟩,
    ⟨(some 27), (.mv (.t 26)), none⟩,
    ⟨(some 28), (.mv (.t 7)), (some (27, false))⟩,
    ⟨(some 29), (.call 30 [(.t 28)]), (some (27, false))⟩,
    ⟨(some 30), (.bin .neq (.t 29) (.c (.p (.s (.int .i64 0))))), (some (27, false))⟩,
    ⟨(some 31), (.pick (.t 27) (.c (.p (.s (.bool true)))) (.t 30)), none⟩,
    ⟨(some 32), (.mv (.t 31)), none⟩,
    ⟨(some 33), (.load 15 true (.t 8)), (some (32, false))⟩,
    ⟨(some 34), (.call 17 [(.t 33)]), (some (32, false))⟩,
    ⟨(some 35), (.un .not (.t 34)), (some (32, false))⟩,
    ⟨(some 36), (.pick (.t 32) (.c (.p (.s (.bool true)))) (.t 35)), none⟩] none [2, 8, 36])
  (.cond (.t 36) (.seq (.region [⟨(some 37), (.build [(.s (.int .i64 0)), (.s (.int .i64 0)), (.s (.int .i64 0)), (.s (.int .u64 0)), (.s (.int .i64 0)), (.s (.bool false)), (.s (.int .u64 0)), (.s (.pointer none)), (.s (.slice none 0 0)), (.s (.int .u64 0)), (.s (.int .i64 0)), (.s (.int .i64 0)), (.s (.bool false)), (.s (.pointer none)), (.s (.int .u64 0))] []), none⟩,
    ⟨none, (.store 15 (.t 2) (.t 37)), none⟩,
    ⟨(some 3), (.mv (.c (.p (.s (.int .i64 6))))), none⟩] none [2, 3])
  .ret) .skip))
  (.seq (.region [⟨(some 38), (.load 15 true (.t 8)), none⟩,
    ⟨none, (.store 15 (.t 2) (.t 38)), none⟩,
    ⟨(some 3), (.mv (.c (.p (.s (.int .i64 0))))), none⟩] none [2, 3])
  .ret))))))), [(2, some (15, true)), (3, none)], false⟩
/-- (*kinfolk/net.Net).has -/
def ir16 : IRF := ⟨[0, 1], (.seq (.region [⟨(some 4), (.mv (.c (.p (.s (.bool false))))), none⟩] none [0, 1])
  (.seq (.region [⟨(some 5), (.mv (.t 1)), none⟩,
    ⟨(some 6), (.bin .geq (.t 5) (.c (.p (.s (.int .i64 0))))), none⟩,
    ⟨(some 7), (.mv (.t 6)), none⟩,
    ⟨(some 8), (.mv (.t 1)), (some (7, true))⟩,
    ⟨(some 9), (.mv (.t 0)), (some (7, true))⟩,
    ⟨(some 10), (.call 9 [(.t 9)]), (some (7, true))⟩,
    ⟨(some 11), (.bin .lss (.t 8) (.t 10)), (some (7, true))⟩,
    ⟨(some 12), (.pick (.t 7) (.t 11) (.c (.p (.s (.bool false))))), none⟩,
    ⟨(some 4), (.mv (.t 12)), none⟩] none [4])
  .ret)), [(4, none)], false⟩
/-- (kinfolk/note.Note).Right -/
def ir17 : IRF := ⟨[0], (.seq (.region [⟨(some 1), (.box false (.t 0)), none⟩,
    ⟨(some 2), (.mv (.c (.p (.s (.bool false))))), none⟩] none [1])
  (.seq (.block 0 (.seq (.region [⟨(some 4), (.fieldAddr 0 (.t 1)), none⟩,
    ⟨(some 5), (.load 1 false (.t 4)), none⟩,
    ⟨(some 6), (.call 18 [(.t 5)]), none⟩,
    ⟨(some 7), (.bin .lss (.t 6) (.c (.p (.s (.int .i64 0))))), none⟩,
    ⟨(some 8), (.mv (.t 7)), none⟩,
    ⟨(some 9), (.fieldAddr 1 (.t 1)), (some (8, false))⟩,
    ⟨(some 10), (.load 1 false (.t 9)), (some (8, false))⟩,
    ⟨(some 11), (.call 31 [(.t 10)]), (some (8, false))⟩,
    ⟨(some 12), (.un .not (.t 11)), (some (8, false))⟩,
    ⟨(some 13), (.pick (.t 8) (.c (.p (.s (.bool true)))) (.t 12)), none⟩,
    ⟨(some 14), (.mv (.t 13)), none⟩,
    ⟨(some 15), (.fieldAddr 2 (.t 1)), (some (14, false))⟩,
    ⟨(some 16), (.load 1 false (.t 15)), (some (14, false))⟩,
    ⟨(some 17), (.call 31 [(.t 16)]), (some (14, false))⟩,
    ⟨(some 18), (.un .not (.t 17)), (some (14, false))⟩,
    ⟨(some 19), (.pick (.t 14) (.c (.p (.s (.bool true)))) (.t 18)), none⟩,
    ⟨(some 20), (.mv (.t 19)), none⟩,
    ⟨(some 21), (.fieldAddr 1 (.t 1)), (some (20, false))⟩,
    ⟨(some 22), (.load 1 false (.t 21)), (some (20, false))⟩,
    ⟨(some 23), (.fieldAddr 2 (.t 1)), (some (20, false))⟩,
    ⟨(some 24), (.load 1 false (.t 23)), (some (20, false))⟩,
    ⟨(some 25), (.bin .eql (.t 22) (.t 24)), (some (20, false))⟩,
    ⟨(some 26), (.pick (.t 20) (.c (.p (.s (.bool true)))) (.t 25)), none⟩,
    ⟨(some 3), (.mv (.t 26)), none⟩] none [1, 3])
  (.cond (.t 3) (.seq (.region [⟨(some 2), (.mv (.c (.p (.s (.bool false))))), none⟩] none [2])
  .ret) (.seq (.region [⟨(some 28), (.load 15 true (.t 1)), none⟩,
    ⟨(some 29), (.call 32 [(.t 28)]), none⟩,
    ⟨(some 30), (.un .not (.t 29)), none⟩,
    ⟨(some 31), (.mv (.t 30)), none⟩,
    ⟨(some 32), (.fieldAddr 4 (.t 1)), (some (31, false))⟩,
    ⟨(some 33), (.load 1 false (.t 32)), (some (31, false))⟩,
    ⟨(some 34), (.bin .lss (.t 33) (.c (.p (.s (.int .i64 0))))), (some (31, false))⟩,
    ⟨(some 35), (.pick (.t 31) (.c (.p (.s (.bool true)))) (.t 34)), none⟩,
    ⟨(some 36), (.mv (.t 35)), none⟩,
    ⟨(some 37), (.fieldAddr 4 (.t 1)), (some (36, false))⟩,
    ⟨(some 38), (.load 1 false (.t 37)), (some (36, false))⟩,
    ⟨(some 39), (.bin .geq (.t 38) (.c (.p (.s (.int .i64 256))))), (some (36, false))⟩,
    ⟨(some 40), (.pick (.t 36) (.c (.p (.s (.bool true)))) (.t 39)), none⟩,
    ⟨(some 41), (.mv (.t 40)), none⟩,
    ⟨(some 42), (.load 15 true (.t 1)), (some (41, false))⟩,
    ⟨(some 43), (.call 33 [(.t 42)]), (some (41, false))⟩,
    ⟨(some 44), (.un .not (.t 43)), (some (41, false))⟩,
    ⟨(some 45), (.pick (.t 41) (.c (.p (.s (.bool true)))) (.t 44)), none⟩,
    ⟨(some 27), (.mv (.t 45)), none⟩] none [1, 27])
  (.cond (.t 27) (.seq (.region [⟨(some 2), (.mv (.c (.p (.s (.bool false))))), none⟩] none [2])
  .ret) (.seq (.region [⟨(some 47), (.fieldAddr 0 (.t 1)), none⟩,
    ⟨(some 48), (.load 1 false (.t 47)), none⟩,
    ⟨(some 49), (.bin .eql (.t 48) (.c (.p (.s (.int .i64 3))))), none⟩,
    ⟨(some 46), (.mv (.t 49)), none⟩] none [1, 46])
  (.cond (.t 46) (.seq (.region [⟨(some 50), (.fieldAddr 8 (.t 1)), none⟩,
    ⟨(some 51), (.load 1 false (.t 50)), none⟩,
    ⟨(some 52), (.len false (.t 51)), none⟩,
    ⟨(some 53), (.bin .leq (.t 52) (.c (.p (.s (.int .i64 4))))), none⟩,
    ⟨(some 2), (.mv (.t 53)), none⟩] none [2])
  .ret) (.seq (.region [⟨(some 55), (.fieldAddr 0 (.t 1)), none⟩,
    ⟨(some 56), (.load 1 false (.t 55)), none⟩,
    ⟨(some 57), (.bin .eql (.t 56) (.c (.p (.s (.int .i64 6))))), none⟩,
    ⟨(some 54), (.mv (.t 57)), none⟩] none [1, 54])
  (.cond (.t 54) (.seq (.region [⟨(some 58), (.fieldAddr 9 (.t 1)), none⟩,
    ⟨(some 59), (.load 5 true (.t 58)), none⟩,
    ⟨(some 60), (.call 34 [(.t 59)]), none⟩,
    ⟨(some 61), (.mv (.t 60)), none⟩,
    ⟨(some 62), (.fieldAddr 9 (.t 1)), (some (61, true))⟩,
    ⟨(some 63), (.fieldAddr 1 (.t 62)), (some (61, true))⟩,
    ⟨(some 64), (.load 1 false (.t 63)), (some (61, true))⟩,
    ⟨(some 65), (.fieldAddr 1 (.t 1)), (some (61, true))⟩,
    ⟨(some 66), (.load 1 false (.t 65)), (some (61, true))⟩,
    ⟨(some 67), (.bin .eql (.t 64) (.t 66)), (some (61, true))⟩,
    ⟨(some 68), (.pick (.t 61) (.t 67) (.c (.p (.s (.bool false))))), none⟩,
    ⟨(some 69), (.mv (.t 68)), none⟩,
    ⟨(some 70), (.fieldAddr 9 (.t 1)), (some (69, true))⟩,
    ⟨(some 71), (.fieldAddr 2 (.t 70)), (some (69, true))⟩,
    ⟨(some 72), (.load 1 false (.t 71)), (some (69, true))⟩,
    ⟨(some 73), (.fieldAddr 2 (.t 1)), (some (69, true))⟩,
    ⟨(some 74), (.load 1 false (.t 73)), (some (69, true))⟩,
    ⟨(some 75), (.bin .eql (.t 72) (.t 74)), (some (69, true))⟩,
    ⟨(some 76), (.pick (.t 69) (.t 75) (.c (.p (.s (.bool false))))), none⟩,
    ⟨(some 2), (.mv (.t 76)), none⟩] none [2])
  .ret) .skip)))))))))
  (.seq (.region [⟨(some 2), (.mv (.c (.p (.s (.bool true))))), none⟩] none [2])
  .ret))), [(2, none)], false⟩
/-- kinfolk/note.has -/
def ir18 : IRF := ⟨[0], (.seq (.region [⟨(some 2), (.mv (.c (.p (.s (.int .i64 0))))), none⟩] none [0])
  (.seq (.seq (.region [⟨(some 3), (.mv (.t 0)), none⟩] none [3])
  (.block 0 (.seq (.seq (.region [⟨(some 5), (.bin .eql (.t 3) (.c (.p (.s (.int .i64 1))))), none⟩,
    ⟨(some 4), (.mv (.t 5)), none⟩] none [3, 4])
  (.cond (.t 4) .skip (.region [⟨(some 6), (.bin .eql (.t 3) (.c (.p (.s (.int .i64 2))))), none⟩,
    ⟨(some 4), (.mv (.t 6)), none⟩] none [3, 4])))
  (.cond (.t 4) (.seq (.region [⟨(some 2), (.mv (.c (.p (.s (.int .i64 9))))), none⟩] none [2])
  .ret) (.seq (.region [⟨(some 8), (.bin .eql (.t 3) (.c (.p (.s (.int .i64 3))))), none⟩,
    ⟨(some 7), (.mv (.t 8)), none⟩] none [3, 7])
  (.cond (.t 7) (.seq (.region [⟨(some 2), (.mv (.c (.p (.s (.int .i64 31))))), none⟩] none [2])
  .ret) (.seq (.region [⟨(some 10), (.bin .eql (.t 3) (.c (.p (.s (.int .i64 4))))), none⟩,
    ⟨(some 9), (.mv (.t 10)), none⟩] none [3, 9])
  (.cond (.t 9) (.seq (.region [⟨(some 2), (.mv (.c (.p (.s (.int .i64 3))))), none⟩] none [2])
  .ret) (.seq (.region [⟨(some 12), (.bin .eql (.t 3) (.c (.p (.s (.int .i64 5))))), none⟩,
    ⟨(some 11), (.mv (.t 12)), none⟩] none [3, 11])
  (.cond (.t 11) (.seq (.region [⟨(some 2), (.mv (.c (.p (.s (.int .i64 0))))), none⟩] none [2])
  .ret) (.seq (.region [⟨(some 14), (.bin .eql (.t 3) (.c (.p (.s (.int .i64 6))))), none⟩,
    ⟨(some 13), (.mv (.t 14)), none⟩] none [3, 13])
  (.cond (.t 13) (.seq (.region [⟨(some 2), (.mv (.c (.p (.s (.int .i64 44))))), none⟩] none [2])
  .ret) (.seq (.region [⟨(some 16), (.bin .eql (.t 3) (.c (.p (.s (.int .i64 7))))), none⟩,
    ⟨(some 15), (.mv (.t 16)), none⟩] none [15])
  (.cond (.t 15) (.seq (.region [⟨(some 2), (.mv (.c (.p (.s (.int .i64 64))))), none⟩] none [2])
  .ret) .skip))))))))))))))
  (.seq (.region [⟨(some 2), (.mv (.c (.p (.s (.int .i64 (-1)))))), none⟩] none [2])
  .ret))), [(2, none)], false⟩
/-- kinfolk/wire.Num -/
def ir19_0 : IRC := (.seq (.seq (.region [⟨(some 11), (.mv (.t 1)), none⟩,
    ⟨(some 12), (.bin .geq (.t 11) (.c (.p (.s (.int .u64 128))))), none⟩] none [0, 1, 12])
  (.cond (.t 12) .skip (.exit 0)))
  (.seq (.block 1 (.region [⟨(some 15), (.mv (.t 0)), none⟩,
    ⟨(some 16), (.mv (.t 1)), none⟩,
    ⟨(some 17), (.cvt .u8 (.t 16)), none⟩,
    ⟨(some 18), (.bin .or (.t 17) (.c (.p (.s (.int .u8 128))))), none⟩,
    ⟨(some 19), (.mkSl 1 1 [(.s (.int .u8 0))] [(0, 1, (.t 18))]), none⟩,
    ⟨(some 20), (.app 1 1 (.t 15) (.t 19)), none⟩,
    ⟨(some 0), (.mv (.t 20)), none⟩] none [0, 1]))
  (.region [⟨(some 13), (.mv (.t 1)), none⟩,
    ⟨(some 14), (.bin .shr (.t 13) (.c (.p (.s (.int .u64 7))))), none⟩,
    ⟨(some 1), (.mv (.t 14)), none⟩] none [0, 1])))
def ir19 : IRF := ⟨[0, 1], (.seq (.region [⟨(some 4), (.mv (.c (.p (.s (.slice none 0 0))))), none⟩] none [0, 1])
  (.seq (.region [⟨(some 5), (.mv (.t 0)), none⟩,
    ⟨(some 6), (.mv (.t 0)), none⟩,
    ⟨(some 7), (.len false (.t 6)), none⟩,
    ⟨(some 8), (.mv (.t 0)), none⟩,
    ⟨(some 9), (.len false (.t 8)), none⟩,
    ⟨(some 10), (.slSl 1 (.t 5) none (some (.t 7)) (some (.t 9))), none⟩,
    ⟨(some 0), (.mv (.t 10)), none⟩] none [0, 1])
  (.seq (.block 0 (.loop ir19_0))
  (.seq (.region [⟨(some 21), (.mv (.t 0)), none⟩,
    ⟨(some 22), (.mv (.t 1)), none⟩,
    ⟨(some 23), (.cvt .u8 (.t 22)), none⟩,
    ⟨(some 24), (.mkSl 1 1 [(.s (.int .u8 0))] [(0, 1, (.t 23))]), none⟩,
    ⟨(some 25), (.app 1 1 (.t 21) (.t 24)), none⟩,
    ⟨(some 4), (.mv (.t 25)), none⟩] none [4])
  .ret)))), [(4, none)], true⟩
/-- kinfolk/wire.Frame -/
def ir24 : IRF := ⟨[0], (.seq (.region [⟨(some 2), (.mv (.c (.p (.s (.slice none 0 0))))), none⟩] none [0])
  (.seq (.region [⟨(some 5), (.mv (.t 0)), none⟩,
    ⟨(some 6), (.len false (.t 5)), none⟩,
    ⟨(some 7), (.cvt .u32 (.t 6)), none⟩,
    ⟨(some 8), (.call 40 [(.c (.p (.s (.slice none 0 0)))), (.t 7)]), none⟩,
    ⟨(some 3), (.mv (.t 8)), none⟩] none [0, 3])
  (.seq (.region [⟨(some 9), (.mv (.t 3)), none⟩,
    ⟨(some 10), (.slSl 1 (.t 9) none (some (.c (.p (.s (.int .i64 4))))) (some (.c (.p (.s (.int .i64 4)))))), none⟩,
    ⟨(some 11), (.mv (.t 3)), none⟩,
    ⟨(some 12), (.slSl 1 (.t 11) none (some (.c (.p (.s (.int .i64 4))))) (some (.c (.p (.s (.int .i64 4)))))), none⟩,
    ⟨(some 13), (.mv (.t 0)), none⟩,
    ⟨(some 14), (.app 1 1 (.t 12) (.t 13)), none⟩,
    ⟨(some 15), (.call 41 [(.t 14)]), none⟩,
    ⟨(some 16), (.call 40 [(.t 10), (.t 15)]), none⟩,
    ⟨(some 4), (.mv (.t 16)), none⟩] (some [0, 1, 0, 4, 0, 28, 60, 127, 255]) [0, 4])
  (.seq (.region [⟨(some 17), (.mv (.t 4)), none⟩,
    ⟨(some 18), (.mv (.t 0)), none⟩,
    ⟨(some 19), (.app 1 1 (.t 17) (.t 18)), none⟩,
    ⟨(some 2), (.mv (.t 19)), none⟩] none [2])
  .ret)))), [(2, none)], true⟩
/-- bytes.Clone -/
def ir25 : IRF := ⟨[0], (.seq (.region [⟨(some 2), (.mv (.c (.p (.s (.slice none 0 0))))), none⟩] none [0])
  (.seq (.seq (.region [⟨(some 3), (.mv (.t 0)), none⟩,
    ⟨(some 4), (.eq false .slice (.t 3) (.c (.p (.s (.slice none 0 0))))), none⟩] none [0, 4])
  (.cond (.t 4) (.seq (.region [⟨(some 2), (.mv (.c (.p (.s (.slice none 0 0))))), none⟩] none [2])
  .ret) .skip))
  (.seq (.region [⟨(some 5), (.mkSl 0 1 [] []), none⟩,
    ⟨(some 6), (.mv (.t 0)), none⟩,
    ⟨(some 7), (.app 1 1 (.t 5) (.t 6)), none⟩,
    ⟨(some 2), (.mv (.t 7)), none⟩] none [2])
  .ret))), [(2, none)], true⟩
/-- slices.Delete[[]kinfolk/net.frame,kinfolk/net.frame] -/
def ir26 : IRF := ⟨[0, 1, 2], (.seq (.region [⟨(some 6), (.mv (.c (.p (.s (.slice none 0 0))))), none⟩] none [0, 1, 2])
  (.seq (.region [⟨(some 8), (.mv (.t 0)), none⟩,
    ⟨(some 9), (.mv (.t 1)), none⟩,
    ⟨(some 10), (.mv (.t 2)), none⟩,
    ⟨(some 11), (.mv (.t 0)), none⟩,
    ⟨(some 12), (.len false (.t 11)), none⟩,
    ⟨(some 13), (.slSl 2 (.t 8) (some (.t 9)) (some (.t 10)) (some (.t 12))), none⟩] none [0, 1, 2])
  (.seq (.seq (.region [⟨(some 14), (.mv (.t 1)), none⟩,
    ⟨(some 15), (.mv (.t 2)), none⟩,
    ⟨(some 16), (.bin .eql (.t 14) (.t 15)), none⟩] none [0, 1, 2, 16])
  (.cond (.t 16) (.seq (.region [⟨(some 17), (.mv (.t 0)), none⟩,
    ⟨(some 6), (.mv (.t 17)), none⟩] none [6])
  .ret) .skip))
  (.seq (.region [⟨(some 18), (.mv (.t 0)), none⟩,
    ⟨(some 19), (.len false (.t 18)), none⟩,
    ⟨(some 7), (.mv (.t 19)), none⟩] none [0, 1, 2, 7])
  (.seq (.region [⟨(some 20), (.mv (.t 0)), none⟩,
    ⟨(some 21), (.mv (.t 1)), none⟩,
    ⟨(some 22), (.slSl 2 (.t 20) none (some (.t 21)) none), none⟩,
    ⟨(some 23), (.mv (.t 0)), none⟩,
    ⟨(some 24), (.mv (.t 2)), none⟩,
    ⟨(some 25), (.slSl 2 (.t 23) (some (.t 24)) none none), none⟩,
    ⟨(some 26), (.app 2 32 (.t 22) (.t 25)), none⟩,
    ⟨(some 0), (.mv (.t 26)), none⟩] (some [0, 0, 3, 0, 0, 24, 63, 127]) [0, 7])
  (.seq (.region [⟨(some 27), (.mv (.t 0)), none⟩,
    ⟨(some 28), (.mv (.t 0)), none⟩,
    ⟨(some 29), (.len false (.t 28)), none⟩,
    ⟨(some 30), (.mv (.t 7)), none⟩,
    ⟨(some 31), (.slSl 2 (.t 27) (some (.t 29)) (some (.t 30)) none), none⟩,
    ⟨none, (.clr 2 [(.s (.slice none 0 0)), (.s (.int .i64 0))] (.t 31)), none⟩] none [0])
  (.seq (.region [⟨(some 32), (.mv (.t 0)), none⟩,
    ⟨(some 6), (.mv (.t 32)), none⟩] none [6])
  .ret))))))), [(6, none)], true⟩
/-- kinfolk/wire.Open -/
def ir27 : IRF := ⟨[0], (.seq (.region [⟨(some 2), (.mv (.c (.p (.s (.slice none 0 0))))), none⟩,
    ⟨(some 3), (.mv (.c (.p (.s (.int .i64 0))))), none⟩,
    ⟨(some 4), (.mv (.c (.p (.s (.int .i64 0))))), none⟩] none [0])
  (.seq (.seq (.region [⟨(some 7), (.mv (.t 0)), none⟩,
    ⟨(some 8), (.len false (.t 7)), none⟩,
    ⟨(some 9), (.bin .lss (.t 8) (.c (.p (.s (.int .i64 8))))), none⟩] none [0, 9])
  (.cond (.t 9) (.seq (.region [⟨(some 2), (.mv (.c (.p (.s (.slice none 0 0))))), none⟩,
    ⟨(some 3), (.mv (.c (.p (.s (.int .i64 0))))), none⟩,
    ⟨(some 4), (.mv (.c (.p (.s (.int .i64 6))))), none⟩] none [2, 3, 4])
  .ret) .skip))
  (.seq (.region [⟨(some 10), (.mv (.t 0)), none⟩,
    ⟨(some 11), (.call 42 [(.t 10)]), none⟩,
    ⟨(some 5), (.mv (.t 11)), none⟩] none [0, 5])
  (.seq (.block 0 (.seq (.region [⟨(some 13), (.mv (.t 5)), none⟩,
    ⟨(some 14), (.bin .gtr (.t 13) (.c (.p (.s (.int .u32 1048576))))), none⟩,
    ⟨(some 12), (.mv (.t 14)), none⟩] none [0, 5, 12])
  (.cond (.t 12) (.seq (.region [⟨(some 2), (.mv (.c (.p (.s (.slice none 0 0))))), none⟩,
    ⟨(some 3), (.mv (.c (.p (.s (.int .i64 0))))), none⟩,
    ⟨(some 4), (.mv (.c (.p (.s (.int .i64 9))))), none⟩] none [2, 3, 4])
  .ret) (.seq (.region [⟨(some 16), (.mv (.t 5)), none⟩,
    ⟨(some 17), (.cvt .i64 (.t 16)), none⟩,
    ⟨(some 18), (.mv (.t 0)), none⟩,
    ⟨(some 19), (.len false (.t 18)), none⟩,
    ⟨(some 20), (.bin .sub (.t 19) (.c (.p (.s (.int .i64 8))))), none⟩,
    ⟨(some 21), (.bin .gtr (.t 17) (.t 20)), none⟩,
    ⟨(some 15), (.mv (.t 21)), none⟩] none [0, 5, 15])
  (.cond (.t 15) (.seq (.region [⟨(some 2), (.mv (.c (.p (.s (.slice none 0 0))))), none⟩,
    ⟨(some 3), (.mv (.c (.p (.s (.int .i64 0))))), none⟩,
    ⟨(some 4), (.mv (.c (.p (.s (.int .i64 6))))), none⟩] none [2, 3, 4])
  .ret) .skip)))))
  (.seq (.region [⟨(some 22), (.mv (.t 0)), none⟩,
    ⟨(some 23), (.mv (.t 5)), none⟩,
    ⟨(some 24), (.cvt .i64 (.t 23)), none⟩,
    ⟨(some 25), (.bin .add (.c (.p (.s (.int .i64 8)))) (.t 24)), none⟩,
    ⟨(some 26), (.slSl 1 (.t 22) (some (.c (.p (.s (.int .i64 8))))) (some (.t 25)) none), none⟩,
    ⟨(some 27), (.call 25 [(.t 26)]), none⟩,
    ⟨(some 6), (.mv (.t 27)), none⟩] none [0, 5, 6])
  (.seq (.seq (.region [⟨(some 28), (.mv (.t 0)), none⟩,
    ⟨(some 29), (.slSl 1 (.t 28) (some (.c (.p (.s (.int .i64 4))))) none none), none⟩,
    ⟨(some 30), (.call 42 [(.t 29)]), none⟩,
    ⟨(some 31), (.mv (.t 0)), none⟩,
    ⟨(some 32), (.slSl 1 (.t 31) none (some (.c (.p (.s (.int .i64 4))))) (some (.c (.p (.s (.int .i64 4)))))), none⟩,
    ⟨(some 33), (.mv (.t 6)), none⟩,
    ⟨(some 34), (.app 1 1 (.t 32) (.t 33)), none⟩,
    ⟨(some 35), (.call 41 [(.t 34)]), none⟩,
    ⟨(some 36), (.bin .neq (.t 30) (.t 35)), none⟩] (some [0, 1, 3, 0, 8, 0, 63, 127, 255]) [5, 6, 36])
  (.cond (.t 36) (.seq (.region [⟨(some 2), (.mv (.c (.p (.s (.slice none 0 0))))), none⟩,
    ⟨(some 3), (.mv (.c (.p (.s (.int .i64 0))))), none⟩,
    ⟨(some 4), (.mv (.c (.p (.s (.int .i64 13))))), none⟩] none [2, 3, 4])
  .ret) .skip))
  (.seq (.region [⟨(some 37), (.mv (.t 6)), none⟩,
    ⟨(some 38), (.mv (.t 5)), none⟩,
    ⟨(some 39), (.cvt .i64 (.t 38)), none⟩,
    ⟨(some 40), (.bin .add (.c (.p (.s (.int .i64 8)))) (.t 39)), none⟩,
    ⟨(some 2), (.mv (.t 37)), none⟩,
    ⟨(some 3), (.mv (.t 40)), none⟩,
    ⟨(some 4), (.mv (.c (.p (.s (.int .i64 0))))), none⟩] none [2, 3, 4])
  .ret))))))), [(2, none), (3, none), (4, none)], false⟩
/-- kinfolk/wire.Of -/
def ir28 : IRF := ⟨[0], (.seq (.region [⟨(some 2), (.mv (.c (.p (.s (.pointer none))))), none⟩] none [0])
  (.seq (.region [⟨(some 3), (.mv (.t 0)), none⟩,
    ⟨(some 4), (.call 25 [(.t 3)]), none⟩,
    ⟨(some 5), (.build [(.s (.slice none 0 0)), (.s (.int .i64 0))] [(0, 1, (.t 4))]), none⟩,
    ⟨(some 6), (.box false (.t 5)), none⟩,
    ⟨(some 2), (.mv (.t 6)), none⟩] none [2])
  .ret)), [(2, none)], true⟩
/-- kinfolk/note.get -/
def ir29 : IRF := ⟨[0], (.seq (.region [⟨(some 2), (.alloc false [(.s (.int .i64 0)), (.s (.int .i64 0)), (.s (.int .i64 0)), (.s (.int .u64 0)), (.s (.int .i64 0)), (.s (.bool false)), (.s (.int .u64 0)), (.s (.pointer none)), (.s (.slice none 0 0)), (.s (.int .u64 0)), (.s (.int .i64 0)), (.s (.int .i64 0)), (.s (.bool false)), (.s (.pointer none)), (.s (.int .u64 0))]), none⟩] none [0, 2])
  (.seq (.region [⟨(some 8), (.mv (.t 0)), none⟩,
    ⟨(some 9), (.call 43 [(.t 8)]), none⟩,
    ⟨(some 10), (.cvt .i64 (.t 9)), none⟩,
    ⟨(some 11), (.mv (.t 0)), none⟩,
    ⟨(some 12), (.call 43 [(.t 11)]), none⟩,
    ⟨(some 13), (.cvt .i64 (.t 12)), none⟩,
    ⟨(some 14), (.mv (.t 0)), none⟩,
    ⟨(some 15), (.call 43 [(.t 14)]), none⟩,
    ⟨(some 16), (.cvt .i64 (.t 15)), none⟩,
    ⟨(some 17), (.build [(.s (.int .i64 0)), (.s (.int .i64 0)), (.s (.int .i64 0)), (.s (.int .u64 0)), (.s (.int .i64 0)), (.s (.bool false)), (.s (.int .u64 0)), (.s (.pointer none)), (.s (.slice none 0 0)), (.s (.int .u64 0)), (.s (.int .i64 0)), (.s (.int .i64 0)), (.s (.bool false)), (.s (.pointer none)), (.s (.int .u64 0))] [(0, 1, (.t 10)), (1, 1, (.t 13)), (2, 1, (.t 16))]), none⟩,
    ⟨(some 3), (.alloc false [(.s (.int .i64 0)), (.s (.int .i64 0)), (.s (.int .i64 0)), (.s (.int .u64 0)), (.s (.int .i64 0)), (.s (.bool false)), (.s (.int .u64 0)), (.s (.pointer none)), (.s (.slice none 0 0)), (.s (.int .u64 0)), (.s (.int .i64 0)), (.s (.int .i64 0)), (.s (.bool false)), (.s (.pointer none)), (.s (.int .u64 0))]), none⟩,
    ⟨none, (.store 15 (.t 3) (.t 17)), none⟩] none [0, 2, 3])
  (.seq (.region [⟨(some 18), (.fieldAddr 0 (.t 3)), none⟩,
    ⟨(some 19), (.load 1 false (.t 18)), none⟩,
    ⟨(some 20), (.call 18 [(.t 19)]), none⟩,
    ⟨(some 4), (.mv (.t 20)), none⟩] none [0, 2, 3, 4])
  (.seq (.seq (.region [⟨(some 21), (.mv (.t 4)), none⟩,
    ⟨(some 22), (.bin .lss (.t 21) (.c (.p (.s (.int .i64 0))))), none⟩] none [0, 2, 3, 4, 22])
  (.cond (.t 22) (.seq (.region [⟨(some 23), (.mv (.t 0)), none⟩,
    ⟨(some 24), (.call 44 [(.t 23), (.c (.p (.s (.int .i64 6))))]), none⟩] none [2, 3])
  (.seq (.region [⟨(some 25), (.load 15 true (.t 3)), none⟩,
    ⟨none, (.store 15 (.t 2) (.t 25)), none⟩] none [2])
  .ret)) .skip))
  (.seq (.seq (.region [⟨(some 26), (.mv (.t 4)), none⟩,
    ⟨(some 27), (.bin .and (.t 26) (.c (.p (.s (.int .i64 1))))), none⟩,
    ⟨(some 28), (.bin .gtr (.t 27) (.c (.p (.s (.int .i64 0))))), none⟩] none [0, 2, 3, 4, 28])
  (.cond (.t 28) (.region [⟨(some 29), (.mv (.t 0)), none⟩,
    ⟨(some 30), (.call 45 [(.t 29)]), none⟩,
    ⟨(some 31), (.fieldAddr 3 (.t 3)), none⟩,
    ⟨none, (.store 1 (.t 31) (.t 30)), none⟩] none [0, 2, 3, 4]) .skip))
  (.seq (.seq (.region [⟨(some 32), (.mv (.t 4)), none⟩,
    ⟨(some 33), (.bin .and (.t 32) (.c (.p (.s (.int .i64 2))))), none⟩,
    ⟨(some 34), (.bin .gtr (.t 33) (.c (.p (.s (.int .i64 0))))), none⟩] none [0, 2, 3, 4, 34])
  (.cond (.t 34) (.region [⟨(some 35), (.mv (.t 0)), none⟩,
    ⟨(some 36), (.call 43 [(.t 35)]), none⟩,
    ⟨(some 37), (.cvt .i64 (.t 36)), none⟩,
    ⟨(some 38), (.fieldAddr 4 (.t 3)), none⟩,
    ⟨none, (.store 1 (.t 38) (.t 37)), none⟩] none [0, 2, 3, 4]) .skip))
  (.seq (.seq (.region [⟨(some 39), (.mv (.t 4)), none⟩,
    ⟨(some 40), (.bin .and (.t 39) (.c (.p (.s (.int .i64 16))))), none⟩,
    ⟨(some 41), (.bin .gtr (.t 40) (.c (.p (.s (.int .i64 0))))), none⟩] none [0, 2, 3, 4, 41])
  (.cond (.t 41) (.seq (.region [⟨(some 42), (.mv (.t 0)), none⟩,
    ⟨(some 43), (.call 43 [(.t 42)]), none⟩,
    ⟨(some 5), (.mv (.t 43)), none⟩] none [0, 2, 3, 4, 5])
  (.seq (.seq (.region [⟨(some 44), (.mv (.t 5)), none⟩,
    ⟨(some 45), (.bin .gtr (.t 44) (.c (.p (.s (.int .u8 1))))), none⟩] none [0, 2, 3, 4, 5, 45])
  (.cond (.t 45) (.region [⟨(some 46), (.mv (.t 0)), none⟩,
    ⟨(some 47), (.call 44 [(.t 46), (.c (.p (.s (.int .i64 6))))]), none⟩] none [0, 2, 3, 4, 5]) .skip))
  (.region [⟨(some 48), (.mv (.t 5)), none⟩,
    ⟨(some 49), (.bin .eql (.t 48) (.c (.p (.s (.int .u8 1))))), none⟩,
    ⟨(some 50), (.fieldAddr 5 (.t 3)), none⟩,
    ⟨none, (.store 1 (.t 50) (.t 49)), none⟩] none [0, 2, 3, 4]))) .skip))
  (.seq (.seq (.region [⟨(some 51), (.mv (.t 4)), none⟩,
    ⟨(some 52), (.bin .and (.t 51) (.c (.p (.s (.int .i64 32))))), none⟩,
    ⟨(some 53), (.bin .gtr (.t 52) (.c (.p (.s (.int .i64 0))))), none⟩] none [0, 2, 3, 4, 53])
  (.cond (.t 53) (.region [⟨(some 54), (.mv (.t 0)), none⟩,
    ⟨(some 55), (.call 46 [(.t 54)]), none⟩,
    ⟨(some 56), (.fieldAddr 9 (.t 3)), none⟩,
    ⟨none, (.store 5 (.t 56) (.t 55)), none⟩] none [0, 2, 3, 4]) .skip))
  (.seq (.seq (.region [⟨(some 57), (.mv (.t 4)), none⟩,
    ⟨(some 58), (.bin .and (.t 57) (.c (.p (.s (.int .i64 8))))), none⟩,
    ⟨(some 59), (.bin .gtr (.t 58) (.c (.p (.s (.int .i64 0))))), none⟩] none [0, 2, 3, 4, 59])
  (.cond (.t 59) (.seq (.region [⟨(some 61), (.mv (.t 0)), none⟩,
    ⟨(some 62), (.call 48 [(.t 61), (.c (.p (.s (.int .i64 1048576))))]), none⟩,
    ⟨(some 63), (.s2b (.t 62)), none⟩,
    ⟨(some 64), (.call 47 [(.t 63)]), none⟩,
    ⟨(some 60), (.mv (.t 64)), none⟩,
    ⟨(some 65), (.ext (.t 60) 0), none⟩,
    ⟨(some 66), (.ext (.t 60) 1), none⟩,
    ⟨(some 6), (.alloc false [(.s (.int .u64 0)), (.s (.pointer none))]), none⟩,
    ⟨none, (.store 2 (.t 6) (.t 65)), none⟩,
    ⟨(some 7), (.mv (.t 66)), none⟩] none [0, 2, 3, 4, 6, 7])
  (.seq (.region [⟨(some 67), (.mv (.t 0)), none⟩,
    ⟨(some 68), (.mv (.t 7)), none⟩,
    ⟨(some 69), (.call 44 [(.t 67), (.t 68)]), none⟩] none [0, 2, 3, 4, 6])
  (.region [⟨(some 70), (.load 2 true (.t 6)), none⟩,
    ⟨(some 71), (.fieldAddr 6 (.t 3)), none⟩,
    ⟨none, (.store 2 (.t 71) (.t 70)), none⟩] none [0, 2, 3, 4]))) .skip))
  (.seq (.seq (.region [⟨(some 72), (.mv (.t 4)), none⟩,
    ⟨(some 73), (.bin .and (.t 72) (.c (.p (.s (.int .i64 4))))), none⟩,
    ⟨(some 74), (.bin .gtr (.t 73) (.c (.p (.s (.int .i64 0))))), none⟩] none [0, 2, 3, 4, 74])
  (.cond (.t 74) (.region [⟨(some 75), (.mv (.t 0)), none⟩,
    ⟨(some 76), (.call 49 [(.t 75)]), none⟩,
    ⟨(some 77), (.fieldAddr 8 (.t 3)), none⟩,
    ⟨none, (.store 1 (.t 77) (.t 76)), none⟩] none [0, 2, 3, 4]) .skip))
  (.seq (.seq (.region [⟨(some 78), (.mv (.t 4)), none⟩,
    ⟨(some 79), (.bin .and (.t 78) (.c (.p (.s (.int .i64 64))))), none⟩,
    ⟨(some 80), (.bin .gtr (.t 79) (.c (.p (.s (.int .i64 0))))), none⟩] none [0, 2, 3, 80])
  (.cond (.t 80) (.region [⟨(some 81), (.mv (.t 0)), none⟩,
    ⟨(some 82), (.call 45 [(.t 81)]), none⟩,
    ⟨(some 83), (.fieldAddr 14 (.t 3)), none⟩,
    ⟨none, (.store 1 (.t 83) (.t 82)), none⟩] none [2, 3]) .skip))
  (.seq (.region [⟨(some 84), (.load 15 true (.t 3)), none⟩,
    ⟨none, (.store 15 (.t 2) (.t 84)), none⟩] none [2])
  .ret)))))))))))), [(2, some (15, true))], false⟩
/-- (*kinfolk/wire.In).End -/
def ir30 : IRF := ⟨[0], (.seq (.region [⟨(some 2), (.mv (.c (.p (.s (.int .i64 0))))), none⟩] none [0])
  (.seq (.seq (.region [⟨(some 3), (.mv (.t 0)), none⟩,
    ⟨(some 4), (.call 50 [(.t 3)]), none⟩,
    ⟨(some 5), (.bin .gtr (.t 4) (.c (.p (.s (.int .i64 0))))), none⟩] none [0, 5])
  (.cond (.t 5) (.region [⟨(some 6), (.mv (.t 0)), none⟩,
    ⟨(some 7), (.call 44 [(.t 6), (.c (.p (.s (.int .i64 6))))]), none⟩] none [0]) .skip))
  (.seq (.region [⟨(some 8), (.mv (.t 0)), none⟩,
    ⟨(some 9), (.call 51 [(.t 8)]), none⟩,
    ⟨(some 2), (.mv (.t 9)), none⟩] none [2])
  .ret))), [(2, none)], false⟩
/-- kinfolk/note.node -/
def ir31 : IRF := ⟨[0], (.seq (.region [⟨(some 2), (.mv (.c (.p (.s (.bool false))))), none⟩] none [0])
  (.seq (.region [⟨(some 3), (.mv (.t 0)), none⟩,
    ⟨(some 4), (.bin .geq (.t 3) (.c (.p (.s (.int .i64 0))))), none⟩,
    ⟨(some 5), (.mv (.t 4)), none⟩,
    ⟨(some 6), (.mv (.t 0)), (some (5, true))⟩,
    ⟨(some 7), (.bin .lss (.t 6) (.c (.p (.s (.int .i64 12))))), (some (5, true))⟩,
    ⟨(some 8), (.pick (.t 5) (.t 7) (.c (.p (.s (.bool false))))), none⟩,
    ⟨(some 2), (.mv (.t 8)), none⟩] none [2])
  .ret)), [(2, none)], false⟩
/-- (kinfolk/note.Note).zero -/
def ir32 : IRF := ⟨[0], (.seq (.region [⟨(some 1), (.box false (.t 0)), none⟩,
    ⟨(some 2), (.mv (.c (.p (.s (.bool false))))), none⟩] none [1])
  (.seq (.region [⟨(some 7), (.fieldAddr 0 (.t 1)), none⟩,
    ⟨(some 8), (.load 1 false (.t 7)), none⟩,
    ⟨(some 9), (.call 18 [(.t 8)]), none⟩,
    ⟨(some 3), (.alloc false [(.s (.int .i64 0))]), none⟩,
    ⟨none, (.store 1 (.t 3) (.t 9)), none⟩] none [1, 3])
  (.seq (.region [⟨(some 10), (.mkFn 52 [] [(.t 3)]), none⟩,
    ⟨(some 4), (.mv (.t 10)), none⟩] none [1, 4])
  (.seq (.region [⟨(some 11), (.fieldAddr 6 (.t 1)), none⟩,
    ⟨(some 12), (.load 2 true (.t 11)), none⟩,
    ⟨(some 13), (.build [(.s (.int .u64 0)), (.s (.pointer none))] []), none⟩,
    ⟨(some 14), (.call 53 [(.t 12), (.t 13)]), none⟩,
    ⟨(some 5), (.mv (.t 14)), none⟩] none [1, 4, 5])
  (.seq (.region [⟨(some 15), (.fieldAddr 9 (.t 1)), none⟩,
    ⟨(some 16), (.fieldAddr 0 (.t 15)), none⟩,
    ⟨(some 17), (.load 1 false (.t 16)), none⟩,
    ⟨(some 18), (.bin .eql (.t 17) (.c (.p (.s (.int .u64 0))))), none⟩,
    ⟨(some 19), (.mv (.t 18)), none⟩,
    ⟨(some 20), (.fieldAddr 9 (.t 1)), (some (19, true))⟩,
    ⟨(some 21), (.fieldAddr 1 (.t 20)), (some (19, true))⟩,
    ⟨(some 22), (.load 1 false (.t 21)), (some (19, true))⟩,
    ⟨(some 23), (.bin .eql (.t 22) (.c (.p (.s (.int .i64 0))))), (some (19, true))⟩,
    ⟨(some 24), (.pick (.t 19) (.t 23) (.c (.p (.s (.bool false))))), none⟩,
    ⟨(some 25), (.mv (.t 24)), none⟩,
    ⟨(some 26), (.fieldAddr 9 (.t 1)), (some (25, true))⟩,
    ⟨(some 27), (.fieldAddr 2 (.t 26)), (some (25, true))⟩,
    ⟨(some 28), (.load 1 false (.t 27)), (some (25, true))⟩,
    ⟨(some 29), (.bin .eql (.t 28) (.c (.p (.s (.int .i64 0))))), (some (25, true))⟩,
    ⟨(some 30), (.pick (.t 25) (.t 29) (.c (.p (.s (.bool false))))), none⟩,
    ⟨(some 31), (.mv (.t 30)), none⟩,
    ⟨(some 32), (.fieldAddr 9 (.t 1)), (some (31, true))⟩,
    ⟨(some 33), (.fieldAddr 3 (.t 32)), (some (31, true))⟩,
    ⟨(some 34), (.load 2 true (.t 33)), (some (31, true))⟩,
    ⟨(some 35), (.call 54 [(.t 34)]), (some (31, true))⟩,
    ⟨(some 36), (.pick (.t 31) (.t 35) (.c (.p (.s (.bool false))))), none⟩,
    ⟨(some 6), (.mv (.t 36)), none⟩] none [1, 4, 5, 6])
  (.seq (.region [⟨(some 37), (.mv (.t 4)), none⟩,
    ⟨(some 38), (.fieldAddr 3 (.t 1)), none⟩,
    ⟨(some 39), (.load 1 false (.t 38)), none⟩,
    ⟨(some 40), (.bin .eql (.t 39) (.c (.p (.s (.int .u64 0))))), none⟩,
    ⟨(some 41), (.callv (.t 37) [(.c (.p (.s (.int .i64 1)))), (.t 40)]), none⟩,
    ⟨(some 42), (.mv (.t 41)), none⟩,
    ⟨(some 43), (.mv (.t 4)), (some (42, true))⟩,
    ⟨(some 44), (.fieldAddr 4 (.t 1)), (some (42, true))⟩,
    ⟨(some 45), (.load 1 false (.t 44)), (some (42, true))⟩,
    ⟨(some 46), (.bin .eql (.t 45) (.c (.p (.s (.int .i64 0))))), (some (42, true))⟩,
    ⟨(some 47), (.callv (.t 43) [(.c (.p (.s (.int .i64 2)))), (.t 46)]), (some (42, true))⟩,
    ⟨(some 48), (.pick (.t 42) (.t 47) (.c (.p (.s (.bool false))))), none⟩,
    ⟨(some 49), (.mv (.t 48)), none⟩,
    ⟨(some 50), (.mv (.t 4)), (some (49, true))⟩,
    ⟨(some 51), (.fieldAddr 5 (.t 1)), (some (49, true))⟩,
    ⟨(some 52), (.load 1 false (.t 51)), (some (49, true))⟩,
    ⟨(some 53), (.un .not (.t 52)), (some (49, true))⟩,
    ⟨(some 54), (.callv (.t 50) [(.c (.p (.s (.int .i64 16)))), (.t 53)]), (some (49, true))⟩,
    ⟨(some 55), (.pick (.t 49) (.t 54) (.c (.p (.s (.bool false))))), none⟩,
    ⟨(some 56), (.mv (.t 55)), none⟩,
    ⟨(some 57), (.mv (.t 4)), (some (56, true))⟩,
    ⟨(some 58), (.mv (.t 5)), (some (56, true))⟩,
    ⟨(some 59), (.callv (.t 57) [(.c (.p (.s (.int .i64 8)))), (.t 58)]), (some (56, true))⟩,
    ⟨(some 60), (.pick (.t 56) (.t 59) (.c (.p (.s (.bool false))))), none⟩,
    ⟨(some 61), (.mv (.t 60)), none⟩,
    ⟨(some 62), (.mv (.t 4)), (some (61, true))⟩,
    ⟨(some 63), (.fieldAddr 8 (.t 1)), (some (61, true))⟩,
    ⟨(some 64), (.load 1 false (.t 63)), (some (61, true))⟩,
    ⟨(some 65), (.len false (.t 64)), (some (61, true))⟩,
    ⟨(some 66), (.bin .eql (.t 65) (.c (.p (.s (.int .i64 0))))), (some (61, true))⟩,
    ⟨(some 67), (.callv (.t 62) [(.c (.p (.s (.int .i64 4)))), (.t 66)]), (some (61, true))⟩,
    ⟨(some 68), (.pick (.t 61) (.t 67) (.c (.p (.s (.bool false))))), none⟩,
    ⟨(some 69), (.mv (.t 68)), none⟩,
    ⟨(some 70), (.mv (.t 4)), (some (69, true))⟩,
    ⟨(some 71), (.mv (.t 6)), (some (69, true))⟩,
    ⟨(some 72), (.callv (.t 70) [(.c (.p (.s (.int .i64 32)))), (.t 71)]), (some (69, true))⟩,
    ⟨(some 73), (.pick (.t 69) (.t 72) (.c (.p (.s (.bool false))))), none⟩,
    ⟨(some 74), (.mv (.t 73)), none⟩,
    ⟨(some 75), (.mv (.t 4)), (some (74, true))⟩,
    ⟨(some 76), (.fieldAddr 14 (.t 1)), (some (74, true))⟩,
    ⟨(some 77), (.load 1 false (.t 76)), (some (74, true))⟩,
    ⟨(some 78), (.bin .eql (.t 77) (.c (.p (.s (.int .u64 0))))), (some (74, true))⟩,
    ⟨(some 79), (.callv (.t 75) [(.c (.p (.s (.int .i64 64)))), (.t 78)]), (some (74, true))⟩,
    ⟨(some 80), (.pick (.t 74) (.t 79) (.c (.p (.s (.bool false))))), none⟩,
    ⟨(some 2), (.mv (.t 80)), none⟩] none [2])
  .ret)))))), [(2, none)], false⟩
/-- (kinfolk/note.Note).told -/
def ir33 : IRF := ⟨[0], (.seq (.region [⟨(some 1), (.box false (.t 0)), none⟩,
    ⟨(some 2), (.mv (.c (.p (.s (.bool false))))), none⟩] none [1])
  (.seq (.region [⟨(some 3), (.fieldAddr 8 (.t 1)), none⟩,
    ⟨(some 4), (.load 1 false (.t 3)), none⟩,
    ⟨(some 5), (.mkFn 56 [] [(.t 1)]), none⟩,
    ⟨(some 6), (.call 55 [(.t 4), (.t 5)]), none⟩,
    ⟨(some 7), (.un .not (.t 6)), none⟩,
    ⟨(some 2), (.mv (.t 7)), none⟩] none [2])
  .ret)), [(2, none)], false⟩
/-- kinfolk/wire.lay -/
def ir40_0 : IRC := (.seq (.region [⟨(some 7), (.bin .lss (.t 6) (.c (.p (.s (.int .i64 4))))), none⟩] none [0, 1, 6, 7])
  (.seq (.cond (.t 7) .skip (.exit 0))
  (.seq (.block 1 (.seq (.region [⟨(some 8), (.mv (.t 6)), none⟩,
    ⟨(some 5), (.mv (.t 8)), none⟩] none [0, 1, 5, 6])
  (.region [⟨(some 9), (.mv (.t 0)), none⟩,
    ⟨(some 10), (.mv (.t 1)), none⟩,
    ⟨(some 11), (.mv (.t 5)), none⟩,
    ⟨(some 12), (.bin .mul (.c (.p (.s (.int .i64 8)))) (.t 11)), none⟩,
    ⟨(some 13), (.bin .shr (.t 10) (.t 12)), none⟩,
    ⟨(some 14), (.cvt .u8 (.t 13)), none⟩,
    ⟨(some 15), (.mkSl 1 1 [(.s (.int .u8 0))] [(0, 1, (.t 14))]), none⟩,
    ⟨(some 16), (.app 1 1 (.t 9) (.t 15)), none⟩,
    ⟨(some 0), (.mv (.t 16)), none⟩] none [0, 1, 6])))
  (.region [⟨(some 17), (.bin .add (.t 6) (.c (.p (.s (.int .i64 1))))), none⟩,
    ⟨(some 6), (.mv (.t 17)), none⟩] none [0, 1, 6]))))
def ir40 : IRF := ⟨[0, 1], (.seq (.region [⟨(some 4), (.mv (.c (.p (.s (.slice none 0 0))))), none⟩] none [0, 1])
  (.seq (.seq (.region [⟨(some 6), (.mv (.c (.p (.s (.int .i64 0))))), none⟩] none [0, 1, 6])
  (.block 0 (.loop ir40_0)))
  (.seq (.region [⟨(some 18), (.mv (.t 0)), none⟩,
    ⟨(some 4), (.mv (.t 18)), none⟩] none [4])
  .ret))), [(4, none)], true⟩
/-- kinfolk/wire.Sum -/
def ir41_0 : IRC := (.seq (.region [⟨(some 17), (.bin .lss (.t 16) (.c (.p (.s (.int .i64 8))))), none⟩] none [3, 6, 7, 8, 16, 17])
  (.seq (.cond (.t 17) .skip (.exit 2))
  (.seq (.block 3 (.seq (.region [⟨(some 18), (.mv (.t 3)), none⟩,
    ⟨(some 19), (.bin .and (.t 18) (.c (.p (.s (.int .u32 1))))), none⟩,
    ⟨(some 20), (.bin .eql (.t 19) (.c (.p (.s (.int .u32 1))))), none⟩] none [3, 6, 7, 8, 16, 20])
  (.cond (.t 20) (.region [⟨(some 21), (.mv (.t 3)), none⟩,
    ⟨(some 22), (.bin .shr (.t 21) (.c (.p (.s (.int .u64 1))))), none⟩,
    ⟨(some 23), (.bin .xor (.t 22) (.c (.p (.s (.int .u32 3988292384))))), none⟩,
    ⟨(some 3), (.mv (.t 23)), none⟩] none [3, 6, 7, 8, 16]) (.region [⟨(some 24), (.mv (.t 3)), none⟩,
    ⟨(some 25), (.bin .shr (.t 24) (.c (.p (.s (.int .u64 1))))), none⟩,
    ⟨(some 3), (.mv (.t 25)), none⟩] none [3, 6, 7, 8, 16]))))
  (.region [⟨(some 26), (.bin .add (.t 16) (.c (.p (.s (.int .i64 1))))), none⟩,
    ⟨(some 16), (.mv (.t 26)), none⟩] none [3, 6, 7, 8, 16]))))
def ir41_1 : IRC := (.seq (.region [⟨(some 9), (.bin .lss (.t 8) (.t 7)), none⟩] none [3, 6, 7, 8, 9])
  (.seq (.cond (.t 9) .skip (.exit 0))
  (.seq (.block 1 (.seq (.region [⟨(some 10), (.idxASl 1 (.t 6) (.t 8)), none⟩,
    ⟨(some 11), (.load 1 false (.t 10)), none⟩,
    ⟨(some 5), (.mv (.t 11)), none⟩] none [3, 5, 6, 7, 8])
  (.seq (.region [⟨(some 12), (.mv (.t 3)), none⟩,
    ⟨(some 13), (.mv (.t 5)), none⟩,
    ⟨(some 14), (.cvt .u32 (.t 13)), none⟩,
    ⟨(some 15), (.bin .xor (.t 12) (.t 14)), none⟩,
    ⟨(some 3), (.mv (.t 15)), none⟩] none [3, 6, 7, 8])
  (.seq (.region [⟨(some 16), (.mv (.c (.p (.s (.int .i64 0))))), none⟩] none [3, 6, 7, 8, 16])
  (.block 2 (.loop ir41_0))))))
  (.region [⟨(some 27), (.bin .add (.t 8) (.c (.p (.s (.int .i64 1))))), none⟩,
    ⟨(some 8), (.mv (.t 27)), none⟩] none [3, 6, 7, 8]))))
def ir41 : IRF := ⟨[0], (.seq (.region [⟨(some 2), (.mv (.c (.p (.s (.int .u32 0))))), none⟩] none [0])
  (.seq (.region [⟨(some 3), (.mv (.c (.p (.s (.int .u32 4294967295))))), none⟩] none [0, 3])
  (.seq (.seq (.region [⟨(some 6), (.mv (.t 0)), none⟩,
    ⟨(some 7), (.len false (.t 6)), none⟩,
    ⟨(some 8), (.mv (.c (.p (.s (.int .i64 0))))), none⟩] none [3, 6, 7, 8])
  (.block 0 (.loop ir41_1)))
  (.seq (.region [⟨(some 28), (.mv (.t 3)), none⟩,
    ⟨(some 29), (.un .xor (.t 28)), none⟩,
    ⟨(some 2), (.mv (.t 29)), none⟩] none [2])
  .ret)))), [(2, none)], false⟩
/-- kinfolk/wire.take -/
def ir42_0 : IRC := (.seq (.region [⟨(some 6), (.bin .lss (.t 5) (.c (.p (.s (.int .i64 4))))), none⟩] none [0, 3, 5, 6])
  (.seq (.cond (.t 6) .skip (.exit 0))
  (.seq (.block 1 (.seq (.region [⟨(some 7), (.mv (.t 5)), none⟩,
    ⟨(some 4), (.mv (.t 7)), none⟩] none [0, 3, 4, 5])
  (.region [⟨(some 8), (.mv (.t 3)), none⟩,
    ⟨(some 9), (.mv (.t 0)), none⟩,
    ⟨(some 10), (.mv (.t 4)), none⟩,
    ⟨(some 11), (.idxASl 1 (.t 9) (.t 10)), none⟩,
    ⟨(some 12), (.load 1 false (.t 11)), none⟩,
    ⟨(some 13), (.cvt .u32 (.t 12)), none⟩,
    ⟨(some 14), (.mv (.t 4)), none⟩,
    ⟨(some 15), (.bin .mul (.c (.p (.s (.int .i64 8)))) (.t 14)), none⟩,
    ⟨(some 16), (.bin .shl (.t 13) (.t 15)), none⟩,
    ⟨(some 17), (.bin .or (.t 8) (.t 16)), none⟩,
    ⟨(some 3), (.mv (.t 17)), none⟩] none [0, 3, 5])))
  (.region [⟨(some 18), (.bin .add (.t 5) (.c (.p (.s (.int .i64 1))))), none⟩,
    ⟨(some 5), (.mv (.t 18)), none⟩] none [0, 3, 5]))))
def ir42 : IRF := ⟨[0], (.seq (.region [⟨(some 2), (.mv (.c (.p (.s (.int .u32 0))))), none⟩] none [0])
  (.seq (.region [⟨(some 3), (.mv (.c (.p (.s (.int .u32 0))))), none⟩] none [0, 3])
  (.seq (.seq (.region [⟨(some 5), (.mv (.c (.p (.s (.int .i64 0))))), none⟩] none [0, 3, 5])
  (.block 0 (.loop ir42_0)))
  (.seq (.region [⟨(some 19), (.mv (.t 3)), none⟩,
    ⟨(some 2), (.mv (.t 19)), none⟩] none [2])
  .ret)))), [(2, none)], false⟩
/-- (*kinfolk/wire.In).Byte -/
def ir43 : IRF := ⟨[0], (.seq (.region [⟨(some 2), (.mv (.c (.p (.s (.int .u8 0))))), none⟩] none [0])
  (.seq (.seq (.region [⟨(some 4), (.mv (.t 0)), none⟩,
    ⟨(some 5), (.call 51 [(.t 4)]), none⟩,
    ⟨(some 6), (.bin .neq (.t 5) (.c (.p (.s (.int .i64 0))))), none⟩,
    ⟨(some 7), (.mv (.t 6)), none⟩,
    ⟨(some 8), (.mv (.t 0)), (some (7, false))⟩,
    ⟨(some 9), (.nilCk (.t 8)), (some (7, false))⟩,
    ⟨(some 10), (.fieldAddr 0 (.t 9)), (some (7, false))⟩,
    ⟨(some 11), (.load 1 false (.t 10)), (some (7, false))⟩,
    ⟨(some 12), (.len false (.t 11)), (some (7, false))⟩,
    ⟨(some 13), (.bin .eql (.t 12) (.c (.p (.s (.int .i64 0))))), (some (7, false))⟩,
    ⟨(some 14), (.pick (.t 7) (.c (.p (.s (.bool true)))) (.t 13)), none⟩] none [0, 14])
  (.cond (.t 14) (.seq (.region [⟨(some 15), (.mv (.t 0)), none⟩,
    ⟨(some 16), (.call 44 [(.t 15), (.c (.p (.s (.int .i64 6))))]), none⟩] none [])
  (.seq (.region [⟨(some 2), (.mv (.c (.p (.s (.int .u8 0))))), none⟩] none [2])
  .ret)) .skip))
  (.seq (.region [⟨(some 17), (.mv (.t 0)), none⟩,
    ⟨(some 18), (.nilCk (.t 17)), none⟩,
    ⟨(some 19), (.fieldAddr 0 (.t 18)), none⟩,
    ⟨(some 20), (.load 1 false (.t 19)), none⟩,
    ⟨(some 21), (.idxASl 1 (.t 20) (.c (.p (.s (.int .i64 0))))), none⟩,
    ⟨(some 22), (.load 1 false (.t 21)), none⟩,
    ⟨(some 3), (.mv (.t 22)), none⟩] none [0, 3])
  (.seq (.region [⟨(some 23), (.mv (.t 0)), none⟩,
    ⟨(some 24), (.mv (.t 0)), none⟩,
    ⟨(some 25), (.nilCk (.t 24)), none⟩,
    ⟨(some 26), (.fieldAddr 0 (.t 25)), none⟩,
    ⟨(some 27), (.load 1 false (.t 26)), none⟩,
    ⟨(some 28), (.slSl 1 (.t 27) (some (.c (.p (.s (.int .i64 1))))) none none), none⟩,
    ⟨(some 29), (.nilCk (.t 23)), none⟩,
    ⟨(some 30), (.fieldAddr 0 (.t 29)), none⟩,
    ⟨none, (.store 1 (.t 30) (.t 28)), none⟩] none [3])
  (.seq (.region [⟨(some 31), (.mv (.t 3)), none⟩,
    ⟨(some 2), (.mv (.t 31)), none⟩] none [2])
  .ret))))), [(2, none)], false⟩
/-- (*kinfolk/wire.In).Fail -/
def ir44 : IRF := ⟨[0, 1], (.seq (.region [⟨(some 4), (.mv (.t 0)), none⟩,
    ⟨(some 5), (.eq true .ptr (.t 4) (.c (.p (.s (.pointer none))))), none⟩,
    ⟨(some 6), (.mv (.t 5)), none⟩,
    ⟨(some 7), (.mv (.t 0)), (some (6, true))⟩,
    ⟨(some 8), (.nilCk (.t 7)), (some (6, true))⟩,
    ⟨(some 9), (.fieldAddr 1 (.t 8)), (some (6, true))⟩,
    ⟨(some 10), (.load 1 false (.t 9)), (some (6, true))⟩,
    ⟨(some 11), (.bin .eql (.t 10) (.c (.p (.s (.int .i64 0))))), (some (6, true))⟩,
    ⟨(some 12), (.pick (.t 6) (.t 11) (.c (.p (.s (.bool false))))), none⟩] none [0, 1, 12])
  (.cond (.t 12) (.region [⟨(some 13), (.mv (.t 0)), none⟩,
    ⟨(some 14), (.mv (.t 1)), none⟩,
    ⟨(some 15), (.nilCk (.t 13)), none⟩,
    ⟨(some 16), (.fieldAddr 1 (.t 15)), none⟩,
    ⟨none, (.store 1 (.t 16) (.t 14)), none⟩] none []) .skip)), [], false⟩
/-- (*kinfolk/wire.In).Num -/
def ir45_0 : IRC := (.seq (.region [⟨(some 15), (.bin .lss (.t 14) (.t 13)), none⟩] none [0, 3, 12, 13, 14, 15])
  (.seq (.cond (.t 15) .skip (.exit 0))
  (.seq (.block 1 (.seq (.region [⟨(some 16), (.mv (.t 14)), none⟩,
    ⟨(some 17), (.idxASl 1 (.t 12) (.t 14)), none⟩,
    ⟨(some 18), (.load 1 false (.t 17)), none⟩,
    ⟨(some 4), (.mv (.t 16)), none⟩,
    ⟨(some 5), (.mv (.t 18)), none⟩] none [0, 3, 4, 5, 12, 13, 14])
  (.seq (.seq (.region [⟨(some 19), (.mv (.t 4)), none⟩,
    ⟨(some 20), (.bin .eql (.t 19) (.c (.p (.s (.int .i64 9))))), none⟩,
    ⟨(some 21), (.mv (.t 20)), none⟩,
    ⟨(some 22), (.mv (.t 5)), (some (21, true))⟩,
    ⟨(some 23), (.bin .gtr (.t 22) (.c (.p (.s (.int .u8 1))))), (some (21, true))⟩,
    ⟨(some 24), (.pick (.t 21) (.t 23) (.c (.p (.s (.bool false))))), none⟩,
    ⟨(some 25), (.mv (.t 24)), none⟩,
    ⟨(some 26), (.mv (.t 5)), (some (25, false))⟩,
    ⟨(some 27), (.bin .eql (.t 26) (.c (.p (.s (.int .u8 0))))), (some (25, false))⟩,
    ⟨(some 28), (.mv (.t 27)), (some (25, false))⟩,
    ⟨(some 29), (.mv (.t 4)), (some (28, true))⟩,
    ⟨(some 30), (.bin .gtr (.t 29) (.c (.p (.s (.int .i64 0))))), (some (28, true))⟩,
    ⟨(some 31), (.pick (.t 28) (.t 30) (.c (.p (.s (.bool false))))), (some (25, false))⟩,
    ⟨(some 32), (.pick (.t 25) (.c (.p (.s (.bool true)))) (.t 31)), none⟩] none [0, 3, 4, 5, 12, 13, 14, 32])
  (.cond (.t 32) (.exit 0) .skip))
  (.seq (.region [⟨(some 33), (.mv (.t 3)), none⟩,
    ⟨(some 34), (.mv (.t 5)), none⟩,
    ⟨(some 35), (.bin .andNot (.t 34) (.c (.p (.s (.int .u8 128))))), none⟩,
    ⟨(some 36), (.cvt .u64 (.t 35)), none⟩,
    ⟨(some 37), (.mv (.t 4)), none⟩,
    ⟨(some 38), (.bin .mul (.c (.p (.s (.int .i64 7)))) (.t 37)), none⟩,
    ⟨(some 39), (.bin .shl (.t 36) (.t 38)), none⟩,
    ⟨(some 40), (.bin .or (.t 33) (.t 39)), none⟩,
    ⟨(some 3), (.mv (.t 40)), none⟩] none [0, 3, 4, 5, 12, 13, 14])
  (.seq (.region [⟨(some 41), (.mv (.t 5)), none⟩,
    ⟨(some 42), (.bin .lss (.t 41) (.c (.p (.s (.int .u8 128))))), none⟩] none [0, 3, 4, 12, 13, 14, 42])
  (.cond (.t 42) (.seq (.region [⟨(some 43), (.mv (.t 0)), none⟩,
    ⟨(some 44), (.mv (.t 0)), none⟩,
    ⟨(some 45), (.nilCk (.t 44)), none⟩,
    ⟨(some 46), (.fieldAddr 0 (.t 45)), none⟩,
    ⟨(some 47), (.load 1 false (.t 46)), none⟩,
    ⟨(some 48), (.mv (.t 4)), none⟩,
    ⟨(some 49), (.bin .add (.t 48) (.c (.p (.s (.int .i64 1))))), none⟩,
    ⟨(some 50), (.slSl 1 (.t 47) (some (.t 49)) none none), none⟩,
    ⟨(some 51), (.nilCk (.t 43)), none⟩,
    ⟨(some 52), (.fieldAddr 0 (.t 51)), none⟩,
    ⟨none, (.store 1 (.t 52) (.t 50)), none⟩] none [3])
  (.seq (.region [⟨(some 53), (.mv (.t 3)), none⟩,
    ⟨(some 2), (.mv (.t 53)), none⟩] none [2])
  .ret)) .skip))))))
  (.region [⟨(some 54), (.bin .add (.t 14) (.c (.p (.s (.int .i64 1))))), none⟩,
    ⟨(some 14), (.mv (.t 54)), none⟩] none [0, 3, 12, 13, 14]))))
def ir45 : IRF := ⟨[0], (.seq (.region [⟨(some 2), (.mv (.c (.p (.s (.int .u64 0))))), none⟩] none [0])
  (.seq (.seq (.region [⟨(some 6), (.mv (.t 0)), none⟩,
    ⟨(some 7), (.call 51 [(.t 6)]), none⟩,
    ⟨(some 8), (.bin .neq (.t 7) (.c (.p (.s (.int .i64 0))))), none⟩] none [0, 8])
  (.cond (.t 8) (.seq (.region [⟨(some 2), (.mv (.c (.p (.s (.int .u64 0))))), none⟩] none [2])
  .ret) .skip))
  (.seq (.region [⟨(some 3), (.mv (.c (.p (.s (.int .u64 0))))), none⟩] none [0, 3])
  (.seq (.seq (.region [⟨(some 9), (.mv (.t 0)), none⟩,
    ⟨(some 10), (.nilCk (.t 9)), none⟩,
    ⟨(some 11), (.fieldAddr 0 (.t 10)), none⟩,
    ⟨(some 12), (.load 1 false (.t 11)), none⟩,
    ⟨(some 13), (.len false (.t 12)), none⟩,
    ⟨(some 14), (.mv (.c (.p (.s (.int .i64 0))))), none⟩] none [0, 3, 12, 13, 14])
  (.block 0 (.loop ir45_0)))
  (.seq (.region [⟨(some 55), (.mv (.t 0)), none⟩,
    ⟨(some 56), (.call 44 [(.t 55), (.c (.p (.s (.int .i64 6))))]), none⟩] none [])
  (.seq (.region [⟨(some 2), (.mv (.c (.p (.s (.int .u64 0))))), none⟩] none [2])
  .ret)))))), [(2, none)], false⟩
/-- (*kinfolk/wire.In).Left -/
def ir50 : IRF := ⟨[0], (.seq (.region [⟨(some 2), (.mv (.c (.p (.s (.int .i64 0))))), none⟩] none [0])
  (.seq (.seq (.region [⟨(some 3), (.mv (.t 0)), none⟩,
    ⟨(some 4), (.eq false .ptr (.t 3) (.c (.p (.s (.pointer none))))), none⟩] none [0, 4])
  (.cond (.t 4) (.seq (.region [⟨(some 2), (.mv (.c (.p (.s (.int .i64 0))))), none⟩] none [2])
  .ret) .skip))
  (.seq (.region [⟨(some 5), (.mv (.t 0)), none⟩,
    ⟨(some 6), (.nilCk (.t 5)), none⟩,
    ⟨(some 7), (.fieldAddr 0 (.t 6)), none⟩,
    ⟨(some 8), (.load 1 false (.t 7)), none⟩,
    ⟨(some 9), (.len false (.t 8)), none⟩,
    ⟨(some 2), (.mv (.t 9)), none⟩] none [2])
  .ret))), [(2, none)], false⟩
/-- (*kinfolk/wire.In).Err -/
def ir51 : IRF := ⟨[0], (.seq (.region [⟨(some 2), (.mv (.c (.p (.s (.int .i64 0))))), none⟩] none [0])
  (.seq (.seq (.region [⟨(some 3), (.mv (.t 0)), none⟩,
    ⟨(some 4), (.eq false .ptr (.t 3) (.c (.p (.s (.pointer none))))), none⟩] none [0, 4])
  (.cond (.t 4) (.seq (.region [⟨(some 2), (.mv (.c (.p (.s (.int .i64 2))))), none⟩] none [2])
  .ret) .skip))
  (.seq (.region [⟨(some 5), (.mv (.t 0)), none⟩,
    ⟨(some 6), (.nilCk (.t 5)), none⟩,
    ⟨(some 7), (.fieldAddr 1 (.t 6)), none⟩,
    ⟨(some 8), (.load 1 false (.t 7)), none⟩,
    ⟨(some 2), (.mv (.t 8)), none⟩] none [2])
  .ret))), [(2, none)], false⟩
/-- (kinfolk/note.Note).zero$1 -/
def ir52 : IRF := ⟨[0, 1, 2], (.seq (.region [⟨(some 5), (.mv (.c (.p (.s (.bool false))))), none⟩] none [0, 1, 2])
  (.seq (.region [⟨(some 6), (.load 1 false (.t 2)), none⟩,
    ⟨(some 7), (.mv (.t 0)), none⟩,
    ⟨(some 8), (.bin .and (.t 6) (.t 7)), none⟩,
    ⟨(some 9), (.bin .gtr (.t 8) (.c (.p (.s (.int .i64 0))))), none⟩,
    ⟨(some 10), (.mv (.t 9)), none⟩,
    ⟨(some 11), (.mv (.t 1)), (some (10, false))⟩,
    ⟨(some 12), (.pick (.t 10) (.c (.p (.s (.bool true)))) (.t 11)), none⟩,
    ⟨(some 5), (.mv (.t 12)), none⟩] none [5])
  .ret)), [(5, none)], false⟩
/-- kinfolk/event.Same -/
def ir53 : IRF := ⟨[0, 1], (.seq (.region [⟨(some 2), (.box false (.t 0)), none⟩,
    ⟨(some 3), (.box false (.t 1)), none⟩,
    ⟨(some 4), (.mv (.c (.p (.s (.bool false))))), none⟩] none [2, 3])
  (.seq (.region [⟨(some 5), (.load 2 true (.t 2)), none⟩,
    ⟨(some 6), (.load 2 true (.t 3)), none⟩,
    ⟨(some 7), (.call 58 [(.t 5), (.t 6)]), none⟩,
    ⟨(some 8), (.mv (.t 7)), none⟩,
    ⟨(some 9), (.load 2 true (.t 3)), (some (8, true))⟩,
    ⟨(some 10), (.load 2 true (.t 2)), (some (8, true))⟩,
    ⟨(some 11), (.call 58 [(.t 9), (.t 10)]), (some (8, true))⟩,
    ⟨(some 12), (.pick (.t 8) (.t 11) (.c (.p (.s (.bool false))))), none⟩,
    ⟨(some 4), (.mv (.t 12)), none⟩] none [4])
  .ret)), [(4, none)], false⟩
/-- (kinfolk/id.ID).IsZero -/
def ir54 : IRF := ⟨[0], (.seq (.region [⟨(some 1), (.box false (.t 0)), none⟩,
    ⟨(some 2), (.mv (.c (.p (.s (.bool false))))), none⟩] none [1])
  (.seq (.region [⟨(some 3), (.fieldAddr 0 (.t 1)), none⟩,
    ⟨(some 4), (.load 1 false (.t 3)), none⟩,
    ⟨(some 5), (.un .not (.t 4)), none⟩,
    ⟨(some 6), (.mv (.t 5)), none⟩,
    ⟨(some 7), (.fieldAddr 1 (.t 1)), (some (6, true))⟩,
    ⟨(some 8), (.load 1 false (.t 7)), (some (6, true))⟩,
    ⟨(some 9), (.eq false .ptr (.t 8) (.c (.p (.s (.pointer none))))), (some (6, true))⟩,
    ⟨(some 10), (.pick (.t 6) (.t 9) (.c (.p (.s (.bool false))))), none⟩,
    ⟨(some 2), (.mv (.t 10)), none⟩] none [2])
  .ret)), [(2, none)], false⟩
/-- slices.ContainsFunc[[]kinfolk/book.Entry,kinfolk/book.Entry] -/
def ir55 : IRF := ⟨[0, 1], (.seq (.region [⟨(some 4), (.mv (.c (.p (.s (.bool false))))), none⟩] none [0, 1])
  (.seq (.region [⟨(some 5), (.mv (.t 0)), none⟩,
    ⟨(some 6), (.mv (.t 1)), none⟩,
    ⟨(some 7), (.call 75 [(.t 5), (.t 6)]), none⟩,
    ⟨(some 8), (.bin .geq (.t 7) (.c (.p (.s (.int .i64 0))))), none⟩,
    ⟨(some 4), (.mv (.t 8)), none⟩] none [4])
  .ret)), [(4, none)], false⟩
/-- kinfolk/event.Leq -/
def ir58 : IRF := ⟨[0, 1], (.seq (.region [⟨(some 2), (.box false (.t 0)), none⟩,
    ⟨(some 3), (.box false (.t 1)), none⟩,
    ⟨(some 4), (.mv (.c (.p (.s (.bool false))))), none⟩] none [2, 3])
  (.seq (.seq (.region [⟨(some 5), (.fieldAddr 1 (.t 2)), none⟩,
    ⟨(some 6), (.load 1 false (.t 5)), none⟩,
    ⟨(some 7), (.eq false .ptr (.t 6) (.c (.p (.s (.pointer none))))), none⟩] none [2, 3, 7])
  (.cond (.t 7) (.seq (.region [⟨(some 8), (.fieldAddr 0 (.t 2)), none⟩,
    ⟨(some 9), (.load 1 false (.t 8)), none⟩,
    ⟨(some 10), (.fieldAddr 0 (.t 3)), none⟩,
    ⟨(some 11), (.load 1 false (.t 10)), none⟩,
    ⟨(some 12), (.bin .leq (.t 9) (.t 11)), none⟩,
    ⟨(some 4), (.mv (.t 12)), none⟩] none [4])
  .ret) .skip))
  (.seq (.seq (.region [⟨(some 13), (.fieldAddr 0 (.t 2)), none⟩,
    ⟨(some 14), (.load 1 false (.t 13)), none⟩,
    ⟨(some 15), (.fieldAddr 0 (.t 3)), none⟩,
    ⟨(some 16), (.load 1 false (.t 15)), none⟩,
    ⟨(some 17), (.bin .gtr (.t 14) (.t 16)), none⟩,
    ⟨(some 18), (.mv (.t 17)), none⟩,
    ⟨(some 19), (.fieldAddr 1 (.t 3)), (some (18, true))⟩,
    ⟨(some 20), (.load 1 false (.t 19)), (some (18, true))⟩,
    ⟨(some 21), (.eq false .ptr (.t 20) (.c (.p (.s (.pointer none))))), (some (18, true))⟩,
    ⟨(some 22), (.pick (.t 18) (.t 21) (.c (.p (.s (.bool false))))), none⟩] none [2, 3, 22])
  (.cond (.t 22) (.seq (.region [⟨(some 4), (.mv (.c (.p (.s (.bool false))))), none⟩] none [4])
  .ret) .skip))
  (.seq (.region [⟨(some 23), (.fieldAddr 1 (.t 2)), none⟩,
    ⟨(some 24), (.load 1 false (.t 23)), none⟩,
    ⟨(some 25), (.nilCk (.t 24)), none⟩,
    ⟨(some 26), (.fieldAddr 0 (.t 25)), none⟩,
    ⟨(some 27), (.load 2 true (.t 26)), none⟩,
    ⟨(some 28), (.fieldAddr 0 (.t 2)), none⟩,
    ⟨(some 29), (.load 1 false (.t 28)), none⟩,
    ⟨(some 30), (.call 77 [(.t 27), (.t 29)]), none⟩,
    ⟨(some 31), (.load 2 true (.t 3)), none⟩,
    ⟨(some 32), (.call 61 [(.t 31)]), none⟩,
    ⟨(some 33), (.fieldAddr 0 (.t 3)), none⟩,
    ⟨(some 34), (.load 1 false (.t 33)), none⟩,
    ⟨(some 35), (.call 77 [(.t 32), (.t 34)]), none⟩,
    ⟨(some 36), (.call 58 [(.t 30), (.t 35)]), none⟩,
    ⟨(some 37), (.mv (.t 36)), none⟩,
    ⟨(some 38), (.fieldAddr 1 (.t 2)), (some (37, true))⟩,
    ⟨(some 39), (.load 1 false (.t 38)), (some (37, true))⟩,
    ⟨(some 40), (.nilCk (.t 39)), (some (37, true))⟩,
    ⟨(some 41), (.fieldAddr 2 (.t 40)), (some (37, true))⟩,
    ⟨(some 42), (.load 2 true (.t 41)), (some (37, true))⟩,
    ⟨(some 43), (.fieldAddr 0 (.t 2)), (some (37, true))⟩,
    ⟨(some 44), (.load 1 false (.t 43)), (some (37, true))⟩,
    ⟨(some 45), (.call 77 [(.t 42), (.t 44)]), (some (37, true))⟩,
    ⟨(some 46), (.load 2 true (.t 3)), (some (37, true))⟩,
    ⟨(some 47), (.call 62 [(.t 46)]), (some (37, true))⟩,
    ⟨(some 48), (.fieldAddr 0 (.t 3)), (some (37, true))⟩,
    ⟨(some 49), (.load 1 false (.t 48)), (some (37, true))⟩,
    ⟨(some 50), (.call 77 [(.t 47), (.t 49)]), (some (37, true))⟩,
    ⟨(some 51), (.call 58 [(.t 45), (.t 50)]), (some (37, true))⟩,
    ⟨(some 52), (.pick (.t 37) (.t 51) (.c (.p (.s (.bool false))))), none⟩,
    ⟨(some 4), (.mv (.t 52)), none⟩] (some [0, 1, 3, 7, 15, 0, 32, 127, 0, 511, 0, 1024, 4095, 8191, 16383, 32767, 65535, 131071, 262143, 524287, 32767, 1081343, 4194303, 32767, 16777215, 32767, 33587199, 134217727, 268435455, 536870911, 1073741823]) [4])
  .ret)))), [(4, none)], false⟩
/-- slices.IndexFunc[[]kinfolk/book.Entry,kinfolk/book.Entry] -/
def ir75_0 : IRC := (.seq (.region [⟨(some 9), (.bin .lss (.t 8) (.t 7)), none⟩] none [0, 1, 7, 8, 9])
  (.seq (.cond (.t 9) .skip (.exit 0))
  (.seq (.block 1 (.seq (.region [⟨(some 10), (.mv (.t 8)), none⟩,
    ⟨(some 5), (.mv (.t 10)), none⟩] none [0, 1, 5, 7, 8])
  (.seq (.region [⟨(some 11), (.mv (.t 1)), none⟩,
    ⟨(some 12), (.mv (.t 0)), none⟩,
    ⟨(some 13), (.mv (.t 5)), none⟩,
    ⟨(some 14), (.idxASl 5 (.t 12) (.t 13)), none⟩,
    ⟨(some 15), (.load 5 true (.t 14)), none⟩,
    ⟨(some 16), (.callv (.t 11) [(.t 15)]), none⟩] none [0, 1, 5, 7, 8, 16])
  (.cond (.t 16) (.seq (.region [⟨(some 17), (.mv (.t 5)), none⟩,
    ⟨(some 4), (.mv (.t 17)), none⟩] none [4])
  .ret) .skip))))
  (.region [⟨(some 18), (.bin .add (.t 8) (.c (.p (.s (.int .i64 1))))), none⟩,
    ⟨(some 8), (.mv (.t 18)), none⟩] none [0, 1, 7, 8]))))
def ir75 : IRF := ⟨[0, 1], (.seq (.region [⟨(some 4), (.mv (.c (.p (.s (.int .i64 0))))), none⟩] none [0, 1])
  (.seq (.seq (.region [⟨(some 6), (.mv (.t 0)), none⟩,
    ⟨(some 7), (.len false (.t 6)), none⟩,
    ⟨(some 8), (.mv (.c (.p (.s (.int .i64 0))))), none⟩] none [0, 1, 7, 8])
  (.block 0 (.loop ir75_0)))
  (.seq (.region [⟨(some 4), (.mv (.c (.p (.s (.int .i64 (-1)))))), none⟩] none [4])
  .ret))), [(4, none)], false⟩
end Go.Proofs.YtkdimbcfacoboaaGreatDoor
