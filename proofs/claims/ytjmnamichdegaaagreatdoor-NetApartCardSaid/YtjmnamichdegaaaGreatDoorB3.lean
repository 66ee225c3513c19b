/- What the proof of the claim leans on, part 3 of 6: the value machine, the functions as it has them, their specifications. No condition. -/
import Derived.Test.YtjmnamichdegaaaGreatDoorB2
import Derived.Test.YtjmnamichdegaaaGreatDoorChecked
import Derived.KernelRfl
section
namespace Go.Proofs.YtjmnamichdegaaaGreatDoor
open Go Go.Sx
/-- kinfolk/kinfolklaw20.NetPlays -/
def ir3_0 : IRC := (.seq (.region [⟨(some 20), (.bin .lss (.t 19) (.t 18)), none⟩] none [5, 6, 17, 18, 19, 20])
  (.seq (.cond (.t 20) .skip (.exit 0))
  (.seq (.block 1 (.seq (.region [⟨(some 21), (.mv (.t 19)), none⟩,
    ⟨(some 22), (.idxASl 8 (.t 17) (.t 19)), none⟩,
    ⟨(some 23), (.load 8 true (.t 22)), none⟩,
    ⟨(some 8), (.alloc false [(.s (.int .u8 0)), (.s (.int .i64 0)), (.s (.int .i64 0)), (.s (.int .u64 0)), (.s (.int .i64 0)), (.s (.int .i64 0)), (.s (.int .u8 0)), (.s (.bool false))]), none⟩,
    ⟨(some 7), (.mv (.t 21)), none⟩,
    ⟨none, (.store 8 (.t 8) (.t 23)), none⟩] none [5, 6, 7, 8, 17, 18, 19])
  (.seq (.seq (.region [⟨(some 24), (.mv (.t 7)), none⟩,
    ⟨(some 25), (.bin .geq (.t 24) (.c (.p (.s (.int .i64 50))))), none⟩] none [5, 6, 8, 17, 18, 19, 25])
  (.cond (.t 25) (.exit 0) .skip))
  (.seq (.region [⟨(some 26), (.mv (.t 5)), none⟩,
    ⟨(some 27), (.mv (.t 6)), none⟩,
    ⟨(some 28), (.load 8 true (.t 8)), none⟩,
    ⟨(some 29), (.call 7 [(.t 26), (.t 27), (.t 28)]), none⟩,
    ⟨(some 30), (.un .not (.t 29)), none⟩,
    ⟨(some 31), (.mv (.t 30)), none⟩,
    ⟨(some 32), (.mv (.t 5)), (some (31, false))⟩,
    ⟨(some 33), (.mv (.t 6)), (some (31, false))⟩,
    ⟨(some 34), (.call 8 [(.t 32), (.t 33)]), (some (31, false))⟩,
    ⟨(some 35), (.un .not (.t 34)), (some (31, false))⟩,
    ⟨(some 36), (.pick (.t 31) (.c (.p (.s (.bool true)))) (.t 35)), none⟩] none [5, 6, 17, 18, 19, 36])
  (.cond (.t 36) (.seq (.region [⟨(some 4), (.mv (.c (.p (.s (.bool false))))), none⟩] none [4])
  .ret) .skip)))))
  (.region [⟨(some 37), (.bin .add (.t 19) (.c (.p (.s (.int .i64 1))))), none⟩,
    ⟨(some 19), (.mv (.t 37)), none⟩] none [5, 6, 17, 18, 19]))))
def ir3 : IRF := ⟨[0, 1], (.seq (.region [⟨(some 4), (.mv (.c (.p (.s (.bool false))))), none⟩] none [0, 1])
  (.seq (.seq (.region [⟨(some 9), (.call 5 []), none⟩,
    ⟨(some 10), (.un .not (.t 9)), none⟩] none [0, 1, 10])
  (.cond (.t 10) (.seq (.region [⟨(some 4), (.mv (.c (.p (.s (.bool false))))), none⟩] none [4])
  .ret) .skip))
  (.seq (.region [⟨(some 11), (.mv (.t 0)), none⟩,
    ⟨(some 12), (.call 6 [(.t 11)]), none⟩,
    ⟨(some 13), (.mv (.t 0)), none⟩,
    ⟨(some 14), (.minmax true [(.t 13), (.c (.p (.s (.int .i64 0))))]), none⟩,
    ⟨(some 15), (.build [(.s (.slice none 0 0)), (.s (.int .i64 0))] [(1, 1, (.t 14))]), none⟩,
    ⟨(some 16), (.box false (.t 15)), none⟩,
    ⟨(some 5), (.mv (.t 12)), none⟩,
    ⟨(some 6), (.mv (.t 16)), none⟩] none [1, 5, 6])
  (.seq (.seq (.region [⟨(some 17), (.mv (.t 1)), none⟩,
    ⟨(some 18), (.len false (.t 17)), none⟩,
    ⟨(some 19), (.mv (.c (.p (.s (.int .i64 0))))), none⟩] none [5, 6, 17, 18, 19])
  (.block 0 (.loop ir3_0)))
  (.seq (.region [⟨(some 4), (.mv (.c (.p (.s (.bool true))))), none⟩] none [4])
  .ret))))), [(4, none)], false⟩
/-- kinfolk/kinfolklaw20.NetApart -/
def ir4_0 : IRC := (.seq (.region [⟨(some 56), (.bin .lss (.t 55) (.t 54)), none⟩] none [2, 7, 8, 11, 12, 53, 54, 55, 56])
  (.seq (.cond (.t 56) .skip (.exit 2))
  (.seq (.block 3 (.seq (.region [⟨(some 57), (.mv (.t 55)), none⟩,
    ⟨(some 58), (.idxASl 8 (.t 53) (.t 55)), none⟩,
    ⟨(some 59), (.load 8 true (.t 58)), none⟩,
    ⟨(some 14), (.alloc false [(.s (.int .u8 0)), (.s (.int .i64 0)), (.s (.int .i64 0)), (.s (.int .u64 0)), (.s (.int .i64 0)), (.s (.int .i64 0)), (.s (.int .u8 0)), (.s (.bool false))]), none⟩,
    ⟨(some 13), (.mv (.t 57)), none⟩,
    ⟨none, (.store 8 (.t 14) (.t 59)), none⟩] none [2, 7, 8, 11, 12, 13, 14, 53, 54, 55])
  (.seq (.region [⟨(some 60), (.mv (.t 13)), none⟩,
    ⟨(some 61), (.bin .lss (.t 60) (.c (.p (.s (.int .i64 20))))), none⟩,
    ⟨(some 62), (.mv (.t 61)), none⟩,
    ⟨(some 63), (.mv (.t 11)), (some (62, true))⟩,
    ⟨(some 64), (.mv (.t 12)), (some (62, true))⟩,
    ⟨(some 65), (.load 8 true (.t 14)), (some (62, true))⟩,
    ⟨(some 66), (.call 7 [(.t 63), (.t 64), (.t 65)]), (some (62, true))⟩,
    ⟨(some 67), (.un .not (.t 66)), (some (62, true))⟩,
    ⟨(some 68), (.pick (.t 62) (.t 67) (.c (.p (.s (.bool false))))), none⟩] none [2, 7, 8, 11, 12, 53, 54, 55, 68])
  (.cond (.t 68) (.seq (.region [⟨(some 6), (.mv (.c (.p (.s (.bool false))))), none⟩] none [6])
  .ret) .skip))))
  (.region [⟨(some 69), (.bin .add (.t 55) (.c (.p (.s (.int .i64 1))))), none⟩,
    ⟨(some 55), (.mv (.t 69)), none⟩] none [2, 7, 8, 11, 12, 53, 54, 55]))))
def ir4_1 : IRC := (.seq (.region [⟨(some 32), (.bin .lss (.t 31) (.t 30)), none⟩] none [1, 2, 7, 8, 29, 30, 31, 32])
  (.seq (.cond (.t 32) .skip (.exit 0))
  (.seq (.block 1 (.seq (.region [⟨(some 33), (.mv (.t 31)), none⟩,
    ⟨(some 34), (.idxASl 8 (.t 29) (.t 31)), none⟩,
    ⟨(some 35), (.load 8 true (.t 34)), none⟩,
    ⟨(some 10), (.alloc false [(.s (.int .u8 0)), (.s (.int .i64 0)), (.s (.int .i64 0)), (.s (.int .u64 0)), (.s (.int .i64 0)), (.s (.int .i64 0)), (.s (.int .u8 0)), (.s (.bool false))]), none⟩,
    ⟨(some 9), (.mv (.t 33)), none⟩,
    ⟨none, (.store 8 (.t 10) (.t 35)), none⟩] none [1, 2, 7, 8, 9, 10, 29, 30, 31])
  (.seq (.region [⟨(some 36), (.mv (.t 9)), none⟩,
    ⟨(some 37), (.bin .lss (.t 36) (.c (.p (.s (.int .i64 20))))), none⟩] none [1, 2, 7, 8, 10, 29, 30, 31, 37])
  (.cond (.t 37) (.region [⟨(some 38), (.mv (.t 7)), none⟩,
    ⟨(some 39), (.mv (.t 8)), none⟩,
    ⟨(some 40), (.load 8 true (.t 10)), none⟩,
    ⟨(some 41), (.call 7 [(.t 38), (.t 39), (.t 40)]), none⟩] none [1, 2, 7, 8, 29, 30, 31]) .skip))))
  (.region [⟨(some 42), (.bin .add (.t 31) (.c (.p (.s (.int .i64 1))))), none⟩,
    ⟨(some 31), (.mv (.t 42)), none⟩] none [1, 2, 7, 8, 29, 30, 31]))))
def ir4 : IRF := ⟨[0, 1, 2], (.seq (.region [⟨(some 6), (.mv (.c (.p (.s (.bool false))))), none⟩] none [0, 1, 2])
  (.seq (.seq (.region [⟨(some 24), (.call 5 []), none⟩,
    ⟨(some 25), (.un .not (.t 24)), none⟩] none [0, 1, 2, 25])
  (.cond (.t 25) (.seq (.region [⟨(some 6), (.mv (.c (.p (.s (.bool false))))), none⟩] none [6])
  .ret) .skip))
  (.seq (.region [⟨(some 26), (.call 6 [(.c (.p (.s (.int .i64 20))))]), none⟩,
    ⟨(some 27), (.build [(.s (.slice none 0 0)), (.s (.int .i64 0))] [(1, 1, (.c (.p (.s (.int .i64 20)))))]), none⟩,
    ⟨(some 28), (.box false (.t 27)), none⟩,
    ⟨(some 7), (.mv (.t 26)), none⟩,
    ⟨(some 8), (.mv (.t 28)), none⟩] none [0, 1, 2, 7, 8])
  (.seq (.seq (.region [⟨(some 29), (.mv (.t 0)), none⟩,
    ⟨(some 30), (.len false (.t 29)), none⟩,
    ⟨(some 31), (.mv (.c (.p (.s (.int .i64 0))))), none⟩] none [1, 2, 7, 8, 29, 30, 31])
  (.block 0 (.loop ir4_1)))
  (.seq (.region [⟨(some 43), (.mv (.t 7)), none⟩,
    ⟨(some 44), (.call 9 [(.t 43)]), none⟩,
    ⟨(some 45), (.mkSl 0 3 [] []), none⟩,
    ⟨(some 46), (.mv (.t 8)), none⟩,
    ⟨(some 47), (.nilCk (.t 46)), none⟩,
    ⟨(some 48), (.fieldAddr 0 (.t 47)), none⟩,
    ⟨(some 49), (.load 1 false (.t 48)), none⟩,
    ⟨(some 50), (.app 3 56 (.t 45) (.t 49)), none⟩,
    ⟨(some 51), (.build [(.s (.slice none 0 0)), (.s (.int .i64 0))] [(0, 1, (.t 50)), (1, 1, (.c (.p (.s (.int .i64 20)))))]), none⟩,
    ⟨(some 52), (.box false (.t 51)), none⟩,
    ⟨(some 11), (.mv (.t 44)), none⟩,
    ⟨(some 12), (.mv (.t 52)), none⟩] (some [0, 1, 0, 0, 8, 24, 56, 127, 255, 511, 255, 2047]) [1, 2, 7, 8, 11, 12])
  (.seq (.seq (.region [⟨(some 53), (.mv (.t 1)), none⟩,
    ⟨(some 54), (.len false (.t 53)), none⟩,
    ⟨(some 55), (.mv (.c (.p (.s (.int .i64 0))))), none⟩] none [2, 7, 8, 11, 12, 53, 54, 55])
  (.block 2 (.loop ir4_0)))
  (.seq (.region [⟨(some 71), (.mv (.t 7)), none⟩,
    ⟨(some 72), (.call 10 [(.t 71), (.c (.p (.s (.int .i64 0))))]), none⟩,
    ⟨(some 70), (.mv (.t 72)), none⟩,
    ⟨(some 73), (.ext (.t 70) 0), none⟩,
    ⟨(some 74), (.ext (.t 70) 1), none⟩,
    ⟨(some 75), (.ext (.t 70) 2), none⟩,
    ⟨(some 15), (.mv (.t 73)), none⟩,
    ⟨(some 16), (.mv (.t 74)), none⟩,
    ⟨(some 17), (.mv (.t 75)), none⟩] none [2, 7, 8, 11, 12, 15, 17])
  (.seq (.seq (.region [⟨(some 76), (.mv (.t 17)), none⟩] none [2, 7, 8, 11, 12, 15, 76])
  (.cond (.t 76) (.region [⟨(some 77), (.mv (.t 15)), none⟩,
    ⟨(some 78), (.idxASl 1 (.t 77) (.c (.p (.s (.int .i64 0))))), none⟩,
    ⟨(some 79), (.load 1 false (.t 78)), none⟩,
    ⟨(some 80), (.bin .xor (.t 79) (.c (.p (.s (.int .u8 255))))), none⟩,
    ⟨(some 81), (.idxASl 1 (.t 77) (.c (.p (.s (.int .i64 0))))), none⟩,
    ⟨none, (.store 1 (.t 81) (.t 80)), none⟩] none [2, 7, 8, 11, 12]) .skip))
  (.seq (.region [⟨(some 18), (.mv (.c (.p (.s (.pointer none))))), none⟩] none [2, 7, 8, 11, 12, 18])
  (.seq (.region [⟨(some 83), (.mv (.t 18)), none⟩,
    ⟨(some 84), (.mv (.t 2)), none⟩,
    ⟨(some 85), (.call 11 [(.t 83), (.t 84)]), none⟩,
    ⟨(some 82), (.mv (.t 85)), none⟩,
    ⟨(some 86), (.ext (.t 82) 0), none⟩,
    ⟨(some 87), (.ext (.t 82) 1), none⟩,
    ⟨(some 19), (.alloc false [(.s (.int .i64 0)), (.s (.int .i64 0)), (.s (.int .i64 0)), (.s (.int .u64 0)), (.s (.int .i64 0)), (.s (.bool false)), (.s (.int .u64 0)), (.s (.pointer none)), (.s (.slice none 0 0)), (.s (.int .u64 0)), (.s (.int .i64 0)), (.s (.int .i64 0)), (.s (.bool false)), (.s (.pointer none)), (.s (.int .u64 0))]), none⟩,
    ⟨none, (.store 15 (.t 19) (.t 86)), none⟩,
    ⟨(some 20), (.mv (.t 87)), none⟩] none [2, 7, 8, 11, 12, 18, 20])
  (.seq (.region [⟨(some 89), (.mv (.t 18)), none⟩,
    ⟨(some 90), (.mv (.t 2)), none⟩,
    ⟨(some 91), (.call 10 [(.t 89), (.t 90)]), none⟩,
    ⟨(some 88), (.mv (.t 91)), none⟩,
    ⟨(some 92), (.ext (.t 88) 0), none⟩,
    ⟨(some 93), (.ext (.t 88) 1), none⟩,
    ⟨(some 94), (.ext (.t 88) 2), none⟩,
    ⟨(some 21), (.mv (.t 92)), none⟩,
    ⟨(some 22), (.mv (.t 93)), none⟩,
    ⟨(some 23), (.mv (.t 94)), none⟩] none [2, 7, 8, 11, 12, 18, 20, 23])
  (.seq (.region [⟨(some 95), (.mv (.t 7)), none⟩,
    ⟨(some 96), (.mv (.t 8)), none⟩,
    ⟨(some 97), (.call 8 [(.t 95), (.t 96)]), none⟩,
    ⟨(some 98), (.mv (.t 97)), none⟩,
    ⟨(some 99), (.mv (.t 11)), (some (98, true))⟩,
    ⟨(some 100), (.mv (.t 12)), (some (98, true))⟩,
    ⟨(some 101), (.call 8 [(.t 99), (.t 100)]), (some (98, true))⟩,
    ⟨(some 102), (.pick (.t 98) (.t 101) (.c (.p (.s (.bool false))))), none⟩,
    ⟨(some 103), (.mv (.t 102)), none⟩,
    ⟨(some 104), (.mv (.t 20)), (some (103, true))⟩,
    ⟨(some 105), (.bin .eql (.t 104) (.c (.p (.s (.int .i64 2))))), (some (103, true))⟩,
    ⟨(some 106), (.pick (.t 103) (.t 105) (.c (.p (.s (.bool false))))), none⟩,
    ⟨(some 107), (.mv (.t 106)), none⟩,
    ⟨(some 108), (.mv (.t 23)), (some (107, true))⟩,
    ⟨(some 109), (.un .not (.t 108)), (some (107, true))⟩,
    ⟨(some 110), (.pick (.t 107) (.t 109) (.c (.p (.s (.bool false))))), none⟩,
    ⟨(some 111), (.mv (.t 110)), none⟩,
    ⟨(some 112), (.mv (.t 18)), (some (111, true))⟩,
    ⟨(some 113), (.build [(.s (.int .i64 0)), (.s (.int .i64 0)), (.s (.int .i64 0)), (.s (.int .u64 0)), (.s (.int .i64 0)), (.s (.bool false)), (.s (.int .u64 0)), (.s (.pointer none)), (.s (.slice none 0 0)), (.s (.int .u64 0)), (.s (.int .i64 0)), (.s (.int .i64 0)), (.s (.bool false)), (.s (.pointer none)), (.s (.int .u64 0))] [(0, 1, (.c (.p (.s (.int .i64 5))))), (1, 1, (.c (.p (.s (.int .i64 1)))))]), (some (111, true))⟩,
    ⟨(some 114), (.call 12 [(.t 112), (.t 113)]), (some (111, true))⟩,
    ⟨(some 115), (.bin .eql (.t 114) (.c (.p (.s (.int .i64 2))))), (some (111, true))⟩,
    ⟨(some 116), (.pick (.t 111) (.t 115) (.c (.p (.s (.bool false))))), none⟩,
    ⟨(some 117), (.mv (.t 116)), none⟩,
    ⟨(some 118), (.mv (.t 18)), (some (117, true))⟩,
    ⟨(some 119), (.mv (.t 2)), (some (117, true))⟩,
    ⟨(some 120), (.call 13 [(.t 118), (.t 119)]), (some (117, true))⟩,
    ⟨(some 121), (.bin .eql (.t 120) (.c (.p (.s (.int .i64 2))))), (some (117, true))⟩,
    ⟨(some 122), (.pick (.t 117) (.t 121) (.c (.p (.s (.bool false))))), none⟩,
    ⟨(some 123), (.mv (.t 122)), none⟩,
    ⟨(some 124), (.mv (.t 18)), (some (123, true))⟩,
    ⟨(some 125), (.mv (.t 2)), (some (123, true))⟩,
    ⟨(some 126), (.call 14 [(.t 124), (.t 125)]), (some (123, true))⟩,
    ⟨(some 127), (.bin .eql (.t 126) (.c (.p (.s (.int .i64 2))))), (some (123, true))⟩,
    ⟨(some 128), (.pick (.t 123) (.t 127) (.c (.p (.s (.bool false))))), none⟩,
    ⟨(some 129), (.mv (.t 128)), none⟩,
    ⟨(some 130), (.mv (.t 18)), (some (129, true))⟩,
    ⟨(some 131), (.mv (.t 2)), (some (129, true))⟩,
    ⟨(some 132), (.mv (.t 2)), (some (129, true))⟩,
    ⟨(some 133), (.call 15 [(.t 130), (.t 131), (.t 132), (.c (.p (.s (.int .u8 1))))]), (some (129, true))⟩,
    ⟨(some 134), (.bin .eql (.t 133) (.c (.p (.s (.int .i64 2))))), (some (129, true))⟩,
    ⟨(some 135), (.pick (.t 129) (.t 134) (.c (.p (.s (.bool false))))), none⟩,
    ⟨(some 136), (.mv (.t 135)), none⟩,
    ⟨(some 137), (.mv (.t 18)), (some (136, true))⟩,
    ⟨(some 138), (.mv (.t 2)), (some (136, true))⟩,
    ⟨(some 139), (.call 16 [(.t 137), (.t 138)]), (some (136, true))⟩,
    ⟨(some 140), (.mv (.t 18)), (some (136, true))⟩,
    ⟨(some 141), (.call 17 [(.t 140)]), (some (136, true))⟩,
    ⟨(some 142), (.bin .add (.t 139) (.t 141)), (some (136, true))⟩,
    ⟨(some 143), (.bin .eql (.t 142) (.c (.p (.s (.int .i64 0))))), (some (136, true))⟩,
    ⟨(some 144), (.pick (.t 136) (.t 143) (.c (.p (.s (.bool false))))), none⟩,
    ⟨(some 145), (.mv (.t 144)), none⟩,
    ⟨(some 146), (.mv (.t 18)), (some (145, true))⟩,
    ⟨(some 147), (.call 9 [(.t 146)]), (some (145, true))⟩,
    ⟨(some 148), (.eq false .ptr (.t 147) (.c (.p (.s (.pointer none))))), (some (145, true))⟩,
    ⟨(some 149), (.pick (.t 145) (.t 148) (.c (.p (.s (.bool false))))), none⟩,
    ⟨(some 150), (.mv (.t 149)), none⟩,
    ⟨(some 151), (.pick (.t 150) (.c (.p (.s (.bool true)))) (.c (.p (.s (.bool false))))), none⟩,
    ⟨(some 6), (.mv (.t 151)), none⟩] none [6])
  .ret)))))))))))), [(6, none)], false⟩
/-- kinfolk/kinfolklaw20.awake -/
def ir5 : IRF := ⟨[], (.seq (.region [⟨(some 0), (.mv (.c (.p (.s (.bool false))))), none⟩] none [])
  (.seq (.region [⟨(some 8), (.call 6 [(.c (.p (.s (.int .i64 5))))]), none⟩,
    ⟨(some 1), (.mv (.t 8)), none⟩] none [1])
  (.seq (.region [⟨(some 9), (.mv (.t 1)), none⟩,
    ⟨(some 10), (.build [(.s (.int .i64 0)), (.s (.int .i64 0)), (.s (.int .i64 0)), (.s (.int .u64 0)), (.s (.int .i64 0)), (.s (.bool false)), (.s (.int .u64 0)), (.s (.pointer none)), (.s (.slice none 0 0)), (.s (.int .u64 0)), (.s (.int .i64 0)), (.s (.int .i64 0)), (.s (.bool false)), (.s (.pointer none)), (.s (.int .u64 0))] [(0, 1, (.c (.p (.s (.int .i64 5))))), (1, 1, (.c (.p (.s (.int .i64 1)))))]), none⟩,
    ⟨(some 11), (.call 12 [(.t 9), (.t 10)]), none⟩,
    ⟨(some 12), (.mv (.t 1)), none⟩,
    ⟨(some 13), (.call 14 [(.t 12), (.c (.p (.s (.int .i64 0))))]), none⟩,
    ⟨(some 2), (.mv (.t 11)), none⟩,
    ⟨(some 3), (.mv (.t 13)), none⟩] none [1, 2, 3])
  (.seq (.region [⟨(some 15), (.mv (.t 1)), none⟩,
    ⟨(some 16), (.call 11 [(.t 15), (.c (.p (.s (.int .i64 0))))]), none⟩,
    ⟨(some 14), (.mv (.t 16)), none⟩,
    ⟨(some 17), (.ext (.t 14) 0), none⟩,
    ⟨(some 18), (.ext (.t 14) 1), none⟩,
    ⟨(some 4), (.alloc false [(.s (.int .i64 0)), (.s (.int .i64 0)), (.s (.int .i64 0)), (.s (.int .u64 0)), (.s (.int .i64 0)), (.s (.bool false)), (.s (.int .u64 0)), (.s (.pointer none)), (.s (.slice none 0 0)), (.s (.int .u64 0)), (.s (.int .i64 0)), (.s (.int .i64 0)), (.s (.bool false)), (.s (.pointer none)), (.s (.int .u64 0))]), none⟩,
    ⟨none, (.store 15 (.t 4) (.t 17)), none⟩,
    ⟨(some 5), (.mv (.t 18)), none⟩] none [1, 2, 3, 4, 5])
  (.seq (.region [⟨(some 20), (.mv (.t 1)), none⟩,
    ⟨(some 21), (.call 11 [(.t 20), (.c (.p (.s (.int .i64 0))))]), none⟩,
    ⟨(some 19), (.mv (.t 21)), none⟩,
    ⟨(some 22), (.ext (.t 19) 0), none⟩,
    ⟨(some 23), (.ext (.t 19) 1), none⟩,
    ⟨(some 6), (.alloc false [(.s (.int .i64 0)), (.s (.int .i64 0)), (.s (.int .i64 0)), (.s (.int .u64 0)), (.s (.int .i64 0)), (.s (.bool false)), (.s (.int .u64 0)), (.s (.pointer none)), (.s (.slice none 0 0)), (.s (.int .u64 0)), (.s (.int .i64 0)), (.s (.int .i64 0)), (.s (.bool false)), (.s (.pointer none)), (.s (.int .u64 0))]), none⟩,
    ⟨none, (.store 15 (.t 6) (.t 22)), none⟩,
    ⟨(some 7), (.mv (.t 23)), none⟩] none [1, 2, 3, 4, 5, 6, 7])
  (.seq (.region [⟨(some 24), (.mv (.t 2)), none⟩,
    ⟨(some 25), (.bin .eql (.t 24) (.c (.p (.s (.int .i64 0))))), none⟩,
    ⟨(some 26), (.mv (.t 25)), none⟩,
    ⟨(some 27), (.mv (.t 3)), (some (26, true))⟩,
    ⟨(some 28), (.bin .eql (.t 27) (.c (.p (.s (.int .i64 0))))), (some (26, true))⟩,
    ⟨(some 29), (.pick (.t 26) (.t 28) (.c (.p (.s (.bool false))))), none⟩,
    ⟨(some 30), (.mv (.t 29)), none⟩,
    ⟨(some 31), (.mv (.t 5)), (some (30, true))⟩,
    ⟨(some 32), (.bin .eql (.t 31) (.c (.p (.s (.int .i64 0))))), (some (30, true))⟩,
    ⟨(some 33), (.pick (.t 30) (.t 32) (.c (.p (.s (.bool false))))), none⟩,
    ⟨(some 34), (.mv (.t 33)), none⟩,
    ⟨(some 35), (.mv (.t 7)), (some (34, true))⟩,
    ⟨(some 36), (.bin .eql (.t 35) (.c (.p (.s (.int .i64 0))))), (some (34, true))⟩,
    ⟨(some 37), (.pick (.t 34) (.t 36) (.c (.p (.s (.bool false))))), none⟩,
    ⟨(some 38), (.mv (.t 37)), none⟩,
    ⟨(some 39), (.fieldAddr 0 (.t 4)), (some (38, true))⟩,
    ⟨(some 40), (.load 1 false (.t 39)), (some (38, true))⟩,
    ⟨(some 41), (.bin .eql (.t 40) (.c (.p (.s (.int .i64 5))))), (some (38, true))⟩,
    ⟨(some 42), (.pick (.t 38) (.t 41) (.c (.p (.s (.bool false))))), none⟩,
    ⟨(some 43), (.mv (.t 42)), none⟩,
    ⟨(some 44), (.fieldAddr 1 (.t 6)), (some (43, true))⟩,
    ⟨(some 45), (.load 1 false (.t 44)), (some (43, true))⟩,
    ⟨(some 46), (.bin .eql (.t 45) (.c (.p (.s (.int .i64 1))))), (some (43, true))⟩,
    ⟨(some 47), (.pick (.t 43) (.t 46) (.c (.p (.s (.bool false))))), none⟩,
    ⟨(some 48), (.mv (.t 47)), none⟩,
    ⟨(some 49), (.mv (.t 1)), (some (48, true))⟩,
    ⟨(some 50), (.call 17 [(.t 49)]), (some (48, true))⟩,
    ⟨(some 51), (.bin .eql (.t 50) (.c (.p (.s (.int .i64 0))))), (some (48, true))⟩,
    ⟨(some 52), (.pick (.t 48) (.t 51) (.c (.p (.s (.bool false))))), none⟩,
    ⟨(some 0), (.mv (.t 52)), none⟩] none [0])
  .ret)))))), [(0, none)], false⟩
/-- kinfolk/net.New -/
def ir6 : IRF := ⟨[0], (.seq (.region [⟨(some 2), (.mv (.c (.p (.s (.pointer none))))), none⟩] none [0])
  (.seq (.region [⟨(some 3), (.mv (.t 0)), none⟩,
    ⟨(some 4), (.minmax true [(.t 3), (.c (.p (.s (.int .i64 0))))]), none⟩,
    ⟨(some 5), (.build [(.s (.slice none 0 0)), (.s (.int .i64 0))] [(1, 1, (.t 4))]), none⟩,
    ⟨(some 6), (.box false (.t 5)), none⟩,
    ⟨(some 2), (.mv (.t 6)), none⟩] none [2])
  .ret)), [(2, none)], true⟩
/-- kinfolk/kinfolklaw20.do -/
def ir7 : IRF := ⟨[0, 1, 2], (.seq (.region [⟨(some 5), (.box false (.t 2)), none⟩,
    ⟨(some 6), (.mv (.c (.p (.s (.bool false))))), none⟩] none [0, 1, 5])
  (.seq (.seq (.region [⟨(some 12), (.fieldAddr 7 (.t 5)), none⟩,
    ⟨(some 13), (.load 1 false (.t 12)), none⟩,
    ⟨(some 14), (.mv (.t 13)), none⟩,
    ⟨(some 15), (.mv (.t 1)), (some (14, true))⟩,
    ⟨(some 16), (.nilCk (.t 15)), (some (14, true))⟩,
    ⟨(some 17), (.fieldAddr 0 (.t 16)), (some (14, true))⟩,
    ⟨(some 18), (.load 1 false (.t 17)), (some (14, true))⟩,
    ⟨(some 19), (.len false (.t 18)), (some (14, true))⟩,
    ⟨(some 20), (.bin .gtr (.t 19) (.c (.p (.s (.int .i64 0))))), (some (14, true))⟩,
    ⟨(some 21), (.pick (.t 14) (.t 20) (.c (.p (.s (.bool false))))), none⟩] none [0, 1, 5, 21])
  (.cond (.t 21) (.region [⟨(some 22), (.fieldAddr 4 (.t 5)), none⟩,
    ⟨(some 23), (.load 1 false (.t 22)), none⟩,
    ⟨(some 24), (.cvt .u64 (.t 23)), none⟩,
    ⟨(some 25), (.mv (.t 1)), none⟩,
    ⟨(some 26), (.nilCk (.t 25)), none⟩,
    ⟨(some 27), (.fieldAddr 0 (.t 26)), none⟩,
    ⟨(some 28), (.load 1 false (.t 27)), none⟩,
    ⟨(some 29), (.len false (.t 28)), none⟩,
    ⟨(some 30), (.cvt .u64 (.t 29)), none⟩,
    ⟨(some 31), (.bin .rem (.t 24) (.t 30)), none⟩,
    ⟨(some 32), (.cvt .i64 (.t 31)), none⟩,
    ⟨(some 33), (.fieldAddr 4 (.t 5)), none⟩,
    ⟨none, (.store 1 (.t 33) (.t 32)), none⟩] (some [0, 1, 3, 0, 8, 24, 56, 120, 248, 511, 1023, 2047, 4095]) [0, 1, 5]) .skip))
  (.seq (.seq (.region [⟨(some 34), (.fieldAddr 0 (.t 5)), none⟩,
    ⟨(some 35), (.load 1 false (.t 34)), none⟩,
    ⟨(some 36), (.bin .rem (.t 35) (.c (.p (.s (.int .u8 8))))), none⟩] none [0, 1, 5, 36])
  (.block 0 (.seq (.region [⟨(some 38), (.bin .eql (.t 36) (.c (.p (.s (.int .u8 3))))), none⟩,
    ⟨(some 37), (.mv (.t 38)), none⟩] none [0, 1, 5, 36, 37])
  (.cond (.t 37) (.seq (.region [⟨(some 40), (.mv (.t 0)), none⟩,
    ⟨(some 41), (.fieldAddr 4 (.t 5)), none⟩,
    ⟨(some 42), (.load 1 false (.t 41)), none⟩,
    ⟨(some 43), (.call 11 [(.t 40), (.t 42)]), none⟩,
    ⟨(some 39), (.mv (.t 43)), none⟩,
    ⟨(some 44), (.ext (.t 39) 0), none⟩,
    ⟨(some 45), (.ext (.t 39) 1), none⟩,
    ⟨(some 7), (.alloc false [(.s (.int .i64 0)), (.s (.int .i64 0)), (.s (.int .i64 0)), (.s (.int .u64 0)), (.s (.int .i64 0)), (.s (.bool false)), (.s (.int .u64 0)), (.s (.pointer none)), (.s (.slice none 0 0)), (.s (.int .u64 0)), (.s (.int .i64 0)), (.s (.int .i64 0)), (.s (.bool false)), (.s (.pointer none)), (.s (.int .u64 0))]), none⟩,
    ⟨none, (.store 15 (.t 7) (.t 44)), none⟩,
    ⟨(some 8), (.mv (.t 45)), none⟩] none [1, 5, 7, 8])
  (.seq (.region [⟨(some 47), (.mv (.t 1)), none⟩,
    ⟨(some 48), (.fieldAddr 4 (.t 5)), none⟩,
    ⟨(some 49), (.load 1 false (.t 48)), none⟩,
    ⟨(some 50), (.call 18 [(.t 47), (.t 49)]), none⟩,
    ⟨(some 46), (.mv (.t 50)), none⟩,
    ⟨(some 51), (.ext (.t 46) 0), none⟩,
    ⟨(some 52), (.ext (.t 46) 1), none⟩,
    ⟨(some 9), (.alloc false [(.s (.int .i64 0)), (.s (.int .i64 0)), (.s (.int .i64 0)), (.s (.int .u64 0)), (.s (.int .i64 0)), (.s (.bool false)), (.s (.pointer none)), (.s (.slice none 0 0)), (.s (.int .u64 0)), (.s (.int .i64 0)), (.s (.int .i64 0)), (.s (.pointer none)), (.s (.int .u64 0)), (.s (.slice none 0 0))]), none⟩,
    ⟨none, (.store 14 (.t 9) (.t 51)), none⟩,
    ⟨(some 10), (.mv (.t 52)), none⟩] none [7, 8, 9, 10])
  (.seq (.region [⟨(some 53), (.mv (.t 8)), none⟩,
    ⟨(some 54), (.mv (.t 10)), none⟩,
    ⟨(some 55), (.bin .eql (.t 53) (.t 54)), none⟩,
    ⟨(some 56), (.mv (.t 55)), none⟩,
    ⟨(some 57), (.fieldAddr 0 (.t 7)), (some (56, true))⟩,
    ⟨(some 58), (.load 1 false (.t 57)), (some (56, true))⟩,
    ⟨(some 59), (.fieldAddr 0 (.t 9)), (some (56, true))⟩,
    ⟨(some 60), (.load 1 false (.t 59)), (some (56, true))⟩,
    ⟨(some 61), (.bin .eql (.t 58) (.t 60)), (some (56, true))⟩,
    ⟨(some 62), (.pick (.t 56) (.t 61) (.c (.p (.s (.bool false))))), none⟩,
    ⟨(some 63), (.mv (.t 62)), none⟩,
    ⟨(some 64), (.fieldAddr 1 (.t 7)), (some (63, true))⟩,
    ⟨(some 65), (.load 1 false (.t 64)), (some (63, true))⟩,
    ⟨(some 66), (.fieldAddr 1 (.t 9)), (some (63, true))⟩,
    ⟨(some 67), (.load 1 false (.t 66)), (some (63, true))⟩,
    ⟨(some 68), (.bin .eql (.t 65) (.t 67)), (some (63, true))⟩,
    ⟨(some 69), (.pick (.t 63) (.t 68) (.c (.p (.s (.bool false))))), none⟩,
    ⟨(some 70), (.mv (.t 69)), none⟩,
    ⟨(some 71), (.fieldAddr 2 (.t 7)), (some (70, true))⟩,
    ⟨(some 72), (.load 1 false (.t 71)), (some (70, true))⟩,
    ⟨(some 73), (.fieldAddr 2 (.t 9)), (some (70, true))⟩,
    ⟨(some 74), (.load 1 false (.t 73)), (some (70, true))⟩,
    ⟨(some 75), (.bin .eql (.t 72) (.t 74)), (some (70, true))⟩,
    ⟨(some 76), (.pick (.t 70) (.t 75) (.c (.p (.s (.bool false))))), none⟩,
    ⟨(some 77), (.mv (.t 76)), none⟩,
    ⟨(some 78), (.fieldAddr 14 (.t 7)), (some (77, true))⟩,
    ⟨(some 79), (.load 1 false (.t 78)), (some (77, true))⟩,
    ⟨(some 80), (.fieldAddr 12 (.t 9)), (some (77, true))⟩,
    ⟨(some 81), (.load 1 false (.t 80)), (some (77, true))⟩,
    ⟨(some 82), (.bin .eql (.t 79) (.t 81)), (some (77, true))⟩,
    ⟨(some 83), (.pick (.t 77) (.t 82) (.c (.p (.s (.bool false))))), none⟩,
    ⟨(some 6), (.mv (.t 83)), none⟩] none [6])
  .ret))) (.seq (.region [⟨(some 85), (.bin .eql (.t 36) (.c (.p (.s (.int .u8 4))))), none⟩,
    ⟨(some 84), (.mv (.t 85)), none⟩] none [0, 1, 5, 36, 84])
  (.cond (.t 84) (.seq (.region [⟨(some 86), (.mv (.t 0)), none⟩,
    ⟨(some 87), (.fieldAddr 4 (.t 5)), none⟩,
    ⟨(some 88), (.load 1 false (.t 87)), none⟩,
    ⟨(some 89), (.call 13 [(.t 86), (.t 88)]), none⟩,
    ⟨(some 90), (.mv (.t 1)), none⟩,
    ⟨(some 91), (.fieldAddr 4 (.t 5)), none⟩,
    ⟨(some 92), (.load 1 false (.t 91)), none⟩,
    ⟨(some 93), (.call 19 [(.t 90), (.t 92)]), none⟩,
    ⟨(some 94), (.bin .eql (.t 89) (.t 93)), none⟩,
    ⟨(some 6), (.mv (.t 94)), none⟩] (some [0, 0, 2, 7, 0, 0, 32, 127, 255, 511]) [6])
  .ret) (.seq (.region [⟨(some 96), (.bin .eql (.t 36) (.c (.p (.s (.int .u8 5))))), none⟩,
    ⟨(some 95), (.mv (.t 96)), none⟩] none [0, 1, 5, 36, 95])
  (.cond (.t 95) (.seq (.region [⟨(some 97), (.mv (.t 0)), none⟩,
    ⟨(some 98), (.fieldAddr 4 (.t 5)), none⟩,
    ⟨(some 99), (.load 1 false (.t 98)), none⟩,
    ⟨(some 100), (.call 14 [(.t 97), (.t 99)]), none⟩,
    ⟨(some 101), (.mv (.t 1)), none⟩,
    ⟨(some 102), (.fieldAddr 4 (.t 5)), none⟩,
    ⟨(some 103), (.load 1 false (.t 102)), none⟩,
    ⟨(some 104), (.call 20 [(.t 101), (.t 103)]), none⟩,
    ⟨(some 105), (.bin .eql (.t 100) (.t 104)), none⟩,
    ⟨(some 6), (.mv (.t 105)), none⟩] (some [0, 0, 2, 7, 0, 0, 32, 127, 255, 511]) [6])
  .ret) (.seq (.region [⟨(some 107), (.bin .eql (.t 36) (.c (.p (.s (.int .u8 6))))), none⟩,
    ⟨(some 106), (.mv (.t 107)), none⟩] none [0, 1, 5, 36, 106])
  (.cond (.t 106) (.seq (.region [⟨(some 108), (.mv (.t 0)), none⟩,
    ⟨(some 109), (.fieldAddr 4 (.t 5)), none⟩,
    ⟨(some 110), (.load 1 false (.t 109)), none⟩,
    ⟨(some 111), (.fieldAddr 5 (.t 5)), none⟩,
    ⟨(some 112), (.load 1 false (.t 111)), none⟩,
    ⟨(some 113), (.fieldAddr 6 (.t 5)), none⟩,
    ⟨(some 114), (.load 1 false (.t 113)), none⟩,
    ⟨(some 115), (.call 15 [(.t 108), (.t 110), (.t 112), (.t 114)]), none⟩,
    ⟨(some 116), (.mv (.t 1)), none⟩,
    ⟨(some 117), (.fieldAddr 4 (.t 5)), none⟩,
    ⟨(some 118), (.load 1 false (.t 117)), none⟩,
    ⟨(some 119), (.fieldAddr 5 (.t 5)), none⟩,
    ⟨(some 120), (.load 1 false (.t 119)), none⟩,
    ⟨(some 121), (.fieldAddr 6 (.t 5)), none⟩,
    ⟨(some 122), (.load 1 false (.t 121)), none⟩,
    ⟨(some 123), (.call 21 [(.t 116), (.t 118), (.t 120), (.t 122)]), none⟩,
    ⟨(some 124), (.bin .eql (.t 115) (.t 123)), none⟩,
    ⟨(some 6), (.mv (.t 124)), none⟩] (some [0, 0, 2, 0, 8, 0, 32, 127, 0, 0, 512, 0, 2048, 0, 8192, 32767, 65535, 131071]) [6])
  .ret) (.seq (.region [⟨(some 126), (.bin .eql (.t 36) (.c (.p (.s (.int .u8 7))))), none⟩,
    ⟨(some 125), (.mv (.t 126)), none⟩] none [0, 1, 5, 125])
  (.cond (.t 125) (.seq (.region [⟨(some 127), (.mv (.t 0)), none⟩,
    ⟨(some 128), (.fieldAddr 2 (.t 5)), none⟩,
    ⟨(some 129), (.load 1 false (.t 128)), none⟩,
    ⟨(some 130), (.call 16 [(.t 127), (.t 129)]), none⟩,
    ⟨(some 131), (.mv (.t 1)), none⟩,
    ⟨(some 132), (.fieldAddr 2 (.t 5)), none⟩,
    ⟨(some 133), (.load 1 false (.t 132)), none⟩,
    ⟨(some 134), (.call 22 [(.t 131), (.t 133)]), none⟩,
    ⟨(some 135), (.bin .eql (.t 130) (.t 134)), none⟩,
    ⟨(some 6), (.mv (.t 135)), none⟩] (some [0, 0, 2, 7, 0, 0, 32, 127, 255, 511]) [6])
  .ret) .skip))))))))))))
  (.seq (.region [⟨(some 136), (.fieldAddr 1 (.t 5)), none⟩,
    ⟨(some 137), (.load 1 false (.t 136)), none⟩,
    ⟨(some 138), (.fieldAddr 2 (.t 5)), none⟩,
    ⟨(some 139), (.load 1 false (.t 138)), none⟩,
    ⟨(some 140), (.call 23 [(.c (.p (.s (.int .i64 7)))), (.t 137), (.t 139)]), none⟩,
    ⟨(some 11), (.alloc false [(.s (.int .i64 0)), (.s (.int .i64 0)), (.s (.int .i64 0)), (.s (.int .u64 0)), (.s (.int .i64 0)), (.s (.bool false)), (.s (.pointer none)), (.s (.slice none 0 0)), (.s (.int .u64 0)), (.s (.int .i64 0)), (.s (.int .i64 0)), (.s (.pointer none)), (.s (.int .u64 0)), (.s (.slice none 0 0))]), none⟩,
    ⟨none, (.store 14 (.t 11) (.t 140)), none⟩] none [0, 1, 5, 11])
  (.seq (.region [⟨(some 141), (.fieldAddr 3 (.t 5)), none⟩,
    ⟨(some 142), (.load 1 false (.t 141)), none⟩,
    ⟨(some 143), (.fieldAddr 12 (.t 11)), none⟩,
    ⟨none, (.store 1 (.t 143) (.t 142)), none⟩] none [0, 1, 5, 11])
  (.seq (.seq (.region [⟨(some 144), (.fieldAddr 0 (.t 5)), none⟩,
    ⟨(some 145), (.load 1 false (.t 144)), none⟩,
    ⟨(some 146), (.bin .rem (.t 145) (.c (.p (.s (.int .u8 8))))), none⟩,
    ⟨(some 147), (.bin .eql (.t 146) (.c (.p (.s (.int .u8 2))))), none⟩] none [0, 1, 11, 147])
  (.cond (.t 147) (.region [⟨(some 148), (.fieldAddr 0 (.t 11)), none⟩,
    ⟨none, (.store 1 (.t 148) (.c (.p (.s (.int .i64 5))))), none⟩,
    ⟨(some 149), (.fieldAddr 12 (.t 11)), none⟩,
    ⟨none, (.store 1 (.t 149) (.c (.p (.s (.int .u64 0))))), none⟩] none [0, 1, 11]) .skip))
  (.seq (.region [⟨(some 150), (.mv (.t 0)), none⟩,
    ⟨(some 151), (.fieldAddr 0 (.t 11)), none⟩,
    ⟨(some 152), (.load 1 false (.t 151)), none⟩,
    ⟨(some 153), (.fieldAddr 1 (.t 11)), none⟩,
    ⟨(some 154), (.load 1 false (.t 153)), none⟩,
    ⟨(some 155), (.fieldAddr 2 (.t 11)), none⟩,
    ⟨(some 156), (.load 1 false (.t 155)), none⟩,
    ⟨(some 157), (.fieldAddr 12 (.t 11)), none⟩,
    ⟨(some 158), (.load 1 false (.t 157)), none⟩,
    ⟨(some 159), (.build [(.s (.int .i64 0)), (.s (.int .i64 0)), (.s (.int .i64 0)), (.s (.int .u64 0)), (.s (.int .i64 0)), (.s (.bool false)), (.s (.int .u64 0)), (.s (.pointer none)), (.s (.slice none 0 0)), (.s (.int .u64 0)), (.s (.int .i64 0)), (.s (.int .i64 0)), (.s (.bool false)), (.s (.pointer none)), (.s (.int .u64 0))] [(0, 1, (.t 152)), (1, 1, (.t 154)), (2, 1, (.t 156)), (14, 1, (.t 158))]), none⟩,
    ⟨(some 160), (.call 12 [(.t 150), (.t 159)]), none⟩,
    ⟨(some 161), (.mv (.t 1)), none⟩,
    ⟨(some 162), (.load 14 true (.t 11)), none⟩,
    ⟨(some 163), (.call 24 [(.t 161), (.t 162)]), none⟩,
    ⟨(some 164), (.bin .eql (.t 160) (.t 163)), none⟩,
    ⟨(some 6), (.mv (.t 164)), none⟩] (some [0, 0, 2, 0, 8, 0, 32, 0, 128, 510, 1023, 0, 0, 8191, 16383, 32767]) [6])
  .ret))))))), [(6, none)], false⟩
/-- kinfolk/kinfolklaw20.like -/
def ir8_0 : IRC := (.seq (.region [⟨(some 30), (.bin .lss (.t 29) (.t 28)), none⟩] none [0, 1, 27, 28, 29, 30])
  (.seq (.cond (.t 30) .skip (.exit 0))
  (.seq (.block 1 (.seq (.region [⟨(some 31), (.mv (.t 29)), none⟩,
    ⟨(some 32), (.idxASl 3 (.t 27) (.t 29)), none⟩,
    ⟨(some 33), (.load 3 true (.t 32)), none⟩,
    ⟨(some 6), (.alloc false [(.s (.slice none 0 0)), (.s (.int .i64 0)), (.s (.slice none 0 0))]), none⟩,
    ⟨(some 5), (.mv (.t 31)), none⟩,
    ⟨none, (.store 3 (.t 6) (.t 33)), none⟩] none [0, 1, 5, 6, 27, 28, 29])
  (.seq (.region [⟨(some 35), (.mv (.t 0)), none⟩,
    ⟨(some 36), (.mv (.t 5)), none⟩,
    ⟨(some 37), (.call 10 [(.t 35), (.t 36)]), none⟩,
    ⟨(some 34), (.mv (.t 37)), none⟩,
    ⟨(some 38), (.ext (.t 34) 0), none⟩,
    ⟨(some 39), (.ext (.t 34) 1), none⟩,
    ⟨(some 40), (.ext (.t 34) 2), none⟩,
    ⟨(some 7), (.mv (.t 38)), none⟩,
    ⟨(some 8), (.mv (.t 39)), none⟩,
    ⟨(some 9), (.mv (.t 40)), none⟩] none [0, 1, 6, 7, 8, 9, 27, 28, 29])
  (.seq (.region [⟨(some 41), (.mv (.t 9)), none⟩,
    ⟨(some 42), (.un .not (.t 41)), none⟩,
    ⟨(some 43), (.mv (.t 42)), none⟩,
    ⟨(some 44), (.mv (.t 8)), (some (43, false))⟩,
    ⟨(some 45), (.fieldAddr 1 (.t 6)), (some (43, false))⟩,
    ⟨(some 46), (.load 1 false (.t 45)), (some (43, false))⟩,
    ⟨(some 47), (.bin .neq (.t 44) (.t 46)), (some (43, false))⟩,
    ⟨(some 48), (.pick (.t 43) (.c (.p (.s (.bool true)))) (.t 47)), none⟩,
    ⟨(some 49), (.mv (.t 48)), none⟩,
    ⟨(some 50), (.mv (.t 7)), (some (49, false))⟩,
    ⟨(some 51), (.fieldAddr 0 (.t 6)), (some (49, false))⟩,
    ⟨(some 52), (.load 1 false (.t 51)), (some (49, false))⟩,
    ⟨(some 53), (.call 25 [(.t 50), (.t 52)]), (some (49, false))⟩,
    ⟨(some 54), (.un .not (.t 53)), (some (49, false))⟩,
    ⟨(some 55), (.pick (.t 49) (.c (.p (.s (.bool true)))) (.t 54)), none⟩] none [0, 1, 27, 28, 29, 55])
  (.cond (.t 55) (.seq (.region [⟨(some 4), (.mv (.c (.p (.s (.bool false))))), none⟩] none [4])
  .ret) .skip)))))
  (.region [⟨(some 56), (.bin .add (.t 29) (.c (.p (.s (.int .i64 1))))), none⟩,
    ⟨(some 29), (.mv (.t 56)), none⟩] none [0, 1, 27, 28, 29]))))
def ir8 : IRF := ⟨[0, 1], (.seq (.region [⟨(some 4), (.mv (.c (.p (.s (.bool false))))), none⟩] none [0, 1])
  (.seq (.seq (.region [⟨(some 16), (.mv (.t 0)), none⟩,
    ⟨(some 17), (.call 17 [(.t 16)]), none⟩,
    ⟨(some 18), (.mv (.t 1)), none⟩,
    ⟨(some 19), (.nilCk (.t 18)), none⟩,
    ⟨(some 20), (.fieldAddr 0 (.t 19)), none⟩,
    ⟨(some 21), (.load 1 false (.t 20)), none⟩,
    ⟨(some 22), (.len false (.t 21)), none⟩,
    ⟨(some 23), (.bin .neq (.t 17) (.t 22)), none⟩] (some [0, 1, 0, 4, 12, 28, 60, 127]) [0, 1, 23])
  (.cond (.t 23) (.seq (.region [⟨(some 4), (.mv (.c (.p (.s (.bool false))))), none⟩] none [4])
  .ret) .skip))
  (.seq (.seq (.region [⟨(some 24), (.mv (.t 1)), none⟩,
    ⟨(some 25), (.nilCk (.t 24)), none⟩,
    ⟨(some 26), (.fieldAddr 0 (.t 25)), none⟩,
    ⟨(some 27), (.load 1 false (.t 26)), none⟩,
    ⟨(some 28), (.len false (.t 27)), none⟩,
    ⟨(some 29), (.mv (.c (.p (.s (.int .i64 0))))), none⟩] none [0, 1, 27, 28, 29])
  (.block 0 (.loop ir8_0)))
  (.seq (.region [⟨(some 58), (.mv (.t 0)), none⟩,
    ⟨(some 59), (.call 10 [(.t 58), (.c (.p (.s (.int .i64 (-1)))))]), none⟩,
    ⟨(some 57), (.mv (.t 59)), none⟩,
    ⟨(some 60), (.ext (.t 57) 0), none⟩,
    ⟨(some 61), (.ext (.t 57) 1), none⟩,
    ⟨(some 62), (.ext (.t 57) 2), none⟩,
    ⟨(some 10), (.mv (.t 60)), none⟩,
    ⟨(some 11), (.mv (.t 61)), none⟩,
    ⟨(some 12), (.mv (.t 62)), none⟩] none [0, 1, 12])
  (.seq (.region [⟨(some 64), (.mv (.t 0)), none⟩,
    ⟨(some 65), (.mv (.t 1)), none⟩,
    ⟨(some 66), (.nilCk (.t 65)), none⟩,
    ⟨(some 67), (.fieldAddr 0 (.t 66)), none⟩,
    ⟨(some 68), (.load 1 false (.t 67)), none⟩,
    ⟨(some 69), (.len false (.t 68)), none⟩,
    ⟨(some 70), (.call 10 [(.t 64), (.t 69)]), none⟩,
    ⟨(some 63), (.mv (.t 70)), none⟩,
    ⟨(some 71), (.ext (.t 63) 0), none⟩,
    ⟨(some 72), (.ext (.t 63) 1), none⟩,
    ⟨(some 73), (.ext (.t 63) 2), none⟩,
    ⟨(some 13), (.mv (.t 71)), none⟩,
    ⟨(some 14), (.mv (.t 72)), none⟩,
    ⟨(some 15), (.mv (.t 73)), none⟩] none [12, 15])
  (.seq (.region [⟨(some 74), (.mv (.t 12)), none⟩,
    ⟨(some 75), (.un .not (.t 74)), none⟩,
    ⟨(some 76), (.mv (.t 75)), none⟩,
    ⟨(some 77), (.mv (.t 15)), (some (76, true))⟩,
    ⟨(some 78), (.un .not (.t 77)), (some (76, true))⟩,
    ⟨(some 79), (.pick (.t 76) (.t 78) (.c (.p (.s (.bool false))))), none⟩,
    ⟨(some 4), (.mv (.t 79)), none⟩] none [4])
  .ret)))))), [(4, none)], false⟩
/-- (*kinfolk/net.Net).Copy -/
def ir9 : IRF := ⟨[0], (.seq (.region [⟨(some 2), (.mv (.c (.p (.s (.pointer none))))), none⟩] none [0])
  (.seq (.seq (.region [⟨(some 3), (.mv (.t 0)), none⟩,
    ⟨(some 4), (.eq false .ptr (.t 3) (.c (.p (.s (.pointer none))))), none⟩] none [0, 4])
  (.cond (.t 4) (.seq (.region [⟨(some 2), (.mv (.c (.p (.s (.pointer none))))), none⟩] none [2])
  .ret) .skip))
  (.seq (.region [⟨(some 5), (.mv (.t 0)), none⟩,
    ⟨(some 6), (.nilCk (.t 5)), none⟩,
    ⟨(some 7), (.fieldAddr 0 (.t 6)), none⟩,
    ⟨(some 8), (.load 1 false (.t 7)), none⟩,
    ⟨(some 9), (.call 26 [(.t 8)]), none⟩,
    ⟨(some 10), (.mv (.t 0)), none⟩,
    ⟨(some 11), (.nilCk (.t 10)), none⟩,
    ⟨(some 12), (.fieldAddr 1 (.t 11)), none⟩,
    ⟨(some 13), (.load 1 false (.t 12)), none⟩,
    ⟨(some 14), (.build [(.s (.slice none 0 0)), (.s (.int .i64 0))] [(0, 1, (.t 9)), (1, 1, (.t 13))]), none⟩,
    ⟨(some 15), (.box false (.t 14)), none⟩,
    ⟨(some 2), (.mv (.t 15)), none⟩] (some [0, 1, 3, 7, 15, 0, 32, 96, 224, 511, 1023, 2047]) [2])
  .ret))), [(2, none)], true⟩
/-- (*kinfolk/net.Net).Look -/
def ir10 : IRF := ⟨[0, 1], (.seq (.region [⟨(some 4), (.mv (.c (.p (.s (.slice none 0 0))))), none⟩,
    ⟨(some 5), (.mv (.c (.p (.s (.int .i64 0))))), none⟩,
    ⟨(some 6), (.mv (.c (.p (.s (.bool false))))), none⟩] none [0, 1])
  (.seq (.seq (.region [⟨(some 7), (.mv (.t 0)), none⟩,
    ⟨(some 8), (.mv (.t 1)), none⟩,
    ⟨(some 9), (.call 27 [(.t 7), (.t 8)]), none⟩,
    ⟨(some 10), (.un .not (.t 9)), none⟩] none [0, 1, 10])
  (.cond (.t 10) (.seq (.region [⟨(some 4), (.mv (.c (.p (.s (.slice none 0 0))))), none⟩,
    ⟨(some 5), (.mv (.c (.p (.s (.int .i64 0))))), none⟩,
    ⟨(some 6), (.mv (.c (.p (.s (.bool false))))), none⟩] none [4, 5, 6])
  .ret) .skip))
  (.seq (.region [⟨(some 11), (.mv (.t 0)), none⟩,
    ⟨(some 12), (.nilCk (.t 11)), none⟩,
    ⟨(some 13), (.fieldAddr 0 (.t 12)), none⟩,
    ⟨(some 14), (.load 1 false (.t 13)), none⟩,
    ⟨(some 15), (.mv (.t 1)), none⟩,
    ⟨(some 16), (.idxASl 2 (.t 14) (.t 15)), none⟩,
    ⟨(some 17), (.fieldAddr 0 (.t 16)), none⟩,
    ⟨(some 18), (.load 1 false (.t 17)), none⟩,
    ⟨(some 19), (.call 28 [(.t 18)]), none⟩,
    ⟨(some 20), (.mv (.t 0)), none⟩,
    ⟨(some 21), (.nilCk (.t 20)), none⟩,
    ⟨(some 22), (.fieldAddr 0 (.t 21)), none⟩,
    ⟨(some 23), (.load 1 false (.t 22)), none⟩,
    ⟨(some 24), (.mv (.t 1)), none⟩,
    ⟨(some 25), (.idxASl 2 (.t 23) (.t 24)), none⟩,
    ⟨(some 26), (.fieldAddr 1 (.t 25)), none⟩,
    ⟨(some 27), (.load 1 false (.t 26)), none⟩,
    ⟨(some 4), (.mv (.t 19)), none⟩,
    ⟨(some 5), (.mv (.t 27)), none⟩,
    ⟨(some 6), (.mv (.c (.p (.s (.bool true))))), none⟩] (some [0, 1, 3, 7, 0, 31, 63, 127, 255, 0, 512, 1536, 3584, 0, 15872, 32256, 65024, 511, 262143, 524287]) [4, 5, 6])
  .ret))), [(4, none), (5, none), (6, none)], true⟩
/-- (*kinfolk/net.Net).Take -/
def ir11 : IRF := ⟨[0, 1], (.seq (.region [⟨(some 4), (.alloc false [(.s (.int .i64 0)), (.s (.int .i64 0)), (.s (.int .i64 0)), (.s (.int .u64 0)), (.s (.int .i64 0)), (.s (.bool false)), (.s (.int .u64 0)), (.s (.pointer none)), (.s (.slice none 0 0)), (.s (.int .u64 0)), (.s (.int .i64 0)), (.s (.int .i64 0)), (.s (.bool false)), (.s (.pointer none)), (.s (.int .u64 0))]), none⟩,
    ⟨(some 5), (.mv (.c (.p (.s (.int .i64 0))))), none⟩] none [0, 1, 4])
  (.seq (.region [⟨(some 10), (.mv (.t 0)), none⟩,
    ⟨(some 11), (.mv (.t 1)), none⟩,
    ⟨(some 12), (.call 10 [(.t 10), (.t 11)]), none⟩,
    ⟨(some 9), (.mv (.t 12)), none⟩,
    ⟨(some 13), (.ext (.t 9) 0), none⟩,
    ⟨(some 14), (.ext (.t 9) 1), none⟩,
    ⟨(some 15), (.ext (.t 9) 2), none⟩,
    ⟨(some 6), (.mv (.t 13)), none⟩,
    ⟨(some 7), (.mv (.t 14)), none⟩,
    ⟨(some 8), (.mv (.t 15)), none⟩] none [0, 1, 4, 6, 8])
  (.seq (.seq (.region [⟨(some 16), (.mv (.t 8)), none⟩,
    ⟨(some 17), (.un .not (.t 16)), none⟩] none [0, 1, 4, 6, 17])
  (.cond (.t 17) (.seq (.region [⟨(some 18), (.build [(.s (.int .i64 0)), (.s (.int .i64 0)), (.s (.int .i64 0)), (.s (.int .u64 0)), (.s (.int .i64 0)), (.s (.bool false)), (.s (.int .u64 0)), (.s (.pointer none)), (.s (.slice none 0 0)), (.s (.int .u64 0)), (.s (.int .i64 0)), (.s (.int .i64 0)), (.s (.bool false)), (.s (.pointer none)), (.s (.int .u64 0))] []), none⟩,
    ⟨none, (.store 15 (.t 4) (.t 18)), none⟩,
    ⟨(some 5), (.mv (.c (.p (.s (.int .i64 2))))), none⟩] none [4, 5])
  .ret) .skip))
  (.seq (.region [⟨(some 19), (.mv (.t 0)), none⟩,
    ⟨(some 20), (.mv (.t 1)), none⟩,
    ⟨(some 21), (.call 13 [(.t 19), (.t 20)]), none⟩] none [4, 6])
  (.seq (.region [⟨(some 22), (.mv (.t 6)), none⟩,
    ⟨(some 23), (.call 29 [(.t 22)]), none⟩,
    ⟨(some 24), (.ext (.t 23) 0), none⟩,
    ⟨(some 25), (.ext (.t 23) 1), none⟩,
    ⟨none, (.store 15 (.t 4) (.t 24)), none⟩,
    ⟨(some 5), (.mv (.t 25)), none⟩] none [4, 5])
  .ret))))), [(4, some (15, true)), (5, none)], false⟩
/-- (*kinfolk/net.Net).Send -/
def ir12 : IRF := ⟨[0, 1], (.seq (.region [⟨(some 3), (.box false (.t 1)), none⟩,
    ⟨(some 4), (.mv (.c (.p (.s (.int .i64 0))))), none⟩] none [0, 3])
  (.seq (.seq (.region [⟨(some 7), (.mv (.t 0)), none⟩,
    ⟨(some 8), (.eq false .ptr (.t 7) (.c (.p (.s (.pointer none))))), none⟩] none [0, 3, 8])
  (.cond (.t 8) (.seq (.region [⟨(some 4), (.mv (.c (.p (.s (.int .i64 2))))), none⟩] none [4])
  .ret) .skip))
  (.seq (.region [⟨(some 10), (.load 15 true (.t 3)), none⟩,
    ⟨(some 11), (.call 30 [(.t 10)]), none⟩,
    ⟨(some 9), (.mv (.t 11)), none⟩,
    ⟨(some 12), (.ext (.t 9) 0), none⟩,
    ⟨(some 13), (.ext (.t 9) 1), none⟩,
    ⟨(some 5), (.mv (.t 12)), none⟩,
    ⟨(some 6), (.mv (.t 13)), none⟩] none [0, 3, 5, 6])
  (.seq (.block 0 (.seq (.region [⟨(some 15), (.mv (.t 6)), none⟩,
    ⟨(some 16), (.bin .neq (.t 15) (.c (.p (.s (.int .i64 0))))), none⟩,
    ⟨(some 14), (.mv (.t 16)), none⟩] none [0, 3, 5, 6, 14])
  (.cond (.t 14) (.seq (.region [⟨(some 17), (.mv (.t 6)), none⟩,
    ⟨(some 4), (.mv (.t 17)), none⟩] none [4])
  .ret) (.seq (.region [⟨(some 19), (.mv (.t 0)), none⟩,
    ⟨(some 20), (.nilCk (.t 19)), none⟩,
    ⟨(some 21), (.fieldAddr 0 (.t 20)), none⟩,
    ⟨(some 22), (.load 1 false (.t 21)), none⟩,
    ⟨(some 23), (.len false (.t 22)), none⟩,
    ⟨(some 24), (.mv (.t 0)), none⟩,
    ⟨(some 25), (.nilCk (.t 24)), none⟩,
    ⟨(some 26), (.fieldAddr 1 (.t 25)), none⟩,
    ⟨(some 27), (.load 1 false (.t 26)), none⟩,
    ⟨(some 28), (.bin .geq (.t 23) (.t 27)), none⟩,
    ⟨(some 18), (.mv (.t 28)), none⟩] (some [0, 1, 3, 7, 15, 0, 32, 96, 224, 511, 1023]) [0, 3, 5, 18])
  (.cond (.t 18) (.seq (.region [⟨(some 4), (.mv (.c (.p (.s (.int .i64 8))))), none⟩] none [4])
  .ret) .skip)))))
  (.seq (.region [⟨(some 29), (.mv (.t 0)), none⟩,
    ⟨(some 30), (.mv (.t 0)), none⟩,
    ⟨(some 31), (.nilCk (.t 30)), none⟩,
    ⟨(some 32), (.fieldAddr 0 (.t 31)), none⟩,
    ⟨(some 33), (.load 1 false (.t 32)), none⟩,
    ⟨(some 34), (.mv (.t 5)), none⟩,
    ⟨(some 35), (.fieldAddr 2 (.t 3)), none⟩,
    ⟨(some 36), (.load 1 false (.t 35)), none⟩,
    ⟨(some 37), (.build [(.s (.slice none 0 0)), (.s (.int .i64 0))] [(0, 1, (.t 34)), (1, 1, (.t 36))]), none⟩,
    ⟨(some 38), (.mkSl 1 2 [(.s (.slice none 0 0)), (.s (.int .i64 0))] [(0, 2, (.t 37))]), none⟩,
    ⟨(some 39), (.app 2 32 (.t 33) (.t 38)), none⟩,
    ⟨(some 40), (.nilCk (.t 29)), none⟩,
    ⟨(some 41), (.fieldAddr 0 (.t 40)), none⟩,
    ⟨none, (.store 1 (.t 41) (.t 39)), none⟩] (some [0, 0, 2, 6, 14, 0, 0, 64, 224, 480, 1022, 2047, 4095, 8191]) [])
  (.seq (.region [⟨(some 4), (.mv (.c (.p (.s (.int .i64 0))))), none⟩] none [4])
  .ret)))))), [(4, none)], false⟩
/-- (*kinfolk/net.Net).Drop -/
def ir13 : IRF := ⟨[0, 1], (.seq (.region [⟨(some 4), (.mv (.c (.p (.s (.int .i64 0))))), none⟩] none [0, 1])
  (.seq (.seq (.region [⟨(some 5), (.mv (.t 0)), none⟩,
    ⟨(some 6), (.mv (.t 1)), none⟩,
    ⟨(some 7), (.call 27 [(.t 5), (.t 6)]), none⟩,
    ⟨(some 8), (.un .not (.t 7)), none⟩] none [0, 1, 8])
  (.cond (.t 8) (.seq (.region [⟨(some 4), (.mv (.c (.p (.s (.int .i64 2))))), none⟩] none [4])
  .ret) .skip))
  (.seq (.region [⟨(some 9), (.mv (.t 0)), none⟩,
    ⟨(some 10), (.mv (.t 0)), none⟩,
    ⟨(some 11), (.nilCk (.t 10)), none⟩,
    ⟨(some 12), (.fieldAddr 0 (.t 11)), none⟩,
    ⟨(some 13), (.load 1 false (.t 12)), none⟩,
    ⟨(some 14), (.mv (.t 1)), none⟩,
    ⟨(some 15), (.mv (.t 1)), none⟩,
    ⟨(some 16), (.bin .add (.t 15) (.c (.p (.s (.int .i64 1))))), none⟩,
    ⟨(some 17), (.call 31 [(.t 13), (.t 14), (.t 16)]), none⟩,
    ⟨(some 18), (.nilCk (.t 9)), none⟩,
    ⟨(some 19), (.fieldAddr 0 (.t 18)), none⟩,
    ⟨none, (.store 1 (.t 19) (.t 17)), none⟩] none [])
  (.seq (.region [⟨(some 4), (.mv (.c (.p (.s (.int .i64 0))))), none⟩] none [4])
  .ret)))), [(4, none)], false⟩
/-- (*kinfolk/net.Net).Double -/
def ir14 : IRF := ⟨[0, 1], (.seq (.region [⟨(some 4), (.mv (.c (.p (.s (.int .i64 0))))), none⟩] none [0, 1])
  (.seq (.block 0 (.seq (.region [⟨(some 6), (.mv (.t 0)), none⟩,
    ⟨(some 7), (.mv (.t 1)), none⟩,
    ⟨(some 8), (.call 27 [(.t 6), (.t 7)]), none⟩,
    ⟨(some 9), (.un .not (.t 8)), none⟩,
    ⟨(some 5), (.mv (.t 9)), none⟩] none [0, 1, 5])
  (.cond (.t 5) (.seq (.region [⟨(some 4), (.mv (.c (.p (.s (.int .i64 2))))), none⟩] none [4])
  .ret) (.seq (.region [⟨(some 11), (.mv (.t 0)), none⟩,
    ⟨(some 12), (.nilCk (.t 11)), none⟩,
    ⟨(some 13), (.fieldAddr 0 (.t 12)), none⟩,
    ⟨(some 14), (.load 1 false (.t 13)), none⟩,
    ⟨(some 15), (.len false (.t 14)), none⟩,
    ⟨(some 16), (.mv (.t 0)), none⟩,
    ⟨(some 17), (.nilCk (.t 16)), none⟩,
    ⟨(some 18), (.fieldAddr 1 (.t 17)), none⟩,
    ⟨(some 19), (.load 1 false (.t 18)), none⟩,
    ⟨(some 20), (.bin .geq (.t 15) (.t 19)), none⟩,
    ⟨(some 10), (.mv (.t 20)), none⟩] (some [0, 1, 3, 7, 15, 0, 32, 96, 224, 511, 1023]) [0, 1, 10])
  (.cond (.t 10) (.seq (.region [⟨(some 4), (.mv (.c (.p (.s (.int .i64 8))))), none⟩] none [4])
  .ret) .skip)))))
  (.seq (.region [⟨(some 21), (.mv (.t 0)), none⟩,
    ⟨(some 22), (.mv (.t 0)), none⟩,
    ⟨(some 23), (.nilCk (.t 22)), none⟩,
    ⟨(some 24), (.fieldAddr 0 (.t 23)), none⟩,
    ⟨(some 25), (.load 1 false (.t 24)), none⟩,
    ⟨(some 26), (.mv (.t 0)), none⟩,
    ⟨(some 27), (.nilCk (.t 26)), none⟩,
    ⟨(some 28), (.fieldAddr 0 (.t 27)), none⟩,
    ⟨(some 29), (.load 1 false (.t 28)), none⟩,
    ⟨(some 30), (.mv (.t 1)), none⟩,
    ⟨(some 31), (.idxASl 2 (.t 29) (.t 30)), none⟩,
    ⟨(some 32), (.load 2 true (.t 31)), none⟩,
    ⟨(some 33), (.mkSl 1 2 [(.s (.slice none 0 0)), (.s (.int .i64 0))] [(0, 2, (.t 32))]), none⟩,
    ⟨(some 34), (.app 2 32 (.t 25) (.t 33)), none⟩,
    ⟨(some 35), (.nilCk (.t 21)), none⟩,
    ⟨(some 36), (.fieldAddr 0 (.t 35)), none⟩,
    ⟨none, (.store 1 (.t 36) (.t 34)), none⟩] (some [0, 0, 2, 6, 14, 0, 32, 96, 224, 0, 992, 2016, 4064, 8190, 16383, 32767, 65535]) [])
  (.seq (.region [⟨(some 4), (.mv (.c (.p (.s (.int .i64 0))))), none⟩] none [4])
  .ret)))), [(4, none)], false⟩
/-- (*kinfolk/net.Net).Turn -/
def ir15 : IRF := ⟨[0, 1, 2, 3], (.seq (.region [⟨(some 8), (.mv (.c (.p (.s (.int .i64 0))))), none⟩] none [0, 1, 2, 3])
  (.seq (.region [⟨(some 16), (.mv (.t 0)), none⟩,
    ⟨(some 17), (.mv (.t 1)), none⟩,
    ⟨(some 18), (.call 10 [(.t 16), (.t 17)]), none⟩,
    ⟨(some 15), (.mv (.t 18)), none⟩,
    ⟨(some 19), (.ext (.t 15) 0), none⟩,
    ⟨(some 20), (.ext (.t 15) 1), none⟩,
    ⟨(some 21), (.ext (.t 15) 2), none⟩,
    ⟨(some 9), (.mv (.t 19)), none⟩,
    ⟨(some 10), (.mv (.t 20)), none⟩,
    ⟨(some 11), (.mv (.t 21)), none⟩] none [0, 1, 2, 3, 9, 11])
  (.seq (.seq (.region [⟨(some 22), (.mv (.t 11)), none⟩,
    ⟨(some 23), (.un .not (.t 22)), none⟩] none [0, 1, 2, 3, 9, 23])
  (.cond (.t 23) (.seq (.region [⟨(some 8), (.mv (.c (.p (.s (.int .i64 2))))), none⟩] none [8])
  .ret) .skip))
  (.seq (.seq (.region [⟨(some 25), (.mv (.t 9)), none⟩,
    ⟨(some 26), (.call 29 [(.t 25)]), none⟩,
    ⟨(some 24), (.mv (.t 26)), none⟩,
    ⟨(some 27), (.ext (.t 24) 0), none⟩,
    ⟨(some 28), (.ext (.t 24) 1), none⟩,
    ⟨(some 12), (.alloc false [(.s (.int .i64 0)), (.s (.int .i64 0)), (.s (.int .i64 0)), (.s (.int .u64 0)), (.s (.int .i64 0)), (.s (.bool false)), (.s (.int .u64 0)), (.s (.pointer none)), (.s (.slice none 0 0)), (.s (.int .u64 0)), (.s (.int .i64 0)), (.s (.int .i64 0)), (.s (.bool false)), (.s (.pointer none)), (.s (.int .u64 0))]), none⟩,
    ⟨none, (.store 15 (.t 12) (.t 27)), none⟩,
    ⟨(some 13), (.mv (.t 28)), none⟩] none [0, 1, 2, 3, 9, 13])
  (.seq (.region [⟨(some 29), (.mv (.t 13)), none⟩,
    ⟨(some 30), (.bin .neq (.t 29) (.c (.p (.s (.int .i64 0))))), none⟩] none [0, 1, 2, 3, 9, 30])
  (.cond (.t 30) (.seq (.region [⟨(some 8), (.mv (.c (.p (.s (.int .i64 12))))), none⟩] none [8])
  .ret) .skip)))
  (.seq (.region [⟨(some 31), (.mv (.t 2)), none⟩,
    ⟨(some 32), (.mv (.t 9)), none⟩,
    ⟨(some 33), (.len false (.t 32)), none⟩,
    ⟨(some 34), (.bin .rem (.t 31) (.t 33)), none⟩,
    ⟨(some 14), (.mv (.t 34)), none⟩] none [0, 1, 3, 9, 14])
  (.seq (.seq (.region [⟨(some 35), (.mv (.t 14)), none⟩,
    ⟨(some 36), (.bin .lss (.t 35) (.c (.p (.s (.int .i64 0))))), none⟩] none [0, 1, 3, 9, 14, 36])
  (.cond (.t 36) (.region [⟨(some 37), (.mv (.t 14)), none⟩,
    ⟨(some 38), (.mv (.t 9)), none⟩,
    ⟨(some 39), (.len false (.t 38)), none⟩,
    ⟨(some 40), (.bin .add (.t 37) (.t 39)), none⟩,
    ⟨(some 14), (.mv (.t 40)), none⟩] none [0, 1, 3, 9, 14]) .skip))
  (.seq (.region [⟨(some 41), (.mv (.t 9)), none⟩,
    ⟨(some 42), (.mv (.t 14)), none⟩,
    ⟨(some 43), (.idxASl 1 (.t 41) (.t 42)), none⟩,
    ⟨(some 44), (.load 1 false (.t 43)), none⟩,
    ⟨(some 45), (.mv (.t 3)), none⟩,
    ⟨(some 46), (.bin .xor (.t 44) (.t 45)), none⟩,
    ⟨(some 47), (.idxASl 1 (.t 41) (.t 42)), none⟩,
    ⟨none, (.store 1 (.t 47) (.t 46)), none⟩] none [0, 1, 9])
  (.seq (.region [⟨(some 48), (.mv (.t 0)), none⟩,
    ⟨(some 49), (.nilCk (.t 48)), none⟩,
    ⟨(some 50), (.fieldAddr 0 (.t 49)), none⟩,
    ⟨(some 51), (.load 1 false (.t 50)), none⟩,
    ⟨(some 52), (.mv (.t 1)), none⟩,
    ⟨(some 53), (.mv (.t 9)), none⟩,
    ⟨(some 54), (.idxASl 2 (.t 51) (.t 52)), none⟩,
    ⟨(some 55), (.fieldAddr 0 (.t 54)), none⟩,
    ⟨none, (.store 1 (.t 55) (.t 53)), none⟩] none [])
  (.seq (.region [⟨(some 8), (.mv (.c (.p (.s (.int .i64 0))))), none⟩] none [8])
  .ret))))))))), [(8, none)], false⟩
/-- (*kinfolk/net.Net).Clear -/
def ir16 : IRF := ⟨[0, 1], (.seq (.region [⟨(some 3), (.box false (.t 1)), none⟩,
    ⟨(some 4), (.mv (.c (.p (.s (.int .i64 0))))), none⟩] none [0, 3])
  (.seq (.region [⟨(some 6), (.mv (.t 0)), none⟩,
    ⟨(some 7), (.call 17 [(.t 6)]), none⟩,
    ⟨(some 5), (.mv (.t 7)), none⟩] none [0, 3, 5])
  (.seq (.seq (.region [⟨(some 8), (.mv (.t 5)), none⟩,
    ⟨(some 9), (.bin .gtr (.t 8) (.c (.p (.s (.int .i64 0))))), none⟩] none [0, 3, 5, 9])
  (.cond (.t 9) (.region [⟨(some 10), (.mv (.t 0)), none⟩,
    ⟨(some 11), (.mv (.t 0)), none⟩,
    ⟨(some 12), (.nilCk (.t 11)), none⟩,
    ⟨(some 13), (.fieldAddr 0 (.t 12)), none⟩,
    ⟨(some 14), (.load 1 false (.t 13)), none⟩,
    ⟨(some 15), (.mkFn 33 [] [(.t 3)]), none⟩,
    ⟨(some 16), (.call 32 [(.t 14), (.t 15)]), none⟩,
    ⟨(some 17), (.nilCk (.t 10)), none⟩,
    ⟨(some 18), (.fieldAddr 0 (.t 17)), none⟩,
    ⟨none, (.store 1 (.t 18) (.t 16)), none⟩] none [0, 5]) .skip))
  (.seq (.region [⟨(some 19), (.mv (.t 5)), none⟩,
    ⟨(some 20), (.mv (.t 0)), none⟩,
    ⟨(some 21), (.call 17 [(.t 20)]), none⟩,
    ⟨(some 22), (.bin .sub (.t 19) (.t 21)), none⟩,
    ⟨(some 4), (.mv (.t 22)), none⟩] none [4])
  .ret)))), [(4, none)], false⟩
/-- (*kinfolk/net.Net).Len -/
def ir17 : IRF := ⟨[0], (.seq (.region [⟨(some 2), (.mv (.c (.p (.s (.int .i64 0))))), none⟩] none [0])
  (.seq (.seq (.region [⟨(some 3), (.mv (.t 0)), none⟩,
    ⟨(some 4), (.eq false .ptr (.t 3) (.c (.p (.s (.pointer none))))), none⟩] none [0, 4])
  (.cond (.t 4) (.seq (.region [⟨(some 2), (.mv (.c (.p (.s (.int .i64 0))))), none⟩] none [2])
  .ret) .skip))
  (.seq (.region [⟨(some 5), (.mv (.t 0)), none⟩,
    ⟨(some 6), (.nilCk (.t 5)), none⟩,
    ⟨(some 7), (.fieldAddr 0 (.t 6)), none⟩,
    ⟨(some 8), (.load 1 false (.t 7)), none⟩,
    ⟨(some 9), (.len false (.t 8)), none⟩,
    ⟨(some 2), (.mv (.t 9)), none⟩] none [2])
  .ret))), [(2, none)], false⟩
/-- kinfolk/kinfolkref20.Take -/
def ir18 : IRF := ⟨[0, 1], (.seq (.region [⟨(some 4), (.alloc false [(.s (.int .i64 0)), (.s (.int .i64 0)), (.s (.int .i64 0)), (.s (.int .u64 0)), (.s (.int .i64 0)), (.s (.bool false)), (.s (.pointer none)), (.s (.slice none 0 0)), (.s (.int .u64 0)), (.s (.int .i64 0)), (.s (.int .i64 0)), (.s (.pointer none)), (.s (.int .u64 0)), (.s (.slice none 0 0))]), none⟩,
    ⟨(some 5), (.mv (.c (.p (.s (.int .i64 0))))), none⟩] none [0, 1, 4])
  (.seq (.seq (.region [⟨(some 9), (.mv (.t 0)), none⟩,
    ⟨(some 10), (.mv (.t 1)), none⟩,
    ⟨(some 11), (.call 34 [(.t 9), (.t 10)]), none⟩,
    ⟨(some 12), (.un .not (.t 11)), none⟩] none [0, 1, 4, 12])
  (.cond (.t 12) (.seq (.region [⟨(some 13), (.call 23 [(.c (.p (.s (.int .i64 0)))), (.c (.p (.s (.int .i64 0)))), (.c (.p (.s (.int .i64 0))))]), none⟩,
    ⟨none, (.store 14 (.t 4) (.t 13)), none⟩,
    ⟨(some 5), (.mv (.c (.p (.s (.int .i64 2))))), none⟩] none [4, 5])
  .ret) .skip))
  (.seq (.region [⟨(some 14), (.mv (.t 0)), none⟩,
    ⟨(some 15), (.nilCk (.t 14)), none⟩,
    ⟨(some 16), (.fieldAddr 0 (.t 15)), none⟩,
    ⟨(some 17), (.load 1 false (.t 16)), none⟩,
    ⟨(some 18), (.mv (.t 1)), none⟩,
    ⟨(some 19), (.idxASl 3 (.t 17) (.t 18)), none⟩,
    ⟨(some 20), (.load 3 true (.t 19)), none⟩,
    ⟨(some 6), (.alloc false [(.s (.slice none 0 0)), (.s (.int .i64 0)), (.s (.slice none 0 0))]), none⟩,
    ⟨none, (.store 3 (.t 6) (.t 20)), none⟩] none [0, 1, 4, 6])
  (.seq (.region [⟨(some 21), (.mv (.t 0)), none⟩,
    ⟨(some 22), (.mv (.t 1)), none⟩,
    ⟨(some 23), (.call 19 [(.t 21), (.t 22)]), none⟩] none [4, 6])
  (.seq (.region [⟨(some 25), (.fieldAddr 0 (.t 6)), none⟩,
    ⟨(some 26), (.load 1 false (.t 25)), none⟩,
    ⟨(some 27), (.call 35 [(.t 26)]), none⟩,
    ⟨(some 24), (.mv (.t 27)), none⟩,
    ⟨(some 28), (.ext (.t 24) 0), none⟩,
    ⟨(some 29), (.ext (.t 24) 1), none⟩,
    ⟨(some 7), (.alloc false [(.s (.int .i64 0)), (.s (.int .i64 0)), (.s (.int .i64 0)), (.s (.int .u64 0)), (.s (.int .i64 0)), (.s (.bool false)), (.s (.pointer none)), (.s (.slice none 0 0)), (.s (.int .u64 0)), (.s (.int .i64 0)), (.s (.int .i64 0)), (.s (.pointer none)), (.s (.int .u64 0)), (.s (.slice none 0 0))]), none⟩,
    ⟨none, (.store 14 (.t 7) (.t 28)), none⟩,
    ⟨(some 8), (.mv (.t 29)), none⟩] none [4, 6, 7, 8])
  (.seq (.region [⟨(some 30), (.fieldAddr 2 (.t 6)), none⟩,
    ⟨(some 31), (.load 1 false (.t 30)), none⟩,
    ⟨(some 32), (.fieldAddr 13 (.t 7)), none⟩,
    ⟨none, (.store 1 (.t 32) (.t 31)), none⟩] none [4, 7, 8])
  (.seq (.region [⟨(some 33), (.load 14 true (.t 7)), none⟩,
    ⟨(some 34), (.mv (.t 8)), none⟩,
    ⟨none, (.store 14 (.t 4) (.t 33)), none⟩,
    ⟨(some 5), (.mv (.t 34)), none⟩] none [4, 5])
  .ret))))))), [(4, some (14, true)), (5, none)], false⟩
/-- kinfolk/kinfolkref20.Drop -/
def ir19 : IRF := ⟨[0, 1], (.seq (.region [⟨(some 4), (.mv (.c (.p (.s (.int .i64 0))))), none⟩] none [0, 1])
  (.seq (.seq (.region [⟨(some 5), (.mv (.t 0)), none⟩,
    ⟨(some 6), (.mv (.t 1)), none⟩,
    ⟨(some 7), (.call 34 [(.t 5), (.t 6)]), none⟩,
    ⟨(some 8), (.un .not (.t 7)), none⟩] none [0, 1, 8])
  (.cond (.t 8) (.seq (.region [⟨(some 4), (.mv (.c (.p (.s (.int .i64 2))))), none⟩] none [4])
  .ret) .skip))
  (.seq (.region [⟨(some 9), (.mv (.t 0)), none⟩,
    ⟨(some 10), (.mkSl 0 3 [] []), none⟩,
    ⟨(some 11), (.mv (.t 0)), none⟩,
    ⟨(some 12), (.nilCk (.t 11)), none⟩,
    ⟨(some 13), (.fieldAddr 0 (.t 12)), none⟩,
    ⟨(some 14), (.load 1 false (.t 13)), none⟩,
    ⟨(some 15), (.mv (.t 1)), none⟩,
    ⟨(some 16), (.slSl 3 (.t 14) none (some (.t 15)) none), none⟩,
    ⟨(some 17), (.app 3 56 (.t 10) (.t 16)), none⟩,
    ⟨(some 18), (.mv (.t 0)), none⟩,
    ⟨(some 19), (.nilCk (.t 18)), none⟩,
    ⟨(some 20), (.fieldAddr 0 (.t 19)), none⟩,
    ⟨(some 21), (.load 1 false (.t 20)), none⟩,
    ⟨(some 22), (.mv (.t 1)), none⟩,
    ⟨(some 23), (.bin .add (.t 22) (.c (.p (.s (.int .i64 1))))), none⟩,
    ⟨(some 24), (.slSl 3 (.t 21) (some (.t 23)) none none), none⟩,
    ⟨(some 25), (.app 3 56 (.t 17) (.t 24)), none⟩,
    ⟨(some 26), (.nilCk (.t 9)), none⟩,
    ⟨(some 27), (.fieldAddr 0 (.t 26)), none⟩,
    ⟨none, (.store 1 (.t 27) (.t 25)), none⟩] (some [0, 0, 0, 4, 12, 28, 0, 124, 254, 0, 512, 1536, 3584, 0, 8192, 32256, 65534, 131071, 262143, 524287]) [])
  (.seq (.region [⟨(some 4), (.mv (.c (.p (.s (.int .i64 0))))), none⟩] none [4])
  .ret)))), [(4, none)], false⟩
/-- kinfolk/kinfolkref20.Double -/
def ir20 : IRF := ⟨[0, 1], (.seq (.region [⟨(some 4), (.mv (.c (.p (.s (.int .i64 0))))), none⟩] none [0, 1])
  (.seq (.seq (.region [⟨(some 5), (.mv (.t 0)), none⟩,
    ⟨(some 6), (.mv (.t 1)), none⟩,
    ⟨(some 7), (.call 34 [(.t 5), (.t 6)]), none⟩,
    ⟨(some 8), (.un .not (.t 7)), none⟩] none [0, 1, 8])
  (.cond (.t 8) (.seq (.region [⟨(some 4), (.mv (.c (.p (.s (.int .i64 2))))), none⟩] none [4])
  .ret) .skip))
  (.seq (.seq (.region [⟨(some 9), (.mv (.t 0)), none⟩,
    ⟨(some 10), (.nilCk (.t 9)), none⟩,
    ⟨(some 11), (.fieldAddr 0 (.t 10)), none⟩,
    ⟨(some 12), (.load 1 false (.t 11)), none⟩,
    ⟨(some 13), (.len false (.t 12)), none⟩,
    ⟨(some 14), (.mv (.t 0)), none⟩,
    ⟨(some 15), (.nilCk (.t 14)), none⟩,
    ⟨(some 16), (.fieldAddr 1 (.t 15)), none⟩,
    ⟨(some 17), (.load 1 false (.t 16)), none⟩,
    ⟨(some 18), (.bin .geq (.t 13) (.t 17)), none⟩] (some [0, 1, 3, 7, 15, 0, 32, 96, 224, 511]) [0, 1, 18])
  (.cond (.t 18) (.seq (.region [⟨(some 4), (.mv (.c (.p (.s (.int .i64 8))))), none⟩] none [4])
  .ret) .skip))
  (.seq (.region [⟨(some 19), (.mv (.t 0)), none⟩,
    ⟨(some 20), (.mkSl 0 3 [] []), none⟩,
    ⟨(some 21), (.mv (.t 0)), none⟩,
    ⟨(some 22), (.nilCk (.t 21)), none⟩,
    ⟨(some 23), (.fieldAddr 0 (.t 22)), none⟩,
    ⟨(some 24), (.load 1 false (.t 23)), none⟩,
    ⟨(some 25), (.app 3 56 (.t 20) (.t 24)), none⟩,
    ⟨(some 26), (.mv (.t 0)), none⟩,
    ⟨(some 27), (.nilCk (.t 26)), none⟩,
    ⟨(some 28), (.fieldAddr 0 (.t 27)), none⟩,
    ⟨(some 29), (.load 1 false (.t 28)), none⟩,
    ⟨(some 30), (.mv (.t 1)), none⟩,
    ⟨(some 31), (.idxASl 3 (.t 29) (.t 30)), none⟩,
    ⟨(some 32), (.load 3 true (.t 31)), none⟩,
    ⟨(some 33), (.mkSl 1 3 [(.s (.slice none 0 0)), (.s (.int .i64 0)), (.s (.slice none 0 0))] [(0, 3, (.t 32))]), none⟩,
    ⟨(some 34), (.app 3 56 (.t 25) (.t 33)), none⟩,
    ⟨(some 35), (.nilCk (.t 19)), none⟩,
    ⟨(some 36), (.fieldAddr 0 (.t 35)), none⟩,
    ⟨none, (.store 1 (.t 36) (.t 34)), none⟩] (some [0, 0, 0, 4, 12, 28, 62, 0, 128, 384, 896, 0, 3968, 8064, 16256, 32766, 65535, 131071, 262143]) [])
  (.seq (.region [⟨(some 4), (.mv (.c (.p (.s (.int .i64 0))))), none⟩] none [4])
  .ret))))), [(4, none)], false⟩
/-- kinfolk/kinfolkref20.Turn -/
def ir21 : IRF := ⟨[0, 1, 2, 3], (.seq (.region [⟨(some 8), (.mv (.c (.p (.s (.int .i64 0))))), none⟩] none [0, 1, 2, 3])
  (.seq (.seq (.region [⟨(some 13), (.mv (.t 0)), none⟩,
    ⟨(some 14), (.mv (.t 1)), none⟩,
    ⟨(some 15), (.call 34 [(.t 13), (.t 14)]), none⟩,
    ⟨(some 16), (.un .not (.t 15)), none⟩] none [0, 1, 2, 3, 16])
  (.cond (.t 16) (.seq (.region [⟨(some 8), (.mv (.c (.p (.s (.int .i64 2))))), none⟩] none [8])
  .ret) .skip))
  (.seq (.region [⟨(some 17), (.mv (.t 0)), none⟩,
    ⟨(some 18), (.nilCk (.t 17)), none⟩,
    ⟨(some 19), (.fieldAddr 0 (.t 18)), none⟩,
    ⟨(some 20), (.load 1 false (.t 19)), none⟩,
    ⟨(some 21), (.mv (.t 1)), none⟩,
    ⟨(some 22), (.idxASl 3 (.t 20) (.t 21)), none⟩,
    ⟨(some 23), (.load 3 true (.t 22)), none⟩,
    ⟨(some 9), (.alloc false [(.s (.slice none 0 0)), (.s (.int .i64 0)), (.s (.slice none 0 0))]), none⟩,
    ⟨none, (.store 3 (.t 9) (.t 23)), none⟩] none [0, 1, 2, 3, 9])
  (.seq (.seq (.region [⟨(some 25), (.fieldAddr 0 (.t 9)), none⟩,
    ⟨(some 26), (.load 1 false (.t 25)), none⟩,
    ⟨(some 27), (.call 35 [(.t 26)]), none⟩,
    ⟨(some 24), (.mv (.t 27)), none⟩,
    ⟨(some 28), (.ext (.t 24) 0), none⟩,
    ⟨(some 29), (.ext (.t 24) 1), none⟩,
    ⟨(some 10), (.alloc false [(.s (.int .i64 0)), (.s (.int .i64 0)), (.s (.int .i64 0)), (.s (.int .u64 0)), (.s (.int .i64 0)), (.s (.bool false)), (.s (.pointer none)), (.s (.slice none 0 0)), (.s (.int .u64 0)), (.s (.int .i64 0)), (.s (.int .i64 0)), (.s (.pointer none)), (.s (.int .u64 0)), (.s (.slice none 0 0))]), none⟩,
    ⟨none, (.store 14 (.t 10) (.t 28)), none⟩,
    ⟨(some 11), (.mv (.t 29)), none⟩] none [0, 1, 2, 3, 9, 11])
  (.seq (.region [⟨(some 30), (.mv (.t 11)), none⟩,
    ⟨(some 31), (.bin .neq (.t 30) (.c (.p (.s (.int .i64 0))))), none⟩] none [0, 1, 2, 3, 9, 31])
  (.cond (.t 31) (.seq (.region [⟨(some 8), (.mv (.c (.p (.s (.int .i64 12))))), none⟩] none [8])
  .ret) .skip)))
  (.seq (.region [⟨(some 32), (.mv (.t 2)), none⟩,
    ⟨(some 33), (.fieldAddr 0 (.t 9)), none⟩,
    ⟨(some 34), (.load 1 false (.t 33)), none⟩,
    ⟨(some 35), (.len false (.t 34)), none⟩,
    ⟨(some 36), (.bin .rem (.t 32) (.t 35)), none⟩,
    ⟨(some 12), (.mv (.t 36)), none⟩] none [0, 1, 3, 9, 12])
  (.seq (.seq (.region [⟨(some 37), (.mv (.t 12)), none⟩,
    ⟨(some 38), (.bin .lss (.t 37) (.c (.p (.s (.int .i64 0))))), none⟩] none [0, 1, 3, 9, 12, 38])
  (.cond (.t 38) (.region [⟨(some 39), (.mv (.t 12)), none⟩,
    ⟨(some 40), (.fieldAddr 0 (.t 9)), none⟩,
    ⟨(some 41), (.load 1 false (.t 40)), none⟩,
    ⟨(some 42), (.len false (.t 41)), none⟩,
    ⟨(some 43), (.bin .add (.t 39) (.t 42)), none⟩,
    ⟨(some 12), (.mv (.t 43)), none⟩] none [0, 1, 3, 9, 12]) .skip))
  (.seq (.region [⟨(some 44), (.mkSl 0 1 [] []), none⟩,
    ⟨(some 45), (.fieldAddr 0 (.t 9)), none⟩,
    ⟨(some 46), (.load 1 false (.t 45)), none⟩,
    ⟨(some 47), (.app 1 1 (.t 44) (.t 46)), none⟩,
    ⟨(some 48), (.fieldAddr 0 (.t 9)), none⟩,
    ⟨none, (.store 1 (.t 48) (.t 47)), none⟩] none [0, 1, 3, 9, 12])
  (.seq (.region [⟨(some 49), (.fieldAddr 0 (.t 9)), none⟩,
    ⟨(some 50), (.load 1 false (.t 49)), none⟩,
    ⟨(some 51), (.mv (.t 12)), none⟩,
    ⟨(some 52), (.idxASl 1 (.t 50) (.t 51)), none⟩,
    ⟨(some 53), (.load 1 false (.t 52)), none⟩,
    ⟨(some 54), (.mv (.t 3)), none⟩,
    ⟨(some 55), (.bin .xor (.t 53) (.t 54)), none⟩,
    ⟨(some 56), (.idxASl 1 (.t 50) (.t 51)), none⟩,
    ⟨none, (.store 1 (.t 56) (.t 55)), none⟩] none [0, 1, 9])
  (.seq (.region [⟨(some 57), (.mv (.t 0)), none⟩,
    ⟨(some 58), (.mkSl 0 3 [] []), none⟩,
    ⟨(some 59), (.mv (.t 0)), none⟩,
    ⟨(some 60), (.nilCk (.t 59)), none⟩,
    ⟨(some 61), (.fieldAddr 0 (.t 60)), none⟩,
    ⟨(some 62), (.load 1 false (.t 61)), none⟩,
    ⟨(some 63), (.app 3 56 (.t 58) (.t 62)), none⟩,
    ⟨(some 64), (.nilCk (.t 57)), none⟩,
    ⟨(some 65), (.fieldAddr 0 (.t 64)), none⟩,
    ⟨none, (.store 1 (.t 65) (.t 63)), none⟩] none [0, 1, 9])
  (.seq (.region [⟨(some 66), (.mv (.t 0)), none⟩,
    ⟨(some 67), (.nilCk (.t 66)), none⟩,
    ⟨(some 68), (.fieldAddr 0 (.t 67)), none⟩,
    ⟨(some 69), (.load 1 false (.t 68)), none⟩,
    ⟨(some 70), (.mv (.t 1)), none⟩,
    ⟨(some 71), (.load 3 true (.t 9)), none⟩,
    ⟨(some 72), (.idxASl 3 (.t 69) (.t 70)), none⟩,
    ⟨none, (.store 3 (.t 72) (.t 71)), none⟩] (some [0, 1, 3, 7, 0, 0, 63, 127]) [])
  (.seq (.region [⟨(some 8), (.mv (.c (.p (.s (.int .i64 0))))), none⟩] none [8])
  .ret))))))))))), [(8, none)], false⟩
/-- kinfolk/kinfolkref20.Clear -/
def ir22_0 : IRC := (.seq (.region [⟨(some 15), (.bin .lss (.t 14) (.t 13)), none⟩] none [0, 1, 5, 12, 13, 14, 15])
  (.seq (.cond (.t 15) .skip (.exit 0))
  (.seq (.block 1 (.seq (.region [⟨(some 16), (.idxASl 3 (.t 12) (.t 14)), none⟩,
    ⟨(some 17), (.load 3 true (.t 16)), none⟩,
    ⟨(some 7), (.alloc false [(.s (.slice none 0 0)), (.s (.int .i64 0)), (.s (.slice none 0 0))]), none⟩,
    ⟨none, (.store 3 (.t 7) (.t 17)), none⟩] none [0, 1, 5, 7, 12, 13, 14])
  (.seq (.region [⟨(some 18), (.fieldAddr 1 (.t 7)), none⟩,
    ⟨(some 19), (.load 1 false (.t 18)), none⟩,
    ⟨(some 20), (.mv (.t 1)), none⟩,
    ⟨(some 21), (.bin .neq (.t 19) (.t 20)), none⟩] none [0, 1, 5, 7, 12, 13, 14, 21])
  (.cond (.t 21) (.region [⟨(some 22), (.mv (.t 5)), none⟩,
    ⟨(some 23), (.load 3 true (.t 7)), none⟩,
    ⟨(some 24), (.mkSl 1 3 [(.s (.slice none 0 0)), (.s (.int .i64 0)), (.s (.slice none 0 0))] [(0, 3, (.t 23))]), none⟩,
    ⟨(some 25), (.app 3 56 (.t 22) (.t 24)), none⟩,
    ⟨(some 5), (.mv (.t 25)), none⟩] none [0, 1, 5, 12, 13, 14]) .skip))))
  (.region [⟨(some 26), (.bin .add (.t 14) (.c (.p (.s (.int .i64 1))))), none⟩,
    ⟨(some 14), (.mv (.t 26)), none⟩] none [0, 1, 5, 12, 13, 14]))))
def ir22 : IRF := ⟨[0, 1], (.seq (.region [⟨(some 4), (.mv (.c (.p (.s (.int .i64 0))))), none⟩] none [0, 1])
  (.seq (.region [⟨(some 5), (.mv (.c (.p (.s (.slice none 0 0))))), none⟩] none [0, 1, 5])
  (.seq (.seq (.region [⟨(some 9), (.mv (.t 0)), none⟩,
    ⟨(some 10), (.nilCk (.t 9)), none⟩,
    ⟨(some 11), (.fieldAddr 0 (.t 10)), none⟩,
    ⟨(some 12), (.load 1 false (.t 11)), none⟩,
    ⟨(some 13), (.len false (.t 12)), none⟩,
    ⟨(some 14), (.mv (.c (.p (.s (.int .i64 0))))), none⟩] none [0, 1, 5, 12, 13, 14])
  (.block 0 (.loop ir22_0)))
  (.seq (.region [⟨(some 27), (.mv (.t 0)), none⟩,
    ⟨(some 28), (.nilCk (.t 27)), none⟩,
    ⟨(some 29), (.fieldAddr 0 (.t 28)), none⟩,
    ⟨(some 30), (.load 1 false (.t 29)), none⟩,
    ⟨(some 31), (.len false (.t 30)), none⟩,
    ⟨(some 32), (.mv (.t 5)), none⟩,
    ⟨(some 33), (.len false (.t 32)), none⟩,
    ⟨(some 34), (.bin .sub (.t 31) (.t 33)), none⟩,
    ⟨(some 8), (.mv (.t 34)), none⟩] none [0, 5, 8])
  (.seq (.region [⟨(some 35), (.mv (.t 0)), none⟩,
    ⟨(some 36), (.mv (.t 5)), none⟩,
    ⟨(some 37), (.nilCk (.t 35)), none⟩,
    ⟨(some 38), (.fieldAddr 0 (.t 37)), none⟩,
    ⟨none, (.store 1 (.t 38) (.t 36)), none⟩] none [8])
  (.seq (.region [⟨(some 39), (.mv (.t 8)), none⟩,
    ⟨(some 4), (.mv (.t 39)), none⟩] none [4])
  .ret)))))), [(4, none)], false⟩
/-- kinfolk/kinfolkref17.New -/
def ir23 : IRF := ⟨[0, 1, 2], (.seq (.region [⟨(some 6), (.alloc false [(.s (.int .i64 0)), (.s (.int .i64 0)), (.s (.int .i64 0)), (.s (.int .u64 0)), (.s (.int .i64 0)), (.s (.bool false)), (.s (.pointer none)), (.s (.slice none 0 0)), (.s (.int .u64 0)), (.s (.int .i64 0)), (.s (.int .i64 0)), (.s (.pointer none)), (.s (.int .u64 0)), (.s (.slice none 0 0))]), none⟩] none [0, 1, 2, 6])
  (.seq (.region [⟨(some 7), (.mv (.t 0)), none⟩,
    ⟨(some 8), (.mv (.t 1)), none⟩,
    ⟨(some 9), (.mv (.t 2)), none⟩,
    ⟨(some 10), (.call 36 [(.c (.p (.s (.int .u64 0))))]), none⟩,
    ⟨(some 11), (.call 37 []), none⟩,
    ⟨(some 12), (.build [(.s (.int .u64 0)), (.s (.int .i64 0)), (.s (.int .i64 0)), (.s (.pointer none))] [(3, 1, (.t 11))]), none⟩,
    ⟨(some 13), (.build [(.s (.int .i64 0)), (.s (.int .i64 0)), (.s (.int .i64 0)), (.s (.int .u64 0)), (.s (.int .i64 0)), (.s (.bool false)), (.s (.pointer none)), (.s (.slice none 0 0)), (.s (.int .u64 0)), (.s (.int .i64 0)), (.s (.int .i64 0)), (.s (.pointer none)), (.s (.int .u64 0)), (.s (.slice none 0 0))] [(0, 1, (.t 7)), (1, 1, (.t 8)), (2, 1, (.t 9)), (6, 1, (.t 10)), (8, 4, (.t 12))]), none⟩,
    ⟨none, (.store 14 (.t 6) (.t 13)), none⟩] none [6])
  .ret)), [(6, some (14, true))], false⟩
/-- kinfolk/kinfolkref20.Send -/
def ir24 : IRF := ⟨[0, 1], (.seq (.region [⟨(some 3), (.box false (.t 1)), none⟩,
    ⟨(some 4), (.mv (.c (.p (.s (.int .i64 0))))), none⟩] none [0, 3])
  (.seq (.region [⟨(some 8), (.load 14 true (.t 3)), none⟩,
    ⟨(some 9), (.call 38 [(.t 8)]), none⟩,
    ⟨(some 7), (.mv (.t 9)), none⟩,
    ⟨(some 10), (.ext (.t 7) 0), none⟩,
    ⟨(some 11), (.ext (.t 7) 1), none⟩,
    ⟨(some 5), (.mv (.t 10)), none⟩,
    ⟨(some 6), (.mv (.t 11)), none⟩] none [0, 3, 5, 6])
  (.seq (.seq (.region [⟨(some 12), (.mv (.t 6)), none⟩,
    ⟨(some 13), (.bin .neq (.t 12) (.c (.p (.s (.int .i64 0))))), none⟩] none [0, 3, 5, 6, 13])
  (.cond (.t 13) (.seq (.region [⟨(some 14), (.mv (.t 6)), none⟩,
    ⟨(some 4), (.mv (.t 14)), none⟩] none [4])
  .ret) .skip))
  (.seq (.seq (.region [⟨(some 15), (.mv (.t 0)), none⟩,
    ⟨(some 16), (.nilCk (.t 15)), none⟩,
    ⟨(some 17), (.fieldAddr 0 (.t 16)), none⟩,
    ⟨(some 18), (.load 1 false (.t 17)), none⟩,
    ⟨(some 19), (.len false (.t 18)), none⟩,
    ⟨(some 20), (.mv (.t 0)), none⟩,
    ⟨(some 21), (.nilCk (.t 20)), none⟩,
    ⟨(some 22), (.fieldAddr 1 (.t 21)), none⟩,
    ⟨(some 23), (.load 1 false (.t 22)), none⟩,
    ⟨(some 24), (.bin .geq (.t 19) (.t 23)), none⟩] (some [0, 1, 3, 7, 15, 0, 32, 96, 224, 511]) [0, 3, 5, 24])
  (.cond (.t 24) (.seq (.region [⟨(some 4), (.mv (.c (.p (.s (.int .i64 8))))), none⟩] none [4])
  .ret) .skip))
  (.seq (.region [⟨(some 25), (.mv (.t 0)), none⟩,
    ⟨(some 26), (.mkSl 0 3 [] []), none⟩,
    ⟨(some 27), (.mv (.t 0)), none⟩,
    ⟨(some 28), (.nilCk (.t 27)), none⟩,
    ⟨(some 29), (.fieldAddr 0 (.t 28)), none⟩,
    ⟨(some 30), (.load 1 false (.t 29)), none⟩,
    ⟨(some 31), (.app 3 56 (.t 26) (.t 30)), none⟩,
    ⟨(some 32), (.mv (.t 5)), none⟩,
    ⟨(some 33), (.fieldAddr 2 (.t 3)), none⟩,
    ⟨(some 34), (.load 1 false (.t 33)), none⟩,
    ⟨(some 35), (.fieldAddr 13 (.t 3)), none⟩,
    ⟨(some 36), (.load 1 false (.t 35)), none⟩,
    ⟨(some 37), (.build [(.s (.slice none 0 0)), (.s (.int .i64 0)), (.s (.slice none 0 0))] [(0, 1, (.t 32)), (1, 1, (.t 34)), (2, 1, (.t 36))]), none⟩,
    ⟨(some 38), (.mkSl 1 3 [(.s (.slice none 0 0)), (.s (.int .i64 0)), (.s (.slice none 0 0))] [(0, 3, (.t 37))]), none⟩,
    ⟨(some 39), (.app 3 56 (.t 31) (.t 38)), none⟩,
    ⟨(some 40), (.nilCk (.t 25)), none⟩,
    ⟨(some 41), (.fieldAddr 0 (.t 40)), none⟩,
    ⟨none, (.store 1 (.t 41) (.t 39)), none⟩] (some [0, 0, 0, 4, 12, 28, 62, 0, 0, 256, 0, 1024, 3968, 8064, 16382, 32767, 65535, 131071]) [])
  (.seq (.region [⟨(some 4), (.mv (.c (.p (.s (.int .i64 0))))), none⟩] none [4])
  .ret)))))), [(4, none)], false⟩
/-- kinfolk/kinfolkref06.Same -/
def ir25_0 : IRC := (.seq (.region [⟨(some 14), (.bin .lss (.t 13) (.t 12)), none⟩] none [0, 1, 12, 13, 14])
  (.seq (.cond (.t 14) .skip (.exit 0))
  (.seq (.block 1 (.seq (.region [⟨(some 15), (.mv (.t 13)), none⟩,
    ⟨(some 5), (.mv (.t 15)), none⟩] none [0, 1, 5, 12, 13])
  (.seq (.region [⟨(some 16), (.mv (.t 0)), none⟩,
    ⟨(some 17), (.mv (.t 5)), none⟩,
    ⟨(some 18), (.idxASl 1 (.t 16) (.t 17)), none⟩,
    ⟨(some 19), (.load 1 false (.t 18)), none⟩,
    ⟨(some 20), (.mv (.t 1)), none⟩,
    ⟨(some 21), (.mv (.t 5)), none⟩,
    ⟨(some 22), (.idxASl 1 (.t 20) (.t 21)), none⟩,
    ⟨(some 23), (.load 1 false (.t 22)), none⟩,
    ⟨(some 24), (.bin .neq (.t 19) (.t 23)), none⟩] (some [0, 0, 3, 7, 0, 0, 48, 112, 255]) [0, 1, 12, 13, 24])
  (.cond (.t 24) (.seq (.region [⟨(some 4), (.mv (.c (.p (.s (.bool false))))), none⟩] none [4])
  .ret) .skip))))
  (.region [⟨(some 25), (.bin .add (.t 13) (.c (.p (.s (.int .i64 1))))), none⟩,
    ⟨(some 13), (.mv (.t 25)), none⟩] none [0, 1, 12, 13]))))
def ir25 : IRF := ⟨[0, 1], (.seq (.region [⟨(some 4), (.mv (.c (.p (.s (.bool false))))), none⟩] none [0, 1])
  (.seq (.seq (.region [⟨(some 6), (.mv (.t 0)), none⟩,
    ⟨(some 7), (.len false (.t 6)), none⟩,
    ⟨(some 8), (.mv (.t 1)), none⟩,
    ⟨(some 9), (.len false (.t 8)), none⟩,
    ⟨(some 10), (.bin .neq (.t 7) (.t 9)), none⟩] none [0, 1, 10])
  (.cond (.t 10) (.seq (.region [⟨(some 4), (.mv (.c (.p (.s (.bool false))))), none⟩] none [4])
  .ret) .skip))
  (.seq (.seq (.region [⟨(some 11), (.mv (.t 0)), none⟩,
    ⟨(some 12), (.len false (.t 11)), none⟩,
    ⟨(some 13), (.mv (.c (.p (.s (.int .i64 0))))), none⟩] none [0, 1, 12, 13])
  (.block 0 (.loop ir25_0)))
  (.seq (.region [⟨(some 4), (.mv (.c (.p (.s (.bool true))))), none⟩] none [4])
  .ret)))), [(4, none)], false⟩
/-- slices.Clone[[]kinfolk/net.frame,kinfolk/net.frame] -/
def ir26 : IRF := ⟨[0], (.seq (.region [⟨(some 2), (.mv (.c (.p (.s (.slice none 0 0))))), none⟩] none [0])
  (.seq (.seq (.region [⟨(some 3), (.mv (.t 0)), none⟩,
    ⟨(some 4), (.eq false .slice (.t 3) (.c (.p (.s (.slice none 0 0))))), none⟩] none [0, 4])
  (.cond (.t 4) (.seq (.region [⟨(some 2), (.mv (.c (.p (.s (.slice none 0 0))))), none⟩] none [2])
  .ret) .skip))
  (.seq (.region [⟨(some 5), (.mkSl 0 2 [] []), none⟩,
    ⟨(some 6), (.mv (.t 0)), none⟩,
    ⟨(some 7), (.app 2 32 (.t 5) (.t 6)), none⟩,
    ⟨(some 2), (.mv (.t 7)), none⟩] none [2])
  .ret))), [(2, none)], true⟩
/-- (*kinfolk/net.Net).has -/
def ir27 : IRF := ⟨[0, 1], (.seq (.region [⟨(some 4), (.mv (.c (.p (.s (.bool false))))), none⟩] none [0, 1])
  (.seq (.region [⟨(some 5), (.mv (.t 1)), none⟩,
    ⟨(some 6), (.bin .geq (.t 5) (.c (.p (.s (.int .i64 0))))), none⟩,
    ⟨(some 7), (.mv (.t 6)), none⟩,
    ⟨(some 8), (.mv (.t 1)), (some (7, true))⟩,
    ⟨(some 9), (.mv (.t 0)), (some (7, true))⟩,
    ⟨(some 10), (.call 17 [(.t 9)]), (some (7, true))⟩,
    ⟨(some 11), (.bin .lss (.t 8) (.t 10)), (some (7, true))⟩,
    ⟨(some 12), (.pick (.t 7) (.t 11) (.c (.p (.s (.bool false))))), none⟩,
    ⟨(some 4), (.mv (.t 12)), none⟩] none [4])
  .ret)), [(4, none)], false⟩
/-- bytes.Clone -/
def ir28 : IRF := ⟨[0], (.seq (.region [⟨(some 2), (.mv (.c (.p (.s (.slice none 0 0))))), none⟩] none [0])
  (.seq (.seq (.region [⟨(some 3), (.mv (.t 0)), none⟩,
    ⟨(some 4), (.eq false .slice (.t 3) (.c (.p (.s (.slice none 0 0))))), none⟩] none [0, 4])
  (.cond (.t 4) (.seq (.region [⟨(some 2), (.mv (.c (.p (.s (.slice none 0 0))))), none⟩] none [2])
  .ret) .skip))
  (.seq (.region [⟨(some 5), (.mkSl 0 1 [] []), none⟩,
    ⟨(some 6), (.mv (.t 0)), none⟩,
    ⟨(some 7), (.app 1 1 (.t 5) (.t 6)), none⟩,
    ⟨(some 2), (.mv (.t 7)), none⟩] none [2])
  .ret))), [(2, none)], true⟩
/-- kinfolk/note.Read -/
def ir29 : IRF := ⟨[0], (.seq (.region [⟨(some 2), (.alloc false [(.s (.int .i64 0)), (.s (.int .i64 0)), (.s (.int .i64 0)), (.s (.int .u64 0)), (.s (.int .i64 0)), (.s (.bool false)), (.s (.int .u64 0)), (.s (.pointer none)), (.s (.slice none 0 0)), (.s (.int .u64 0)), (.s (.int .i64 0)), (.s (.int .i64 0)), (.s (.bool false)), (.s (.pointer none)), (.s (.int .u64 0))]), none⟩,
    ⟨(some 3), (.mv (.c (.p (.s (.int .i64 0))))), none⟩] none [0, 2])
  (.seq (.region [⟨(some 10), (.mv (.t 0)), none⟩,
    ⟨(some 11), (.call 39 [(.t 10)]), none⟩,
    ⟨(some 9), (.mv (.t 11)), none⟩,
    ⟨(some 12), (.ext (.t 9) 0), none⟩,
    ⟨(some 13), (.ext (.t 9) 1), none⟩,
    ⟨(some 14), (.ext (.t 9) 2), none⟩,
    ⟨(some 4), (.mv (.t 12)), none⟩,
    ⟨(some 5), (.mv (.t 13)), none⟩,
    ⟨(some 6), (.mv (.t 14)), none⟩] none [0, 2, 4, 5, 6])
  (.seq (.seq (.region [⟨(some 15), (.mv (.t 6)), none⟩,
    ⟨(some 16), (.bin .neq (.t 15) (.c (.p (.s (.int .i64 0))))), none⟩] none [0, 2, 4, 5, 6, 16])
  (.cond (.t 16) (.seq (.region [⟨(some 17), (.build [(.s (.int .i64 0)), (.s (.int .i64 0)), (.s (.int .i64 0)), (.s (.int .u64 0)), (.s (.int .i64 0)), (.s (.bool false)), (.s (.int .u64 0)), (.s (.pointer none)), (.s (.slice none 0 0)), (.s (.int .u64 0)), (.s (.int .i64 0)), (.s (.int .i64 0)), (.s (.bool false)), (.s (.pointer none)), (.s (.int .u64 0))] []), none⟩,
    ⟨(some 18), (.mv (.t 6)), none⟩,
    ⟨none, (.store 15 (.t 2) (.t 17)), none⟩,
    ⟨(some 3), (.mv (.t 18)), none⟩] none [2, 3])
  .ret) .skip))
  (.seq (.region [⟨(some 19), (.mv (.t 4)), none⟩,
    ⟨(some 20), (.call 40 [(.t 19)]), none⟩,
    ⟨(some 7), (.mv (.t 20)), none⟩] none [0, 2, 5, 7])
  (.seq (.region [⟨(some 21), (.mv (.t 7)), none⟩,
    ⟨(some 22), (.call 41 [(.t 21)]), none⟩,
    ⟨(some 8), (.alloc false [(.s (.int .i64 0)), (.s (.int .i64 0)), (.s (.int .i64 0)), (.s (.int .u64 0)), (.s (.int .i64 0)), (.s (.bool false)), (.s (.int .u64 0)), (.s (.pointer none)), (.s (.slice none 0 0)), (.s (.int .u64 0)), (.s (.int .i64 0)), (.s (.int .i64 0)), (.s (.bool false)), (.s (.pointer none)), (.s (.int .u64 0))]), none⟩,
    ⟨none, (.store 15 (.t 8) (.t 22)), none⟩] none [0, 2, 5, 7, 8])
  (.seq (.seq (.region [⟨(some 23), (.mv (.t 5)), none⟩,
    ⟨(some 24), (.mv (.t 0)), none⟩,
    ⟨(some 25), (.len false (.t 24)), none⟩,
    ⟨(some 26), (.bin .neq (.t 23) (.t 25)), none⟩,
    ⟨(some 27), (.mv (.t 26)), none⟩,
    ⟨(some 28), (.mv (.t 7)), (some (27, false))⟩,
    ⟨(some 29), (.call 42 [(.t 28)]), (some (27, false))⟩,
    ⟨(some 30), (.bin .neq (.t 29) (.c (.p (.s (.int .i64 0))))), (some (27, false))⟩,
    ⟨(some 31), (.pick (.t 27) (.c (.p (.s (.bool true)))) (.t 30)), none⟩,
    ⟨(some 32), (.mv (.t 31)), none⟩,
    ⟨(some 33), (.load 15 true (.t 8)), (some (32, false))⟩,
    ⟨(some 34), (.call 43 [(.t 33)]), (some (32, false))⟩,
    ⟨(some 35), (.un .not (.t 34)), (some (32, false))⟩,
    ⟨(some 36), (.pick (.t 32) (.c (.p (.s (.bool true)))) (.t 35)), none⟩] none [2, 8, 36])
  (.cond (.t 36) (.seq (.region [⟨(some 37), (.build [(.s (.int .i64 0)), (.s (.int .i64 0)), (.s (.int .i64 0)), (.s (.int .u64 0)), (.s (.int .i64 0)), (.s (.bool false)), (.s (.int .u64 0)), (.s (.pointer none)), (.s (.slice none 0 0)), (.s (.int .u64 0)), (.s (.int .i64 0)), (.s (.int .i64 0)), (.s (.bool false)), (.s (.pointer none)), (.s (.int .u64 0))] []), none⟩,
    ⟨none, (.store 15 (.t 2) (.t 37)), none⟩,
    ⟨(some 3), (.mv (.c (.p (.s (.int .i64 6))))), none⟩] none [2, 3])
  .ret) .skip))
  (.seq (.region [⟨(some 38), (.load 15 true (.t 8)), none⟩,
    ⟨none, (.store 15 (.t 2) (.t 38)), none⟩,
    ⟨(some 3), (.mv (.c (.p (.s (.int .i64 0))))), none⟩] none [2, 3])
  .ret))))))), [(2, some (15, true)), (3, none)], false⟩
/-- (kinfolk/note.Note).Bytes -/
def ir30 : IRF := ⟨[0], (.seq (.region [⟨(some 1), (.box false (.t 0)), none⟩,
    ⟨(some 2), (.mv (.c (.p (.s (.slice none 0 0))))), none⟩,
    ⟨(some 3), (.mv (.c (.p (.s (.int .i64 0))))), none⟩] none [1])
  (.seq (.seq (.region [⟨(some 7), (.load 15 true (.t 1)), none⟩,
    ⟨(some 8), (.call 43 [(.t 7)]), none⟩,
    ⟨(some 9), (.un .not (.t 8)), none⟩] none [1, 9])
  (.cond (.t 9) (.seq (.region [⟨(some 2), (.mv (.c (.p (.s (.slice none 0 0))))), none⟩,
    ⟨(some 3), (.mv (.c (.p (.s (.int .i64 1))))), none⟩] none [2, 3])
  .ret) .skip))
  (.seq (.region [⟨(some 10), (.fieldAddr 0 (.t 1)), none⟩,
    ⟨(some 11), (.load 1 false (.t 10)), none⟩,
    ⟨(some 12), (.call 44 [(.t 11)]), none⟩,
    ⟨(some 4), (.mv (.t 12)), none⟩] none [1, 4])
  (.seq (.region [⟨(some 13), (.fieldAddr 0 (.t 1)), none⟩,
    ⟨(some 14), (.load 1 false (.t 13)), none⟩,
    ⟨(some 15), (.cvt .u8 (.t 14)), none⟩,
    ⟨(some 16), (.fieldAddr 1 (.t 1)), none⟩,
    ⟨(some 17), (.load 1 false (.t 16)), none⟩,
    ⟨(some 18), (.cvt .u8 (.t 17)), none⟩,
    ⟨(some 19), (.fieldAddr 2 (.t 1)), none⟩,
    ⟨(some 20), (.load 1 false (.t 19)), none⟩,
    ⟨(some 21), (.cvt .u8 (.t 20)), none⟩,
    ⟨(some 22), (.mkSl 3 1 [(.s (.int .u8 0)), (.s (.int .u8 0)), (.s (.int .u8 0))] [(0, 1, (.t 15)), (1, 1, (.t 18)), (2, 1, (.t 21))]), none⟩,
    ⟨(some 5), (.mv (.t 22)), none⟩] none [1, 4, 5])
  (.seq (.seq (.region [⟨(some 23), (.mv (.t 4)), none⟩,
    ⟨(some 24), (.bin .and (.t 23) (.c (.p (.s (.int .i64 1))))), none⟩,
    ⟨(some 25), (.bin .gtr (.t 24) (.c (.p (.s (.int .i64 0))))), none⟩] none [1, 4, 5, 25])
  (.cond (.t 25) (.region [⟨(some 26), (.mv (.t 5)), none⟩,
    ⟨(some 27), (.fieldAddr 3 (.t 1)), none⟩,
    ⟨(some 28), (.load 1 false (.t 27)), none⟩,
    ⟨(some 29), (.call 45 [(.t 26), (.t 28)]), none⟩,
    ⟨(some 5), (.mv (.t 29)), none⟩] none [1, 4, 5]) .skip))
  (.seq (.seq (.region [⟨(some 30), (.mv (.t 4)), none⟩,
    ⟨(some 31), (.bin .and (.t 30) (.c (.p (.s (.int .i64 2))))), none⟩,
    ⟨(some 32), (.bin .gtr (.t 31) (.c (.p (.s (.int .i64 0))))), none⟩] none [1, 4, 5, 32])
  (.cond (.t 32) (.region [⟨(some 33), (.mv (.t 5)), none⟩,
    ⟨(some 34), (.fieldAddr 4 (.t 1)), none⟩,
    ⟨(some 35), (.load 1 false (.t 34)), none⟩,
    ⟨(some 36), (.cvt .u8 (.t 35)), none⟩,
    ⟨(some 37), (.mkSl 1 1 [(.s (.int .u8 0))] [(0, 1, (.t 36))]), none⟩,
    ⟨(some 38), (.app 1 1 (.t 33) (.t 37)), none⟩,
    ⟨(some 5), (.mv (.t 38)), none⟩] none [1, 4, 5]) .skip))
  (.seq (.seq (.region [⟨(some 39), (.mv (.t 4)), none⟩,
    ⟨(some 40), (.bin .and (.t 39) (.c (.p (.s (.int .i64 16))))), none⟩,
    ⟨(some 41), (.bin .gtr (.t 40) (.c (.p (.s (.int .i64 0))))), none⟩] none [1, 4, 5, 41])
  (.cond (.t 41) (.seq (.region [⟨(some 6), (.mv (.c (.p (.s (.int .u8 0))))), none⟩] none [1, 4, 5, 6])
  (.seq (.seq (.region [⟨(some 42), (.fieldAddr 5 (.t 1)), none⟩,
    ⟨(some 43), (.load 1 false (.t 42)), none⟩] none [1, 4, 5, 6, 43])
  (.cond (.t 43) (.region [⟨(some 6), (.mv (.c (.p (.s (.int .u8 1))))), none⟩] none [1, 4, 5, 6]) .skip))
  (.region [⟨(some 44), (.mv (.t 5)), none⟩,
    ⟨(some 45), (.mv (.t 6)), none⟩,
    ⟨(some 46), (.mkSl 1 1 [(.s (.int .u8 0))] [(0, 1, (.t 45))]), none⟩,
    ⟨(some 47), (.app 1 1 (.t 44) (.t 46)), none⟩,
    ⟨(some 5), (.mv (.t 47)), none⟩] none [1, 4, 5]))) .skip))
  (.seq (.seq (.region [⟨(some 48), (.mv (.t 4)), none⟩,
    ⟨(some 49), (.bin .and (.t 48) (.c (.p (.s (.int .i64 32))))), none⟩,
    ⟨(some 50), (.bin .gtr (.t 49) (.c (.p (.s (.int .i64 0))))), none⟩] none [1, 4, 5, 50])
  (.cond (.t 50) (.region [⟨(some 51), (.mv (.t 5)), none⟩,
    ⟨(some 52), (.fieldAddr 9 (.t 1)), none⟩,
    ⟨(some 53), (.load 5 true (.t 52)), none⟩,
    ⟨(some 54), (.call 46 [(.t 51), (.t 53)]), none⟩,
    ⟨(some 5), (.mv (.t 54)), none⟩] none [1, 4, 5]) .skip))
  (.seq (.seq (.region [⟨(some 55), (.mv (.t 4)), none⟩,
    ⟨(some 56), (.bin .and (.t 55) (.c (.p (.s (.int .i64 8))))), none⟩,
    ⟨(some 57), (.bin .gtr (.t 56) (.c (.p (.s (.int .i64 0))))), none⟩] none [1, 4, 5, 57])
  (.cond (.t 57) (.region [⟨(some 58), (.mv (.t 5)), none⟩,
    ⟨(some 59), (.fieldAddr 6 (.t 1)), none⟩,
    ⟨(some 60), (.load 2 true (.t 59)), none⟩,
    ⟨(some 61), (.call 48 [(.t 60)]), none⟩,
    ⟨(some 62), (.b2s (.t 61)), none⟩,
    ⟨(some 63), (.call 47 [(.t 58), (.t 62)]), none⟩,
    ⟨(some 5), (.mv (.t 63)), none⟩] none [1, 4, 5]) .skip))
  (.seq (.seq (.region [⟨(some 64), (.mv (.t 4)), none⟩,
    ⟨(some 65), (.bin .and (.t 64) (.c (.p (.s (.int .i64 4))))), none⟩,
    ⟨(some 66), (.bin .gtr (.t 65) (.c (.p (.s (.int .i64 0))))), none⟩] none [1, 4, 5, 66])
  (.cond (.t 66) (.region [⟨(some 67), (.mv (.t 5)), none⟩,
    ⟨(some 68), (.fieldAddr 8 (.t 1)), none⟩,
    ⟨(some 69), (.load 1 false (.t 68)), none⟩,
    ⟨(some 70), (.call 49 [(.t 67), (.t 69)]), none⟩,
    ⟨(some 5), (.mv (.t 70)), none⟩] none [1, 4, 5]) .skip))
  (.seq (.seq (.region [⟨(some 71), (.mv (.t 4)), none⟩,
    ⟨(some 72), (.bin .and (.t 71) (.c (.p (.s (.int .i64 64))))), none⟩,
    ⟨(some 73), (.bin .gtr (.t 72) (.c (.p (.s (.int .i64 0))))), none⟩] none [1, 5, 73])
  (.cond (.t 73) (.region [⟨(some 74), (.mv (.t 5)), none⟩,
    ⟨(some 75), (.fieldAddr 14 (.t 1)), none⟩,
    ⟨(some 76), (.load 1 false (.t 75)), none⟩,
    ⟨(some 77), (.call 45 [(.t 74), (.t 76)]), none⟩,
    ⟨(some 5), (.mv (.t 77)), none⟩] none [5]) .skip))
  (.seq (.seq (.region [⟨(some 78), (.mv (.t 5)), none⟩,
    ⟨(some 79), (.len false (.t 78)), none⟩,
    ⟨(some 80), (.bin .gtr (.t 79) (.c (.p (.s (.int .i64 1048576))))), none⟩] none [5, 80])
  (.cond (.t 80) (.seq (.region [⟨(some 2), (.mv (.c (.p (.s (.slice none 0 0))))), none⟩,
    ⟨(some 3), (.mv (.c (.p (.s (.int .i64 9))))), none⟩] none [2, 3])
  .ret) .skip))
  (.seq (.region [⟨(some 81), (.mv (.t 5)), none⟩,
    ⟨(some 82), (.call 50 [(.t 81)]), none⟩,
    ⟨(some 2), (.mv (.t 82)), none⟩,
    ⟨(some 3), (.mv (.c (.p (.s (.int .i64 0))))), none⟩] none [2, 3])
  .ret))))))))))))), [(2, none), (3, none)], false⟩
/-- slices.Delete[[]kinfolk/net.frame,kinfolk/net.frame] -/
def ir31 : IRF := ⟨[0, 1, 2], (.seq (.region [⟨(some 6), (.mv (.c (.p (.s (.slice none 0 0))))), none⟩] none [0, 1, 2])
  (.seq (.region [⟨(some 8), (.mv (.t 0)), none⟩,
    ⟨(some 9), (.mv (.t 1)), none⟩,
    ⟨(some 10), (.mv (.t 2)), none⟩,
    ⟨(some 11), (.mv (.t 0)), none⟩,
    ⟨(some 12), (.len false (.t 11)), none⟩,
    ⟨(some 13), (.slSl 2 (.t 8) (some (.t 9)) (some (.t 10)) (some (.t 12))), none⟩] none [0, 1, 2])
  (.seq (.seq (.region [⟨(some 14), (.mv (.t 1)), none⟩,
    ⟨(some 15), (.mv (.t 2)), none⟩,
    ⟨(some 16), (.bin .eql (.t 14) (.t 15)), none⟩] none [0, 1, 2, 16])
  (.cond (.t 16) (.seq (.region [⟨(some 17), (.mv (.t 0)), none⟩,
    ⟨(some 6), (.mv (.t 17)), none⟩] none [6])
  .ret) .skip))
  (.seq (.region [⟨(some 18), (.mv (.t 0)), none⟩,
    ⟨(some 19), (.len false (.t 18)), none⟩,
    ⟨(some 7), (.mv (.t 19)), none⟩] none [0, 1, 2, 7])
  (.seq (.region [⟨(some 20), (.mv (.t 0)), none⟩,
    ⟨(some 21), (.mv (.t 1)), none⟩,
    ⟨(some 22), (.slSl 2 (.t 20) none (some (.t 21)) none), none⟩,
    ⟨(some 23), (.mv (.t 0)), none⟩,
    ⟨(some 24), (.mv (.t 2)), none⟩,
    ⟨(some 25), (.slSl 2 (.t 23) (some (.t 24)) none none), none⟩,
    ⟨(some 26), (.app 2 32 (.t 22) (.t 25)), none⟩,
    ⟨(some 0), (.mv (.t 26)), none⟩] (some [0, 0, 3, 0, 0, 24, 63, 127]) [0, 7])
  (.seq (.region [⟨(some 27), (.mv (.t 0)), none⟩,
    ⟨(some 28), (.mv (.t 0)), none⟩,
    ⟨(some 29), (.len false (.t 28)), none⟩,
    ⟨(some 30), (.mv (.t 7)), none⟩,
    ⟨(some 31), (.slSl 2 (.t 27) (some (.t 29)) (some (.t 30)) none), none⟩,
    ⟨none, (.clr 2 [(.s (.slice none 0 0)), (.s (.int .i64 0))] (.t 31)), none⟩] none [0])
  (.seq (.region [⟨(some 32), (.mv (.t 0)), none⟩,
    ⟨(some 6), (.mv (.t 32)), none⟩] none [6])
  .ret))))))), [(6, none)], true⟩
/-- slices.DeleteFunc[[]kinfolk/net.frame,kinfolk/net.frame] -/
def ir32_0 : IRC := (.seq (.seq (.region [⟨(some 16), (.mv (.t 6)), none⟩,
    ⟨(some 17), (.mv (.t 0)), none⟩,
    ⟨(some 18), (.len false (.t 17)), none⟩,
    ⟨(some 19), (.bin .lss (.t 16) (.t 18)), none⟩] none [0, 1, 5, 6, 19])
  (.cond (.t 19) .skip (.exit 0)))
  (.seq (.block 1 (.seq (.region [⟨(some 22), (.mv (.t 0)), none⟩,
    ⟨(some 23), (.mv (.t 6)), none⟩,
    ⟨(some 24), (.idxASl 2 (.t 22) (.t 23)), none⟩,
    ⟨(some 25), (.load 2 true (.t 24)), none⟩,
    ⟨(some 7), (.alloc false [(.s (.slice none 0 0)), (.s (.int .i64 0))]), none⟩,
    ⟨none, (.store 2 (.t 7) (.t 25)), none⟩] none [0, 1, 5, 6, 7])
  (.seq (.region [⟨(some 26), (.mv (.t 1)), none⟩,
    ⟨(some 27), (.load 2 true (.t 7)), none⟩,
    ⟨(some 28), (.callv (.t 26) [(.t 27)]), none⟩,
    ⟨(some 29), (.un .not (.t 28)), none⟩] none [0, 1, 5, 6, 7, 29])
  (.cond (.t 29) (.seq (.region [⟨(some 30), (.mv (.t 0)), none⟩,
    ⟨(some 31), (.mv (.t 5)), none⟩,
    ⟨(some 32), (.load 2 true (.t 7)), none⟩,
    ⟨(some 33), (.idxASl 2 (.t 30) (.t 31)), none⟩,
    ⟨none, (.store 2 (.t 33) (.t 32)), none⟩] none [0, 1, 5, 6])
  (.region [⟨(some 34), (.mv (.t 5)), none⟩,
    ⟨(some 35), (.bin .add (.t 34) (.c (.p (.s (.int .i64 1))))), none⟩,
    ⟨(some 5), (.mv (.t 35)), none⟩] none [0, 1, 5, 6])) .skip))))
  (.region [⟨(some 20), (.mv (.t 6)), none⟩,
    ⟨(some 21), (.bin .add (.t 20) (.c (.p (.s (.int .i64 1))))), none⟩,
    ⟨(some 6), (.mv (.t 21)), none⟩] none [0, 1, 5, 6])))
def ir32 : IRF := ⟨[0, 1], (.seq (.region [⟨(some 4), (.mv (.c (.p (.s (.slice none 0 0))))), none⟩] none [0, 1])
  (.seq (.region [⟨(some 8), (.mv (.t 0)), none⟩,
    ⟨(some 9), (.mv (.t 1)), none⟩,
    ⟨(some 10), (.call 51 [(.t 8), (.t 9)]), none⟩,
    ⟨(some 5), (.mv (.t 10)), none⟩] none [0, 1, 5])
  (.seq (.seq (.region [⟨(some 11), (.mv (.t 5)), none⟩,
    ⟨(some 12), (.bin .eql (.t 11) (.c (.p (.s (.int .i64 (-1)))))), none⟩] none [0, 1, 5, 12])
  (.cond (.t 12) (.seq (.region [⟨(some 13), (.mv (.t 0)), none⟩,
    ⟨(some 4), (.mv (.t 13)), none⟩] none [4])
  .ret) .skip))
  (.seq (.seq (.region [⟨(some 14), (.mv (.t 5)), none⟩,
    ⟨(some 15), (.bin .add (.t 14) (.c (.p (.s (.int .i64 1))))), none⟩,
    ⟨(some 6), (.mv (.t 15)), none⟩] none [0, 1, 5, 6])
  (.block 0 (.loop ir32_0)))
  (.seq (.region [⟨(some 36), (.mv (.t 0)), none⟩,
    ⟨(some 37), (.mv (.t 5)), none⟩,
    ⟨(some 38), (.slSl 2 (.t 36) (some (.t 37)) none none), none⟩,
    ⟨none, (.clr 2 [(.s (.slice none 0 0)), (.s (.int .i64 0))] (.t 38)), none⟩] none [0, 5])
  (.seq (.region [⟨(some 39), (.mv (.t 0)), none⟩,
    ⟨(some 40), (.mv (.t 5)), none⟩,
    ⟨(some 41), (.slSl 2 (.t 39) none (some (.t 40)) none), none⟩,
    ⟨(some 4), (.mv (.t 41)), none⟩] none [4])
  .ret)))))), [(4, none)], true⟩
/-- (*kinfolk/net.Net).Clear$1 -/
def ir33 : IRF := ⟨[0, 1], (.seq (.region [⟨(some 2), (.box false (.t 0)), none⟩,
    ⟨(some 3), (.mv (.c (.p (.s (.bool false))))), none⟩] none [1, 2])
  (.seq (.region [⟨(some 4), (.fieldAddr 1 (.t 2)), none⟩,
    ⟨(some 5), (.load 1 false (.t 4)), none⟩,
    ⟨(some 6), (.load 1 false (.t 1)), none⟩,
    ⟨(some 7), (.bin .eql (.t 5) (.t 6)), none⟩,
    ⟨(some 3), (.mv (.t 7)), none⟩] none [3])
  .ret)), [(3, none)], false⟩
/-- kinfolk/kinfolkref20.has -/
def ir34 : IRF := ⟨[0, 1], (.seq (.region [⟨(some 4), (.mv (.c (.p (.s (.bool false))))), none⟩] none [0, 1])
  (.seq (.region [⟨(some 5), (.mv (.t 1)), none⟩,
    ⟨(some 6), (.bin .geq (.t 5) (.c (.p (.s (.int .i64 0))))), none⟩,
    ⟨(some 7), (.mv (.t 6)), none⟩,
    ⟨(some 8), (.mv (.t 1)), (some (7, true))⟩,
    ⟨(some 9), (.mv (.t 0)), (some (7, true))⟩,
    ⟨(some 10), (.nilCk (.t 9)), (some (7, true))⟩,
    ⟨(some 11), (.fieldAddr 0 (.t 10)), (some (7, true))⟩,
    ⟨(some 12), (.load 1 false (.t 11)), (some (7, true))⟩,
    ⟨(some 13), (.len false (.t 12)), (some (7, true))⟩,
    ⟨(some 14), (.bin .lss (.t 8) (.t 13)), (some (7, true))⟩,
    ⟨(some 15), (.pick (.t 7) (.t 14) (.c (.p (.s (.bool false))))), none⟩,
    ⟨(some 4), (.mv (.t 15)), none⟩] none [4])
  .ret)), [(4, none)], false⟩
/-- kinfolk/kinfolkref17.Read -/
def ir35 : IRF := ⟨[0], (.seq (.region [⟨(some 2), (.alloc false [(.s (.int .i64 0)), (.s (.int .i64 0)), (.s (.int .i64 0)), (.s (.int .u64 0)), (.s (.int .i64 0)), (.s (.bool false)), (.s (.pointer none)), (.s (.slice none 0 0)), (.s (.int .u64 0)), (.s (.int .i64 0)), (.s (.int .i64 0)), (.s (.pointer none)), (.s (.int .u64 0)), (.s (.slice none 0 0))]), none⟩,
    ⟨(some 3), (.mv (.c (.p (.s (.int .i64 0))))), none⟩] none [0, 2])
  (.seq (.region [⟨(some 16), (.call 23 [(.c (.p (.s (.int .i64 0)))), (.c (.p (.s (.int .i64 0)))), (.c (.p (.s (.int .i64 0))))]), none⟩,
    ⟨(some 4), (.alloc false [(.s (.int .i64 0)), (.s (.int .i64 0)), (.s (.int .i64 0)), (.s (.int .u64 0)), (.s (.int .i64 0)), (.s (.bool false)), (.s (.pointer none)), (.s (.slice none 0 0)), (.s (.int .u64 0)), (.s (.int .i64 0)), (.s (.int .i64 0)), (.s (.pointer none)), (.s (.int .u64 0)), (.s (.slice none 0 0))]), none⟩,
    ⟨none, (.store 14 (.t 4) (.t 16)), none⟩] none [0, 2, 4])
  (.seq (.region [⟨(some 18), (.mv (.t 0)), none⟩,
    ⟨(some 19), (.call 52 [(.t 18)]), none⟩,
    ⟨(some 17), (.mv (.t 19)), none⟩,
    ⟨(some 20), (.ext (.t 17) 0), none⟩,
    ⟨(some 21), (.ext (.t 17) 1), none⟩,
    ⟨(some 22), (.ext (.t 17) 2), none⟩,
    ⟨(some 5), (.mv (.t 20)), none⟩,
    ⟨(some 6), (.mv (.t 21)), none⟩,
    ⟨(some 7), (.mv (.t 22)), none⟩] none [0, 2, 4, 5, 6, 7])
  (.seq (.seq (.region [⟨(some 23), (.mv (.t 7)), none⟩,
    ⟨(some 24), (.bin .neq (.t 23) (.c (.p (.s (.int .i64 0))))), none⟩] none [0, 2, 4, 5, 6, 7, 24])
  (.cond (.t 24) (.seq (.region [⟨(some 25), (.load 14 true (.t 4)), none⟩,
    ⟨(some 26), (.mv (.t 7)), none⟩,
    ⟨none, (.store 14 (.t 2) (.t 25)), none⟩,
    ⟨(some 3), (.mv (.t 26)), none⟩] none [2, 3])
  .ret) .skip))
  (.seq (.region [⟨(some 27), (.mv (.t 5)), none⟩,
    ⟨(some 28), (.build [(.s (.slice none 0 0)), (.s (.int .i64 0)), (.s (.int .i64 0))] [(0, 1, (.t 27))]), none⟩,
    ⟨(some 29), (.box false (.t 28)), none⟩,
    ⟨(some 8), (.mv (.t 29)), none⟩] none [0, 2, 4, 6, 8])
  (.seq (.region [⟨(some 30), (.mv (.t 8)), none⟩,
    ⟨(some 31), (.call 53 [(.t 30)]), none⟩,
    ⟨(some 32), (.cvt .i64 (.t 31)), none⟩,
    ⟨(some 9), (.mv (.t 32)), none⟩] none [0, 2, 4, 6, 8, 9])
  (.seq (.region [⟨(some 33), (.mv (.t 8)), none⟩,
    ⟨(some 34), (.call 53 [(.t 33)]), none⟩,
    ⟨(some 35), (.cvt .i64 (.t 34)), none⟩,
    ⟨(some 10), (.mv (.t 35)), none⟩] none [0, 2, 4, 6, 8, 9, 10])
  (.seq (.region [⟨(some 36), (.mv (.t 9)), none⟩,
    ⟨(some 37), (.mv (.t 10)), none⟩,
    ⟨(some 38), (.mv (.t 8)), none⟩,
    ⟨(some 39), (.call 53 [(.t 38)]), none⟩,
    ⟨(some 40), (.cvt .i64 (.t 39)), none⟩,
    ⟨(some 41), (.call 23 [(.t 36), (.t 37), (.t 40)]), none⟩,
    ⟨(some 11), (.alloc false [(.s (.int .i64 0)), (.s (.int .i64 0)), (.s (.int .i64 0)), (.s (.int .u64 0)), (.s (.int .i64 0)), (.s (.bool false)), (.s (.pointer none)), (.s (.slice none 0 0)), (.s (.int .u64 0)), (.s (.int .i64 0)), (.s (.int .i64 0)), (.s (.pointer none)), (.s (.int .u64 0)), (.s (.slice none 0 0))]), none⟩,
    ⟨none, (.store 14 (.t 11) (.t 41)), none⟩] none [0, 2, 4, 6, 8, 11])
  (.seq (.seq (.region [⟨(some 42), (.fieldAddr 0 (.t 11)), none⟩,
    ⟨(some 43), (.load 1 false (.t 42)), none⟩,
    ⟨(some 44), (.bin .lss (.t 43) (.c (.p (.s (.int .i64 1))))), none⟩,
    ⟨(some 45), (.mv (.t 44)), none⟩,
    ⟨(some 46), (.fieldAddr 0 (.t 11)), (some (45, false))⟩,
    ⟨(some 47), (.load 1 false (.t 46)), (some (45, false))⟩,
    ⟨(some 48), (.bin .gtr (.t 47) (.c (.p (.s (.int .i64 7))))), (some (45, false))⟩,
    ⟨(some 49), (.pick (.t 45) (.c (.p (.s (.bool true)))) (.t 48)), none⟩] none [0, 2, 4, 6, 8, 11, 49])
  (.cond (.t 49) (.seq (.region [⟨(some 50), (.load 14 true (.t 4)), none⟩,
    ⟨none, (.store 14 (.t 2) (.t 50)), none⟩,
    ⟨(some 3), (.mv (.c (.p (.s (.int .i64 6))))), none⟩] none [2, 3])
  .ret) .skip))
  (.seq (.region [⟨(some 12), (.mv (.c (.p (.s (.bool true))))), none⟩] none [0, 2, 4, 6, 8, 11, 12])
  (.seq (.seq (.region [⟨(some 51), (.fieldAddr 0 (.t 11)), none⟩,
    ⟨(some 52), (.load 1 false (.t 51)), none⟩,
    ⟨(some 53), (.bin .lss (.t 52) (.c (.p (.s (.int .i64 5))))), none⟩] none [0, 2, 4, 6, 8, 11, 12, 53])
  (.cond (.t 53) (.region [⟨(some 54), (.mv (.t 8)), none⟩,
    ⟨(some 55), (.call 54 [(.t 54)]), none⟩,
    ⟨(some 56), (.fieldAddr 3 (.t 11)), none⟩,
    ⟨none, (.store 1 (.t 56) (.t 55)), none⟩] none [0, 2, 4, 6, 8, 11, 12]) .skip))
  (.seq (.seq (.region [⟨(some 57), (.fieldAddr 0 (.t 11)), none⟩,
    ⟨(some 58), (.load 1 false (.t 57)), none⟩,
    ⟨(some 59), (.bin .eql (.t 58) (.c (.p (.s (.int .i64 3))))), none⟩,
    ⟨(some 60), (.mv (.t 59)), none⟩,
    ⟨(some 61), (.fieldAddr 0 (.t 11)), (some (60, false))⟩,
    ⟨(some 62), (.load 1 false (.t 61)), (some (60, false))⟩,
    ⟨(some 63), (.bin .eql (.t 62) (.c (.p (.s (.int .i64 4))))), (some (60, false))⟩,
    ⟨(some 64), (.pick (.t 60) (.c (.p (.s (.bool true)))) (.t 63)), none⟩] none [0, 2, 4, 6, 8, 11, 12, 64])
  (.cond (.t 64) (.region [⟨(some 65), (.mv (.t 8)), none⟩,
    ⟨(some 66), (.call 53 [(.t 65)]), none⟩,
    ⟨(some 67), (.cvt .i64 (.t 66)), none⟩,
    ⟨(some 68), (.fieldAddr 4 (.t 11)), none⟩,
    ⟨none, (.store 1 (.t 68) (.t 67)), none⟩] none [0, 2, 4, 6, 8, 11, 12]) .skip))
  (.seq (.seq (.region [⟨(some 69), (.fieldAddr 0 (.t 11)), none⟩,
    ⟨(some 70), (.load 1 false (.t 69)), none⟩,
    ⟨(some 71), (.bin .eql (.t 70) (.c (.p (.s (.int .i64 3))))), none⟩] none [0, 2, 4, 6, 8, 11, 12, 71])
  (.cond (.t 71) (.seq (.region [⟨(some 72), (.mv (.t 8)), none⟩,
    ⟨(some 73), (.call 53 [(.t 72)]), none⟩,
    ⟨(some 13), (.mv (.t 73)), none⟩] none [0, 2, 4, 6, 8, 11, 13])
  (.seq (.region [⟨(some 74), (.mv (.t 13)), none⟩,
    ⟨(some 75), (.bin .lss (.t 74) (.c (.p (.s (.int .u8 2))))), none⟩,
    ⟨(some 12), (.mv (.t 75)), none⟩] none [0, 2, 4, 6, 8, 11, 12, 13])
  (.region [⟨(some 76), (.mv (.t 13)), none⟩,
    ⟨(some 77), (.bin .eql (.t 76) (.c (.p (.s (.int .u8 1))))), none⟩,
    ⟨(some 78), (.fieldAddr 5 (.t 11)), none⟩,
    ⟨none, (.store 1 (.t 78) (.t 77)), none⟩] none [0, 2, 4, 6, 8, 11, 12]))) .skip))
  (.seq (.seq (.region [⟨(some 79), (.fieldAddr 0 (.t 11)), none⟩,
    ⟨(some 80), (.load 1 false (.t 79)), none⟩,
    ⟨(some 81), (.bin .eql (.t 80) (.c (.p (.s (.int .i64 6))))), none⟩] none [0, 2, 4, 6, 8, 11, 12, 81])
  (.cond (.t 81) (.region [⟨(some 82), (.mv (.t 8)), none⟩,
    ⟨(some 83), (.call 55 [(.t 82)]), none⟩,
    ⟨(some 84), (.fieldAddr 8 (.t 11)), none⟩,
    ⟨none, (.store 4 (.t 84) (.t 83)), none⟩] none [0, 2, 4, 6, 8, 11, 12]) .skip))
  (.seq (.seq (.region [⟨(some 85), (.fieldAddr 0 (.t 11)), none⟩,
    ⟨(some 86), (.load 1 false (.t 85)), none⟩,
    ⟨(some 87), (.bin .lss (.t 86) (.c (.p (.s (.int .i64 4))))), none⟩,
    ⟨(some 88), (.mv (.t 87)), none⟩,
    ⟨(some 89), (.fieldAddr 0 (.t 11)), (some (88, false))⟩,
    ⟨(some 90), (.load 1 false (.t 89)), (some (88, false))⟩,
    ⟨(some 91), (.bin .eql (.t 90) (.c (.p (.s (.int .i64 6))))), (some (88, false))⟩,
    ⟨(some 92), (.pick (.t 88) (.c (.p (.s (.bool true)))) (.t 91)), none⟩] none [0, 2, 4, 6, 8, 11, 12, 92])
  (.cond (.t 92) (.seq (.region [⟨(some 94), (.mv (.t 8)), none⟩,
    ⟨(some 95), (.call 57 [(.t 94), (.c (.p (.s (.int .i64 1048576))))]), none⟩,
    ⟨(some 96), (.s2b (.t 95)), none⟩,
    ⟨(some 97), (.call 56 [(.t 96)]), none⟩,
    ⟨(some 93), (.mv (.t 97)), none⟩,
    ⟨(some 98), (.ext (.t 93) 0), none⟩,
    ⟨(some 99), (.ext (.t 93) 1), none⟩,
    ⟨(some 14), (.mv (.t 98)), none⟩,
    ⟨(some 15), (.mv (.t 99)), none⟩] none [0, 2, 4, 6, 8, 11, 12, 14, 15])
  (.seq (.region [⟨(some 100), (.mv (.t 12)), none⟩,
    ⟨(some 101), (.mv (.t 100)), none⟩,
    ⟨(some 102), (.mv (.t 15)), (some (101, true))⟩,
    ⟨(some 103), (.bin .eql (.t 102) (.c (.p (.s (.int .i64 0))))), (some (101, true))⟩,
    ⟨(some 104), (.pick (.t 101) (.t 103) (.c (.p (.s (.bool false))))), none⟩,
    ⟨(some 12), (.mv (.t 104)), none⟩] none [0, 2, 4, 6, 8, 11, 12, 14])
  (.region [⟨(some 105), (.mv (.t 14)), none⟩,
    ⟨(some 106), (.fieldAddr 6 (.t 11)), none⟩,
    ⟨none, (.store 1 (.t 106) (.t 105)), none⟩] none [0, 2, 4, 6, 8, 11, 12]))) .skip))
  (.seq (.seq (.region [⟨(some 107), (.fieldAddr 0 (.t 11)), none⟩,
    ⟨(some 108), (.load 1 false (.t 107)), none⟩,
    ⟨(some 109), (.bin .eql (.t 108) (.c (.p (.s (.int .i64 3))))), none⟩,
    ⟨(some 110), (.mv (.t 109)), none⟩,
    ⟨(some 111), (.fieldAddr 0 (.t 11)), (some (110, false))⟩,
    ⟨(some 112), (.load 1 false (.t 111)), (some (110, false))⟩,
    ⟨(some 113), (.bin .eql (.t 112) (.c (.p (.s (.int .i64 6))))), (some (110, false))⟩,
    ⟨(some 114), (.pick (.t 110) (.c (.p (.s (.bool true)))) (.t 113)), none⟩] none [0, 2, 4, 6, 8, 11, 12, 114])
  (.cond (.t 114) (.region [⟨(some 115), (.mv (.t 8)), none⟩,
    ⟨(some 116), (.call 58 [(.t 115)]), none⟩,
    ⟨(some 117), (.fieldAddr 7 (.t 11)), none⟩,
    ⟨none, (.store 1 (.t 117) (.t 116)), none⟩] none [0, 2, 4, 6, 8, 11, 12]) .skip))
  (.seq (.seq (.region [⟨(some 118), (.fieldAddr 0 (.t 11)), none⟩,
    ⟨(some 119), (.load 1 false (.t 118)), none⟩,
    ⟨(some 120), (.bin .eql (.t 119) (.c (.p (.s (.int .i64 7))))), none⟩] none [0, 2, 4, 6, 8, 11, 12, 120])
  (.cond (.t 120) (.region [⟨(some 121), (.mv (.t 8)), none⟩,
    ⟨(some 122), (.call 54 [(.t 121)]), none⟩,
    ⟨(some 123), (.fieldAddr 12 (.t 11)), none⟩,
    ⟨none, (.store 1 (.t 123) (.t 122)), none⟩] none [0, 2, 4, 6, 8, 11, 12]) .skip))
  (.seq (.seq (.region [⟨(some 124), (.mv (.t 12)), none⟩,
    ⟨(some 125), (.un .not (.t 124)), none⟩,
    ⟨(some 126), (.mv (.t 125)), none⟩,
    ⟨(some 127), (.mv (.t 6)), (some (126, false))⟩,
    ⟨(some 128), (.mv (.t 0)), (some (126, false))⟩,
    ⟨(some 129), (.len false (.t 128)), (some (126, false))⟩,
    ⟨(some 130), (.bin .neq (.t 127) (.t 129)), (some (126, false))⟩,
    ⟨(some 131), (.pick (.t 126) (.c (.p (.s (.bool true)))) (.t 130)), none⟩,
    ⟨(some 132), (.mv (.t 131)), none⟩,
    ⟨(some 133), (.mv (.t 8)), (some (132, false))⟩,
    ⟨(some 134), (.call 59 [(.t 133)]), (some (132, false))⟩,
    ⟨(some 135), (.bin .neq (.t 134) (.c (.p (.s (.int .i64 0))))), (some (132, false))⟩,
    ⟨(some 136), (.pick (.t 132) (.c (.p (.s (.bool true)))) (.t 135)), none⟩,
    ⟨(some 137), (.mv (.t 136)), none⟩,
    ⟨(some 138), (.load 14 true (.t 11)), (some (137, false))⟩,
    ⟨(some 139), (.call 60 [(.t 138)]), (some (137, false))⟩,
    ⟨(some 140), (.un .not (.t 139)), (some (137, false))⟩,
    ⟨(some 141), (.pick (.t 137) (.c (.p (.s (.bool true)))) (.t 140)), none⟩] none [2, 4, 11, 141])
  (.cond (.t 141) (.seq (.region [⟨(some 142), (.load 14 true (.t 4)), none⟩,
    ⟨none, (.store 14 (.t 2) (.t 142)), none⟩,
    ⟨(some 3), (.mv (.c (.p (.s (.int .i64 6))))), none⟩] none [2, 3])
  .ret) .skip))
  (.seq (.region [⟨(some 143), (.load 14 true (.t 11)), none⟩,
    ⟨none, (.store 14 (.t 2) (.t 143)), none⟩,
    ⟨(some 3), (.mv (.c (.p (.s (.int .i64 0))))), none⟩] none [2, 3])
  .ret))))))))))))))))))), [(2, some (14, true)), (3, none)], false⟩
/-- kinfolk/kinfolkref02.Leaf -/
def ir36 : IRF := ⟨[0], (.seq (.region [⟨(some 2), (.mv (.c (.p (.s (.pointer none))))), none⟩] none [0])
  (.seq (.region [⟨(some 3), (.mv (.t 0)), none⟩,
    ⟨(some 4), (.build [(.s (.int .u64 0)), (.s (.pointer none)), (.s (.pointer none))] [(0, 1, (.t 3))]), none⟩,
    ⟨(some 5), (.box true (.t 4)), none⟩,
    ⟨(some 2), (.mv (.t 5)), none⟩] none [2])
  .ret)), [(2, none)], false⟩
/-- kinfolk/kinfolkref01.Zero -/
def ir37 : IRF := ⟨[], (.seq (.region [⟨(some 0), (.mv (.c (.p (.s (.pointer none))))), none⟩] none [])
  (.seq (.region [⟨(some 1), (.build [(.s (.int .i64 0)), (.s (.pointer none)), (.s (.pointer none))] []), none⟩,
    ⟨(some 2), (.box true (.t 1)), none⟩,
    ⟨(some 0), (.mv (.t 2)), none⟩] none [0])
  .ret)), [(0, none)], false⟩
/-- kinfolk/kinfolkref17.Bytes -/
def ir38 : IRF := ⟨[0], (.seq (.region [⟨(some 1), (.box false (.t 0)), none⟩,
    ⟨(some 2), (.mv (.c (.p (.s (.slice none 0 0))))), none⟩,
    ⟨(some 3), (.mv (.c (.p (.s (.int .i64 0))))), none⟩] none [1])
  (.seq (.seq (.region [⟨(some 8), (.load 14 true (.t 1)), none⟩,
    ⟨(some 9), (.call 60 [(.t 8)]), none⟩,
    ⟨(some 10), (.un .not (.t 9)), none⟩] none [1, 10])
  (.cond (.t 10) (.seq (.region [⟨(some 2), (.mv (.c (.p (.s (.slice none 0 0))))), none⟩,
    ⟨(some 3), (.mv (.c (.p (.s (.int .i64 1))))), none⟩] none [2, 3])
  .ret) .skip))
  (.seq (.region [⟨(some 11), (.fieldAddr 0 (.t 1)), none⟩,
    ⟨(some 12), (.load 1 false (.t 11)), none⟩,
    ⟨(some 13), (.cvt .u8 (.t 12)), none⟩,
    ⟨(some 14), (.fieldAddr 1 (.t 1)), none⟩,
    ⟨(some 15), (.load 1 false (.t 14)), none⟩,
    ⟨(some 16), (.cvt .u8 (.t 15)), none⟩,
    ⟨(some 17), (.fieldAddr 2 (.t 1)), none⟩,
    ⟨(some 18), (.load 1 false (.t 17)), none⟩,
    ⟨(some 19), (.cvt .u8 (.t 18)), none⟩,
    ⟨(some 20), (.mkSl 3 1 [(.s (.int .u8 0)), (.s (.int .u8 0)), (.s (.int .u8 0))] [(0, 1, (.t 13)), (1, 1, (.t 16)), (2, 1, (.t 19))]), none⟩,
    ⟨(some 4), (.mv (.t 20)), none⟩] none [1, 4])
  (.seq (.region [⟨(some 21), (.fieldAddr 3 (.t 1)), none⟩,
    ⟨(some 22), (.load 1 false (.t 21)), none⟩,
    ⟨(some 23), (.call 61 [(.t 22)]), none⟩,
    ⟨(some 5), (.mv (.t 23)), none⟩] none [1, 4, 5])
  (.seq (.region [⟨(some 24), (.fieldAddr 6 (.t 1)), none⟩,
    ⟨(some 25), (.load 1 false (.t 24)), none⟩,
    ⟨(some 26), (.call 64 [(.c (.p (.s (.slice none 0 0)))), (.t 25)]), none⟩,
    ⟨(some 27), (.call 63 [(.t 26)]), none⟩,
    ⟨(some 28), (.b2s (.t 27)), none⟩,
    ⟨(some 29), (.call 62 [(.t 28)]), none⟩,
    ⟨(some 6), (.mv (.t 29)), none⟩] none [1, 4, 5, 6])
  (.seq (.seq (.region [⟨(some 30), (.fieldAddr 0 (.t 1)), none⟩,
    ⟨(some 31), (.load 1 false (.t 30)), none⟩] none [1, 4, 5, 6, 31])
  (.block 0 (.seq (.seq (.region [⟨(some 33), (.bin .eql (.t 31) (.c (.p (.s (.int .i64 1))))), none⟩,
    ⟨(some 32), (.mv (.t 33)), none⟩] none [1, 4, 5, 6, 31, 32])
  (.cond (.t 32) .skip (.region [⟨(some 34), (.bin .eql (.t 31) (.c (.p (.s (.int .i64 2))))), none⟩,
    ⟨(some 32), (.mv (.t 34)), none⟩] none [1, 4, 5, 6, 31, 32])))
  (.cond (.t 32) (.region [⟨(some 35), (.mv (.t 4)), none⟩,
    ⟨(some 36), (.mv (.t 5)), none⟩,
    ⟨(some 37), (.mv (.t 6)), none⟩,
    ⟨(some 38), (.mkSl 3 1 [(.s (.slice none 0 0)), (.s (.slice none 0 0)), (.s (.slice none 0 0))] [(0, 1, (.t 35)), (1, 1, (.t 36)), (2, 1, (.t 37))]), none⟩,
    ⟨(some 39), (.call 65 [(.t 38)]), none⟩,
    ⟨(some 4), (.mv (.t 39)), none⟩] none [4]) (.seq (.region [⟨(some 41), (.bin .eql (.t 31) (.c (.p (.s (.int .i64 3))))), none⟩,
    ⟨(some 40), (.mv (.t 41)), none⟩] none [1, 4, 5, 6, 31, 40])
  (.cond (.t 40) (.seq (.region [⟨(some 7), (.mv (.c (.p (.s (.int .u8 0))))), none⟩] none [1, 4, 5, 6, 7])
  (.seq (.seq (.region [⟨(some 42), (.fieldAddr 5 (.t 1)), none⟩,
    ⟨(some 43), (.load 1 false (.t 42)), none⟩] none [1, 4, 5, 6, 7, 43])
  (.cond (.t 43) (.region [⟨(some 7), (.mv (.c (.p (.s (.int .u8 1))))), none⟩] none [1, 4, 5, 6, 7]) .skip))
  (.region [⟨(some 44), (.mv (.t 4)), none⟩,
    ⟨(some 45), (.mv (.t 5)), none⟩,
    ⟨(some 46), (.fieldAddr 4 (.t 1)), none⟩,
    ⟨(some 47), (.load 1 false (.t 46)), none⟩,
    ⟨(some 48), (.cvt .u8 (.t 47)), none⟩,
    ⟨(some 49), (.mv (.t 7)), none⟩,
    ⟨(some 50), (.mkSl 2 1 [(.s (.int .u8 0)), (.s (.int .u8 0))] [(0, 1, (.t 48)), (1, 1, (.t 49))]), none⟩,
    ⟨(some 51), (.mv (.t 6)), none⟩,
    ⟨(some 52), (.fieldAddr 7 (.t 1)), none⟩,
    ⟨(some 53), (.load 1 false (.t 52)), none⟩,
    ⟨(some 54), (.call 66 [(.t 53)]), none⟩,
    ⟨(some 55), (.mkSl 5 1 [(.s (.slice none 0 0)), (.s (.slice none 0 0)), (.s (.slice none 0 0)), (.s (.slice none 0 0)), (.s (.slice none 0 0))] [(0, 1, (.t 44)), (1, 1, (.t 45)), (2, 1, (.t 50)), (3, 1, (.t 51)), (4, 1, (.t 54))]), none⟩,
    ⟨(some 56), (.call 65 [(.t 55)]), none⟩,
    ⟨(some 4), (.mv (.t 56)), none⟩] (some [0, 0, 0, 4, 12, 0, 60, 0, 0, 256, 768, 2047, 4095, 8191]) [4]))) (.seq (.region [⟨(some 58), (.bin .eql (.t 31) (.c (.p (.s (.int .i64 4))))), none⟩,
    ⟨(some 57), (.mv (.t 58)), none⟩] none [1, 4, 5, 6, 31, 57])
  (.cond (.t 57) (.region [⟨(some 59), (.mv (.t 4)), none⟩,
    ⟨(some 60), (.mv (.t 5)), none⟩,
    ⟨(some 61), (.fieldAddr 4 (.t 1)), none⟩,
    ⟨(some 62), (.load 1 false (.t 61)), none⟩,
    ⟨(some 63), (.cvt .u8 (.t 62)), none⟩,
    ⟨(some 64), (.mkSl 1 1 [(.s (.int .u8 0))] [(0, 1, (.t 63))]), none⟩,
    ⟨(some 65), (.mkSl 3 1 [(.s (.slice none 0 0)), (.s (.slice none 0 0)), (.s (.slice none 0 0))] [(0, 1, (.t 59)), (1, 1, (.t 60)), (2, 1, (.t 64))]), none⟩,
    ⟨(some 66), (.call 65 [(.t 65)]), none⟩,
    ⟨(some 4), (.mv (.t 66)), none⟩] none [4]) (.seq (.region [⟨(some 68), (.bin .eql (.t 31) (.c (.p (.s (.int .i64 6))))), none⟩,
    ⟨(some 67), (.mv (.t 68)), none⟩] none [1, 4, 6, 31, 67])
  (.cond (.t 67) (.region [⟨(some 69), (.mv (.t 4)), none⟩,
    ⟨(some 70), (.fieldAddr 8 (.t 1)), none⟩,
    ⟨(some 71), (.load 4 true (.t 70)), none⟩,
    ⟨(some 72), (.call 67 [(.t 71)]), none⟩,
    ⟨(some 73), (.mv (.t 6)), none⟩,
    ⟨(some 74), (.fieldAddr 7 (.t 1)), none⟩,
    ⟨(some 75), (.load 1 false (.t 74)), none⟩,
    ⟨(some 76), (.call 66 [(.t 75)]), none⟩,
    ⟨(some 77), (.mkSl 4 1 [(.s (.slice none 0 0)), (.s (.slice none 0 0)), (.s (.slice none 0 0)), (.s (.slice none 0 0))] [(0, 1, (.t 69)), (1, 1, (.t 72)), (2, 1, (.t 73)), (3, 1, (.t 76))]), none⟩,
    ⟨(some 78), (.call 65 [(.t 77)]), none⟩,
    ⟨(some 4), (.mv (.t 78)), none⟩] (some [0, 0, 2, 6, 0, 0, 32, 110, 255, 511, 1023]) [4]) (.seq (.region [⟨(some 80), (.bin .eql (.t 31) (.c (.p (.s (.int .i64 7))))), none⟩,
    ⟨(some 79), (.mv (.t 80)), none⟩] none [1, 4, 79])
  (.cond (.t 79) (.region [⟨(some 81), (.mv (.t 4)), none⟩,
    ⟨(some 82), (.fieldAddr 12 (.t 1)), none⟩,
    ⟨(some 83), (.load 1 false (.t 82)), none⟩,
    ⟨(some 84), (.call 61 [(.t 83)]), none⟩,
    ⟨(some 85), (.mkSl 2 1 [(.s (.slice none 0 0)), (.s (.slice none 0 0))] [(0, 1, (.t 81)), (1, 1, (.t 84))]), none⟩,
    ⟨(some 86), (.call 65 [(.t 85)]), none⟩,
    ⟨(some 4), (.mv (.t 86)), none⟩] none [4]) .skip))))))))))))
  (.seq (.seq (.region [⟨(some 87), (.mv (.t 4)), none⟩,
    ⟨(some 88), (.len false (.t 87)), none⟩,
    ⟨(some 89), (.bin .gtr (.t 88) (.c (.p (.s (.int .i64 1048576))))), none⟩] none [4, 89])
  (.cond (.t 89) (.seq (.region [⟨(some 2), (.mv (.c (.p (.s (.slice none 0 0))))), none⟩,
    ⟨(some 3), (.mv (.c (.p (.s (.int .i64 9))))), none⟩] none [2, 3])
  .ret) .skip))
  (.seq (.region [⟨(some 90), (.mv (.t 4)), none⟩,
    ⟨(some 91), (.call 68 [(.t 90)]), none⟩,
    ⟨(some 2), (.mv (.t 91)), none⟩,
    ⟨(some 3), (.mv (.c (.p (.s (.int .i64 0))))), none⟩] none [2, 3])
  .ret)))))))), [(2, none), (3, none)], false⟩
/-- kinfolk/wire.Open -/
def ir39 : IRF := ⟨[0], (.seq (.region [⟨(some 2), (.mv (.c (.p (.s (.slice none 0 0))))), none⟩,
    ⟨(some 3), (.mv (.c (.p (.s (.int .i64 0))))), none⟩,
    ⟨(some 4), (.mv (.c (.p (.s (.int .i64 0))))), none⟩] none [0])
  (.seq (.seq (.region [⟨(some 7), (.mv (.t 0)), none⟩,
    ⟨(some 8), (.len false (.t 7)), none⟩,
    ⟨(some 9), (.bin .lss (.t 8) (.c (.p (.s (.int .i64 8))))), none⟩] none [0, 9])
  (.cond (.t 9) (.seq (.region [⟨(some 2), (.mv (.c (.p (.s (.slice none 0 0))))), none⟩,
    ⟨(some 3), (.mv (.c (.p (.s (.int .i64 0))))), none⟩,
    ⟨(some 4), (.mv (.c (.p (.s (.int .i64 6))))), none⟩] none [2, 3, 4])
  .ret) .skip))
  (.seq (.region [⟨(some 10), (.mv (.t 0)), none⟩,
    ⟨(some 11), (.call 69 [(.t 10)]), none⟩,
    ⟨(some 5), (.mv (.t 11)), none⟩] none [0, 5])
  (.seq (.block 0 (.seq (.region [⟨(some 13), (.mv (.t 5)), none⟩,
    ⟨(some 14), (.bin .gtr (.t 13) (.c (.p (.s (.int .u32 1048576))))), none⟩,
    ⟨(some 12), (.mv (.t 14)), none⟩] none [0, 5, 12])
  (.cond (.t 12) (.seq (.region [⟨(some 2), (.mv (.c (.p (.s (.slice none 0 0))))), none⟩,
    ⟨(some 3), (.mv (.c (.p (.s (.int .i64 0))))), none⟩,
    ⟨(some 4), (.mv (.c (.p (.s (.int .i64 9))))), none⟩] none [2, 3, 4])
  .ret) (.seq (.region [⟨(some 16), (.mv (.t 5)), none⟩,
    ⟨(some 17), (.cvt .i64 (.t 16)), none⟩,
    ⟨(some 18), (.mv (.t 0)), none⟩,
    ⟨(some 19), (.len false (.t 18)), none⟩,
    ⟨(some 20), (.bin .sub (.t 19) (.c (.p (.s (.int .i64 8))))), none⟩,
    ⟨(some 21), (.bin .gtr (.t 17) (.t 20)), none⟩,
    ⟨(some 15), (.mv (.t 21)), none⟩] none [0, 5, 15])
  (.cond (.t 15) (.seq (.region [⟨(some 2), (.mv (.c (.p (.s (.slice none 0 0))))), none⟩,
    ⟨(some 3), (.mv (.c (.p (.s (.int .i64 0))))), none⟩,
    ⟨(some 4), (.mv (.c (.p (.s (.int .i64 6))))), none⟩] none [2, 3, 4])
  .ret) .skip)))))
  (.seq (.region [⟨(some 22), (.mv (.t 0)), none⟩,
    ⟨(some 23), (.mv (.t 5)), none⟩,
    ⟨(some 24), (.cvt .i64 (.t 23)), none⟩,
    ⟨(some 25), (.bin .add (.c (.p (.s (.int .i64 8)))) (.t 24)), none⟩,
    ⟨(some 26), (.slSl 1 (.t 22) (some (.c (.p (.s (.int .i64 8))))) (some (.t 25)) none), none⟩,
    ⟨(some 27), (.call 28 [(.t 26)]), none⟩,
    ⟨(some 6), (.mv (.t 27)), none⟩] none [0, 5, 6])
  (.seq (.seq (.region [⟨(some 28), (.mv (.t 0)), none⟩,
    ⟨(some 29), (.slSl 1 (.t 28) (some (.c (.p (.s (.int .i64 4))))) none none), none⟩,
    ⟨(some 30), (.call 69 [(.t 29)]), none⟩,
    ⟨(some 31), (.mv (.t 0)), none⟩,
    ⟨(some 32), (.slSl 1 (.t 31) none (some (.c (.p (.s (.int .i64 4))))) (some (.c (.p (.s (.int .i64 4)))))), none⟩,
    ⟨(some 33), (.mv (.t 6)), none⟩,
    ⟨(some 34), (.app 1 1 (.t 32) (.t 33)), none⟩,
    ⟨(some 35), (.call 70 [(.t 34)]), none⟩,
    ⟨(some 36), (.bin .neq (.t 30) (.t 35)), none⟩] (some [0, 1, 3, 0, 8, 0, 63, 127, 255]) [5, 6, 36])
  (.cond (.t 36) (.seq (.region [⟨(some 2), (.mv (.c (.p (.s (.slice none 0 0))))), none⟩,
    ⟨(some 3), (.mv (.c (.p (.s (.int .i64 0))))), none⟩,
    ⟨(some 4), (.mv (.c (.p (.s (.int .i64 13))))), none⟩] none [2, 3, 4])
  .ret) .skip))
  (.seq (.region [⟨(some 37), (.mv (.t 6)), none⟩,
    ⟨(some 38), (.mv (.t 5)), none⟩,
    ⟨(some 39), (.cvt .i64 (.t 38)), none⟩,
    ⟨(some 40), (.bin .add (.c (.p (.s (.int .i64 8)))) (.t 39)), none⟩,
    ⟨(some 2), (.mv (.t 37)), none⟩,
    ⟨(some 3), (.mv (.t 40)), none⟩,
    ⟨(some 4), (.mv (.c (.p (.s (.int .i64 0))))), none⟩] none [2, 3, 4])
  .ret))))))), [(2, none), (3, none), (4, none)], false⟩
/-- kinfolk/wire.Of -/
def ir40 : IRF := ⟨[0], (.seq (.region [⟨(some 2), (.mv (.c (.p (.s (.pointer none))))), none⟩] none [0])
  (.seq (.region [⟨(some 3), (.mv (.t 0)), none⟩,
    ⟨(some 4), (.call 28 [(.t 3)]), none⟩,
    ⟨(some 5), (.build [(.s (.slice none 0 0)), (.s (.int .i64 0))] [(0, 1, (.t 4))]), none⟩,
    ⟨(some 6), (.box false (.t 5)), none⟩,
    ⟨(some 2), (.mv (.t 6)), none⟩] none [2])
  .ret)), [(2, none)], true⟩
/-- kinfolk/note.get -/
def ir41 : IRF := ⟨[0], (.seq (.region [⟨(some 2), (.alloc false [(.s (.int .i64 0)), (.s (.int .i64 0)), (.s (.int .i64 0)), (.s (.int .u64 0)), (.s (.int .i64 0)), (.s (.bool false)), (.s (.int .u64 0)), (.s (.pointer none)), (.s (.slice none 0 0)), (.s (.int .u64 0)), (.s (.int .i64 0)), (.s (.int .i64 0)), (.s (.bool false)), (.s (.pointer none)), (.s (.int .u64 0))]), none⟩] none [0, 2])
  (.seq (.region [⟨(some 8), (.mv (.t 0)), none⟩,
    ⟨(some 9), (.call 71 [(.t 8)]), none⟩,
    ⟨(some 10), (.cvt .i64 (.t 9)), none⟩,
    ⟨(some 11), (.mv (.t 0)), none⟩,
    ⟨(some 12), (.call 71 [(.t 11)]), none⟩,
    ⟨(some 13), (.cvt .i64 (.t 12)), none⟩,
    ⟨(some 14), (.mv (.t 0)), none⟩,
    ⟨(some 15), (.call 71 [(.t 14)]), none⟩,
    ⟨(some 16), (.cvt .i64 (.t 15)), none⟩,
    ⟨(some 17), (.build [(.s (.int .i64 0)), (.s (.int .i64 0)), (.s (.int .i64 0)), (.s (.int .u64 0)), (.s (.int .i64 0)), (.s (.bool false)), (.s (.int .u64 0)), (.s (.pointer none)), (.s (.slice none 0 0)), (.s (.int .u64 0)), (.s (.int .i64 0)), (.s (.int .i64 0)), (.s (.bool false)), (.s (.pointer none)), (.s (.int .u64 0))] [(0, 1, (.t 10)), (1, 1, (.t 13)), (2, 1, (.t 16))]), none⟩,
    ⟨(some 3), (.alloc false [(.s (.int .i64 0)), (.s (.int .i64 0)), (.s (.int .i64 0)), (.s (.int .u64 0)), (.s (.int .i64 0)), (.s (.bool false)), (.s (.int .u64 0)), (.s (.pointer none)), (.s (.slice none 0 0)), (.s (.int .u64 0)), (.s (.int .i64 0)), (.s (.int .i64 0)), (.s (.bool false)), (.s (.pointer none)), (.s (.int .u64 0))]), none⟩,
    ⟨none, (.store 15 (.t 3) (.t 17)), none⟩] none [0, 2, 3])
  (.seq (.region [⟨(some 18), (.fieldAddr 0 (.t 3)), none⟩,
    ⟨(some 19), (.load 1 false (.t 18)), none⟩,
    ⟨(some 20), (.call 44 [(.t 19)]), none⟩,
    ⟨(some 4), (.mv (.t 20)), none⟩] none [0, 2, 3, 4])
  (.seq (.seq (.region [⟨(some 21), (.mv (.t 4)), none⟩,
    ⟨(some 22), (.bin .lss (.t 21) (.c (.p (.s (.int .i64 0))))), none⟩] none [0, 2, 3, 4, 22])
  (.cond (.t 22) (.seq (.region [⟨(some 23), (.mv (.t 0)), none⟩,
    ⟨(some 24), (.call 72 [(.t 23), (.c (.p (.s (.int .i64 6))))]), none⟩] none [2, 3])
  (.seq (.region [⟨(some 25), (.load 15 true (.t 3)), none⟩,
    ⟨none, (.store 15 (.t 2) (.t 25)), none⟩] none [2])
  .ret)) .skip))
  (.seq (.seq (.region [⟨(some 26), (.mv (.t 4)), none⟩,
    ⟨(some 27), (.bin .and (.t 26) (.c (.p (.s (.int .i64 1))))), none⟩,
    ⟨(some 28), (.bin .gtr (.t 27) (.c (.p (.s (.int .i64 0))))), none⟩] none [0, 2, 3, 4, 28])
  (.cond (.t 28) (.region [⟨(some 29), (.mv (.t 0)), none⟩,
    ⟨(some 30), (.call 73 [(.t 29)]), none⟩,
    ⟨(some 31), (.fieldAddr 3 (.t 3)), none⟩,
    ⟨none, (.store 1 (.t 31) (.t 30)), none⟩] none [0, 2, 3, 4]) .skip))
  (.seq (.seq (.region [⟨(some 32), (.mv (.t 4)), none⟩,
    ⟨(some 33), (.bin .and (.t 32) (.c (.p (.s (.int .i64 2))))), none⟩,
    ⟨(some 34), (.bin .gtr (.t 33) (.c (.p (.s (.int .i64 0))))), none⟩] none [0, 2, 3, 4, 34])
  (.cond (.t 34) (.region [⟨(some 35), (.mv (.t 0)), none⟩,
    ⟨(some 36), (.call 71 [(.t 35)]), none⟩,
    ⟨(some 37), (.cvt .i64 (.t 36)), none⟩,
    ⟨(some 38), (.fieldAddr 4 (.t 3)), none⟩,
    ⟨none, (.store 1 (.t 38) (.t 37)), none⟩] none [0, 2, 3, 4]) .skip))
  (.seq (.seq (.region [⟨(some 39), (.mv (.t 4)), none⟩,
    ⟨(some 40), (.bin .and (.t 39) (.c (.p (.s (.int .i64 16))))), none⟩,
    ⟨(some 41), (.bin .gtr (.t 40) (.c (.p (.s (.int .i64 0))))), none⟩] none [0, 2, 3, 4, 41])
  (.cond (.t 41) (.seq (.region [⟨(some 42), (.mv (.t 0)), none⟩,
    ⟨(some 43), (.call 71 [(.t 42)]), none⟩,
    ⟨(some 5), (.mv (.t 43)), none⟩] none [0, 2, 3, 4, 5])
  (.seq (.seq (.region [⟨(some 44), (.mv (.t 5)), none⟩,
    ⟨(some 45), (.bin .gtr (.t 44) (.c (.p (.s (.int .u8 1))))), none⟩] none [0, 2, 3, 4, 5, 45])
  (.cond (.t 45) (.region [⟨(some 46), (.mv (.t 0)), none⟩,
    ⟨(some 47), (.call 72 [(.t 46), (.c (.p (.s (.int .i64 6))))]), none⟩] none [0, 2, 3, 4, 5]) .skip))
  (.region [⟨(some 48), (.mv (.t 5)), none⟩,
    ⟨(some 49), (.bin .eql (.t 48) (.c (.p (.s (.int .u8 1))))), none⟩,
    ⟨(some 50), (.fieldAddr 5 (.t 3)), none⟩,
    ⟨none, (.store 1 (.t 50) (.t 49)), none⟩] none [0, 2, 3, 4]))) .skip))
  (.seq (.seq (.region [⟨(some 51), (.mv (.t 4)), none⟩,
    ⟨(some 52), (.bin .and (.t 51) (.c (.p (.s (.int .i64 32))))), none⟩,
    ⟨(some 53), (.bin .gtr (.t 52) (.c (.p (.s (.int .i64 0))))), none⟩] none [0, 2, 3, 4, 53])
  (.cond (.t 53) (.region [⟨(some 54), (.mv (.t 0)), none⟩,
    ⟨(some 55), (.call 74 [(.t 54)]), none⟩,
    ⟨(some 56), (.fieldAddr 9 (.t 3)), none⟩,
    ⟨none, (.store 5 (.t 56) (.t 55)), none⟩] none [0, 2, 3, 4]) .skip))
  (.seq (.seq (.region [⟨(some 57), (.mv (.t 4)), none⟩,
    ⟨(some 58), (.bin .and (.t 57) (.c (.p (.s (.int .i64 8))))), none⟩,
    ⟨(some 59), (.bin .gtr (.t 58) (.c (.p (.s (.int .i64 0))))), none⟩] none [0, 2, 3, 4, 59])
  (.cond (.t 59) (.seq (.region [⟨(some 61), (.mv (.t 0)), none⟩,
    ⟨(some 62), (.call 76 [(.t 61), (.c (.p (.s (.int .i64 1048576))))]), none⟩,
    ⟨(some 63), (.s2b (.t 62)), none⟩,
    ⟨(some 64), (.call 75 [(.t 63)]), none⟩,
    ⟨(some 60), (.mv (.t 64)), none⟩,
    ⟨(some 65), (.ext (.t 60) 0), none⟩,
    ⟨(some 66), (.ext (.t 60) 1), none⟩,
    ⟨(some 6), (.alloc false [(.s (.int .u64 0)), (.s (.pointer none))]), none⟩,
    ⟨none, (.store 2 (.t 6) (.t 65)), none⟩,
    ⟨(some 7), (.mv (.t 66)), none⟩] none [0, 2, 3, 4, 6, 7])
  (.seq (.region [⟨(some 67), (.mv (.t 0)), none⟩,
    ⟨(some 68), (.mv (.t 7)), none⟩,
    ⟨(some 69), (.call 72 [(.t 67), (.t 68)]), none⟩] none [0, 2, 3, 4, 6])
  (.region [⟨(some 70), (.load 2 true (.t 6)), none⟩,
    ⟨(some 71), (.fieldAddr 6 (.t 3)), none⟩,
    ⟨none, (.store 2 (.t 71) (.t 70)), none⟩] none [0, 2, 3, 4]))) .skip))
  (.seq (.seq (.region [⟨(some 72), (.mv (.t 4)), none⟩,
    ⟨(some 73), (.bin .and (.t 72) (.c (.p (.s (.int .i64 4))))), none⟩,
    ⟨(some 74), (.bin .gtr (.t 73) (.c (.p (.s (.int .i64 0))))), none⟩] none [0, 2, 3, 4, 74])
  (.cond (.t 74) (.region [⟨(some 75), (.mv (.t 0)), none⟩,
    ⟨(some 76), (.call 77 [(.t 75)]), none⟩,
    ⟨(some 77), (.fieldAddr 8 (.t 3)), none⟩,
    ⟨none, (.store 1 (.t 77) (.t 76)), none⟩] none [0, 2, 3, 4]) .skip))
  (.seq (.seq (.region [⟨(some 78), (.mv (.t 4)), none⟩,
    ⟨(some 79), (.bin .and (.t 78) (.c (.p (.s (.int .i64 64))))), none⟩,
    ⟨(some 80), (.bin .gtr (.t 79) (.c (.p (.s (.int .i64 0))))), none⟩] none [0, 2, 3, 80])
  (.cond (.t 80) (.region [⟨(some 81), (.mv (.t 0)), none⟩,
    ⟨(some 82), (.call 73 [(.t 81)]), none⟩,
    ⟨(some 83), (.fieldAddr 14 (.t 3)), none⟩,
    ⟨none, (.store 1 (.t 83) (.t 82)), none⟩] none [2, 3]) .skip))
  (.seq (.region [⟨(some 84), (.load 15 true (.t 3)), none⟩,
    ⟨none, (.store 15 (.t 2) (.t 84)), none⟩] none [2])
  .ret)))))))))))), [(2, some (15, true))], false⟩
/-- (*kinfolk/wire.In).End -/
def ir42 : IRF := ⟨[0], (.seq (.region [⟨(some 2), (.mv (.c (.p (.s (.int .i64 0))))), none⟩] none [0])
  (.seq (.seq (.region [⟨(some 3), (.mv (.t 0)), none⟩,
    ⟨(some 4), (.call 78 [(.t 3)]), none⟩,
    ⟨(some 5), (.bin .gtr (.t 4) (.c (.p (.s (.int .i64 0))))), none⟩] none [0, 5])
  (.cond (.t 5) (.region [⟨(some 6), (.mv (.t 0)), none⟩,
    ⟨(some 7), (.call 72 [(.t 6), (.c (.p (.s (.int .i64 6))))]), none⟩] none [0]) .skip))
  (.seq (.region [⟨(some 8), (.mv (.t 0)), none⟩,
    ⟨(some 9), (.call 79 [(.t 8)]), none⟩,
    ⟨(some 2), (.mv (.t 9)), none⟩] none [2])
  .ret))), [(2, none)], false⟩
/-- (kinfolk/note.Note).Right -/
def ir43 : IRF := ⟨[0], (.seq (.region [⟨(some 1), (.box false (.t 0)), none⟩,
    ⟨(some 2), (.mv (.c (.p (.s (.bool false))))), none⟩] none [1])
  (.seq (.block 0 (.seq (.region [⟨(some 4), (.fieldAddr 0 (.t 1)), none⟩,
    ⟨(some 5), (.load 1 false (.t 4)), none⟩,
    ⟨(some 6), (.call 44 [(.t 5)]), none⟩,
    ⟨(some 7), (.bin .lss (.t 6) (.c (.p (.s (.int .i64 0))))), none⟩,
    ⟨(some 8), (.mv (.t 7)), none⟩,
    ⟨(some 9), (.fieldAddr 1 (.t 1)), (some (8, false))⟩,
    ⟨(some 10), (.load 1 false (.t 9)), (some (8, false))⟩,
    ⟨(some 11), (.call 80 [(.t 10)]), (some (8, false))⟩,
    ⟨(some 12), (.un .not (.t 11)), (some (8, false))⟩,
    ⟨(some 13), (.pick (.t 8) (.c (.p (.s (.bool true)))) (.t 12)), none⟩,
    ⟨(some 14), (.mv (.t 13)), none⟩,
    ⟨(some 15), (.fieldAddr 2 (.t 1)), (some (14, false))⟩,
    ⟨(some 16), (.load 1 false (.t 15)), (some (14, false))⟩,
    ⟨(some 17), (.call 80 [(.t 16)]), (some (14, false))⟩,
    ⟨(some 18), (.un .not (.t 17)), (some (14, false))⟩,
    ⟨(some 19), (.pick (.t 14) (.c (.p (.s (.bool true)))) (.t 18)), none⟩,
    ⟨(some 20), (.mv (.t 19)), none⟩,
    ⟨(some 21), (.fieldAddr 1 (.t 1)), (some (20, false))⟩,
    ⟨(some 22), (.load 1 false (.t 21)), (some (20, false))⟩,
    ⟨(some 23), (.fieldAddr 2 (.t 1)), (some (20, false))⟩,
    ⟨(some 24), (.load 1 false (.t 23)), (some (20, false))⟩,
    ⟨(some 25), (.bin .eql (.t 22) (.t 24)), (some (20, false))⟩,
    ⟨(some 26), (.pick (.t 20) (.c (.p (.s (.bool true)))) (.t 25)), none⟩,
    ⟨(some 3), (.mv (.t 26)), none⟩] none [1, 3])
  (.cond (.t 3) (.seq (.region [⟨(some 2), (.mv (.c (.p (.s (.bool false))))), none⟩] none [2])
  .ret) (.seq (.region [⟨(some 28), (.load 15 true (.t 1)), none⟩,
    ⟨(some 29), (.call 81 [(.t 28)]), none⟩,
    ⟨(some 30), (.un .not (.t 29)), none⟩,
    ⟨(some 31), (.mv (.t 30)), none⟩,
    ⟨(some 32), (.fieldAddr 4 (.t 1)), (some (31, false))⟩,
    ⟨(some 33), (.load 1 false (.t 32)), (some (31, false))⟩,
    ⟨(some 34), (.bin .lss (.t 33) (.c (.p (.s (.int .i64 0))))), (some (31, false))⟩,
    ⟨(some 35), (.pick (.t 31) (.c (.p (.s (.bool true)))) (.t 34)), none⟩,
    ⟨(some 36), (.mv (.t 35)), none⟩,
    ⟨(some 37), (.fieldAddr 4 (.t 1)), (some (36, false))⟩,
    ⟨(some 38), (.load 1 false (.t 37)), (some (36, false))⟩,
    ⟨(some 39), (.bin .geq (.t 38) (.c (.p (.s (.int .i64 256))))), (some (36, false))⟩,
    ⟨(some 40), (.pick (.t 36) (.c (.p (.s (.bool true)))) (.t 39)), none⟩,
    ⟨(some 41), (.mv (.t 40)), none⟩,
    ⟨(some 42), (.load 15 true (.t 1)), (some (41, false))⟩,
    ⟨(some 43), (.call 82 [(.t 42)]), (some (41, false))⟩,
    ⟨(some 44), (.un .not (.t 43)), (some (41, false))⟩,
    ⟨(some 45), (.pick (.t 41) (.c (.p (.s (.bool true)))) (.t 44)), none⟩,
    ⟨(some 27), (.mv (.t 45)), none⟩] none [1, 27])
  (.cond (.t 27) (.seq (.region [⟨(some 2), (.mv (.c (.p (.s (.bool false))))), none⟩] none [2])
  .ret) (.seq (.region [⟨(some 47), (.fieldAddr 0 (.t 1)), none⟩,
    ⟨(some 48), (.load 1 false (.t 47)), none⟩,
    ⟨(some 49), (.bin .eql (.t 48) (.c (.p (.s (.int .i64 3))))), none⟩,
    ⟨(some 46), (.mv (.t 49)), none⟩] none [1, 46])
  (.cond (.t 46) (.seq (.region [⟨(some 50), (.fieldAddr 8 (.t 1)), none⟩,
    ⟨(some 51), (.load 1 false (.t 50)), none⟩,
    ⟨(some 52), (.len false (.t 51)), none⟩,
    ⟨(some 53), (.bin .leq (.t 52) (.c (.p (.s (.int .i64 4))))), none⟩,
    ⟨(some 2), (.mv (.t 53)), none⟩] none [2])
  .ret) (.seq (.region [⟨(some 55), (.fieldAddr 0 (.t 1)), none⟩,
    ⟨(some 56), (.load 1 false (.t 55)), none⟩,
    ⟨(some 57), (.bin .eql (.t 56) (.c (.p (.s (.int .i64 6))))), none⟩,
    ⟨(some 54), (.mv (.t 57)), none⟩] none [1, 54])
  (.cond (.t 54) (.seq (.region [⟨(some 58), (.fieldAddr 9 (.t 1)), none⟩,
    ⟨(some 59), (.load 5 true (.t 58)), none⟩,
    ⟨(some 60), (.call 83 [(.t 59)]), none⟩,
    ⟨(some 61), (.mv (.t 60)), none⟩,
    ⟨(some 62), (.fieldAddr 9 (.t 1)), (some (61, true))⟩,
    ⟨(some 63), (.fieldAddr 1 (.t 62)), (some (61, true))⟩,
    ⟨(some 64), (.load 1 false (.t 63)), (some (61, true))⟩,
    ⟨(some 65), (.fieldAddr 1 (.t 1)), (some (61, true))⟩,
    ⟨(some 66), (.load 1 false (.t 65)), (some (61, true))⟩,
    ⟨(some 67), (.bin .eql (.t 64) (.t 66)), (some (61, true))⟩,
    ⟨(some 68), (.pick (.t 61) (.t 67) (.c (.p (.s (.bool false))))), none⟩,
    ⟨(some 69), (.mv (.t 68)), none⟩,
    ⟨(some 70), (.fieldAddr 9 (.t 1)), (some (69, true))⟩,
    ⟨(some 71), (.fieldAddr 2 (.t 70)), (some (69, true))⟩,
    ⟨(some 72), (.load 1 false (.t 71)), (some (69, true))⟩,
    ⟨(some 73), (.fieldAddr 2 (.t 1)), (some (69, true))⟩,
    ⟨(some 74), (.load 1 false (.t 73)), (some (69, true))⟩,
    ⟨(some 75), (.bin .eql (.t 72) (.t 74)), (some (69, true))⟩,
    ⟨(some 76), (.pick (.t 69) (.t 75) (.c (.p (.s (.bool false))))), none⟩,
    ⟨(some 2), (.mv (.t 76)), none⟩] none [2])
  .ret) .skip)))))))))
  (.seq (.region [⟨(some 2), (.mv (.c (.p (.s (.bool true))))), none⟩] none [2])
  .ret))), [(2, none)], false⟩
/-- kinfolk/note.has -/
def ir44 : IRF := ⟨[0], (.seq (.region [⟨(some 2), (.mv (.c (.p (.s (.int .i64 0))))), none⟩] none [0])
  (.seq (.seq (.region [⟨(some 3), (.mv (.t 0)), none⟩] none [3])
  (.block 0 (.seq (.seq (.region [⟨(some 5), (.bin .eql (.t 3) (.c (.p (.s (.int .i64 1))))), none⟩,
    ⟨(some 4), (.mv (.t 5)), none⟩] none [3, 4])
  (.cond (.t 4) .skip (.region [⟨(some 6), (.bin .eql (.t 3) (.c (.p (.s (.int .i64 2))))), none⟩,
    ⟨(some 4), (.mv (.t 6)), none⟩] none [3, 4])))
  (.cond (.t 4) (.seq (.region [⟨(some 2), (.mv (.c (.p (.s (.int .i64 9))))), none⟩] none [2])
  .ret) (.seq (.region [⟨(some 8), (.bin .eql (.t 3) (.c (.p (.s (.int .i64 3))))), none⟩,
    ⟨(some 7), (.mv (.t 8)), none⟩] none [3, 7])
  (.cond (.t 7) (.seq (.region [⟨(some 2), (.mv (.c (.p (.s (.int .i64 31))))), none⟩] none [2])
  .ret) (.seq (.region [⟨(some 10), (.bin .eql (.t 3) (.c (.p (.s (.int .i64 4))))), none⟩,
    ⟨(some 9), (.mv (.t 10)), none⟩] none [3, 9])
  (.cond (.t 9) (.seq (.region [⟨(some 2), (.mv (.c (.p (.s (.int .i64 3))))), none⟩] none [2])
  .ret) (.seq (.region [⟨(some 12), (.bin .eql (.t 3) (.c (.p (.s (.int .i64 5))))), none⟩,
    ⟨(some 11), (.mv (.t 12)), none⟩] none [3, 11])
  (.cond (.t 11) (.seq (.region [⟨(some 2), (.mv (.c (.p (.s (.int .i64 0))))), none⟩] none [2])
  .ret) (.seq (.region [⟨(some 14), (.bin .eql (.t 3) (.c (.p (.s (.int .i64 6))))), none⟩,
    ⟨(some 13), (.mv (.t 14)), none⟩] none [3, 13])
  (.cond (.t 13) (.seq (.region [⟨(some 2), (.mv (.c (.p (.s (.int .i64 44))))), none⟩] none [2])
  .ret) (.seq (.region [⟨(some 16), (.bin .eql (.t 3) (.c (.p (.s (.int .i64 7))))), none⟩,
    ⟨(some 15), (.mv (.t 16)), none⟩] none [15])
  (.cond (.t 15) (.seq (.region [⟨(some 2), (.mv (.c (.p (.s (.int .i64 64))))), none⟩] none [2])
  .ret) .skip))))))))))))))
  (.seq (.region [⟨(some 2), (.mv (.c (.p (.s (.int .i64 (-1)))))), none⟩] none [2])
  .ret))), [(2, none)], false⟩
/-- kinfolk/wire.Num -/
def ir45_0 : IRC := (.seq (.seq (.region [⟨(some 11), (.mv (.t 1)), none⟩,
    ⟨(some 12), (.bin .geq (.t 11) (.c (.p (.s (.int .u64 128))))), none⟩] none [0, 1, 12])
  (.cond (.t 12) .skip (.exit 0)))
  (.seq (.block 1 (.region [⟨(some 15), (.mv (.t 0)), none⟩,
    ⟨(some 16), (.mv (.t 1)), none⟩,
    ⟨(some 17), (.cvt .u8 (.t 16)), none⟩,
    ⟨(some 18), (.bin .or (.t 17) (.c (.p (.s (.int .u8 128))))), none⟩,
    ⟨(some 19), (.mkSl 1 1 [(.s (.int .u8 0))] [(0, 1, (.t 18))]), none⟩,
    ⟨(some 20), (.app 1 1 (.t 15) (.t 19)), none⟩,
    ⟨(some 0), (.mv (.t 20)), none⟩] none [0, 1]))
  (.region [⟨(some 13), (.mv (.t 1)), none⟩,
    ⟨(some 14), (.bin .shr (.t 13) (.c (.p (.s (.int .u64 7))))), none⟩,
    ⟨(some 1), (.mv (.t 14)), none⟩] none [0, 1])))
def ir45 : IRF := ⟨[0, 1], (.seq (.region [⟨(some 4), (.mv (.c (.p (.s (.slice none 0 0))))), none⟩] none [0, 1])
  (.seq (.region [⟨(some 5), (.mv (.t 0)), none⟩,
    ⟨(some 6), (.mv (.t 0)), none⟩,
    ⟨(some 7), (.len false (.t 6)), none⟩,
    ⟨(some 8), (.mv (.t 0)), none⟩,
    ⟨(some 9), (.len false (.t 8)), none⟩,
    ⟨(some 10), (.slSl 1 (.t 5) none (some (.t 7)) (some (.t 9))), none⟩,
    ⟨(some 0), (.mv (.t 10)), none⟩] none [0, 1])
  (.seq (.block 0 (.loop ir45_0))
  (.seq (.region [⟨(some 21), (.mv (.t 0)), none⟩,
    ⟨(some 22), (.mv (.t 1)), none⟩,
    ⟨(some 23), (.cvt .u8 (.t 22)), none⟩,
    ⟨(some 24), (.mkSl 1 1 [(.s (.int .u8 0))] [(0, 1, (.t 23))]), none⟩,
    ⟨(some 25), (.app 1 1 (.t 21) (.t 24)), none⟩,
    ⟨(some 4), (.mv (.t 25)), none⟩] none [4])
  .ret)))), [(4, none)], true⟩
/-- kinfolk/wire.Frame -/
def ir50 : IRF := ⟨[0], (.seq (.region [⟨(some 2), (.mv (.c (.p (.s (.slice none 0 0))))), none⟩] none [0])
  (.seq (.region [⟨(some 5), (.mv (.t 0)), none⟩,
    ⟨(some 6), (.len false (.t 5)), none⟩,
    ⟨(some 7), (.cvt .u32 (.t 6)), none⟩,
    ⟨(some 8), (.call 89 [(.c (.p (.s (.slice none 0 0)))), (.t 7)]), none⟩,
    ⟨(some 3), (.mv (.t 8)), none⟩] none [0, 3])
  (.seq (.region [⟨(some 9), (.mv (.t 3)), none⟩,
    ⟨(some 10), (.slSl 1 (.t 9) none (some (.c (.p (.s (.int .i64 4))))) (some (.c (.p (.s (.int .i64 4)))))), none⟩,
    ⟨(some 11), (.mv (.t 3)), none⟩,
    ⟨(some 12), (.slSl 1 (.t 11) none (some (.c (.p (.s (.int .i64 4))))) (some (.c (.p (.s (.int .i64 4)))))), none⟩,
    ⟨(some 13), (.mv (.t 0)), none⟩,
    ⟨(some 14), (.app 1 1 (.t 12) (.t 13)), none⟩,
    ⟨(some 15), (.call 70 [(.t 14)]), none⟩,
    ⟨(some 16), (.call 89 [(.t 10), (.t 15)]), none⟩,
    ⟨(some 4), (.mv (.t 16)), none⟩] (some [0, 1, 0, 4, 0, 28, 60, 127, 255]) [0, 4])
  (.seq (.region [⟨(some 17), (.mv (.t 4)), none⟩,
    ⟨(some 18), (.mv (.t 0)), none⟩,
    ⟨(some 19), (.app 1 1 (.t 17) (.t 18)), none⟩,
    ⟨(some 2), (.mv (.t 19)), none⟩] none [2])
  .ret)))), [(2, none)], true⟩
/-- slices.IndexFunc[[]kinfolk/net.frame,kinfolk/net.frame] -/
def ir51_0 : IRC := (.seq (.region [⟨(some 9), (.bin .lss (.t 8) (.t 7)), none⟩] none [0, 1, 7, 8, 9])
  (.seq (.cond (.t 9) .skip (.exit 0))
  (.seq (.block 1 (.seq (.region [⟨(some 10), (.mv (.t 8)), none⟩,
    ⟨(some 5), (.mv (.t 10)), none⟩] none [0, 1, 5, 7, 8])
  (.seq (.region [⟨(some 11), (.mv (.t 1)), none⟩,
    ⟨(some 12), (.mv (.t 0)), none⟩,
    ⟨(some 13), (.mv (.t 5)), none⟩,
    ⟨(some 14), (.idxASl 2 (.t 12) (.t 13)), none⟩,
    ⟨(some 15), (.load 2 true (.t 14)), none⟩,
    ⟨(some 16), (.callv (.t 11) [(.t 15)]), none⟩] none [0, 1, 5, 7, 8, 16])
  (.cond (.t 16) (.seq (.region [⟨(some 17), (.mv (.t 5)), none⟩,
    ⟨(some 4), (.mv (.t 17)), none⟩] none [4])
  .ret) .skip))))
  (.region [⟨(some 18), (.bin .add (.t 8) (.c (.p (.s (.int .i64 1))))), none⟩,
    ⟨(some 8), (.mv (.t 18)), none⟩] none [0, 1, 7, 8]))))
def ir51 : IRF := ⟨[0, 1], (.seq (.region [⟨(some 4), (.mv (.c (.p (.s (.int .i64 0))))), none⟩] none [0, 1])
  (.seq (.seq (.region [⟨(some 6), (.mv (.t 0)), none⟩,
    ⟨(some 7), (.len false (.t 6)), none⟩,
    ⟨(some 8), (.mv (.c (.p (.s (.int .i64 0))))), none⟩] none [0, 1, 7, 8])
  (.block 0 (.loop ir51_0)))
  (.seq (.region [⟨(some 4), (.mv (.c (.p (.s (.int .i64 (-1)))))), none⟩] none [4])
  .ret))), [(4, none)], false⟩
/-- kinfolk/kinfolkref06.Open -/
def ir52 : IRF := ⟨[0], (.seq (.region [⟨(some 2), (.mv (.c (.p (.s (.slice none 0 0))))), none⟩,
    ⟨(some 3), (.mv (.c (.p (.s (.int .i64 0))))), none⟩,
    ⟨(some 4), (.mv (.c (.p (.s (.int .i64 0))))), none⟩] none [0])
  (.seq (.seq (.region [⟨(some 7), (.mv (.t 0)), none⟩,
    ⟨(some 8), (.len false (.t 7)), none⟩,
    ⟨(some 9), (.bin .lss (.t 8) (.c (.p (.s (.int .i64 8))))), none⟩] none [0, 9])
  (.cond (.t 9) (.seq (.region [⟨(some 2), (.mv (.c (.p (.s (.slice none 0 0))))), none⟩,
    ⟨(some 3), (.mv (.c (.p (.s (.int .i64 0))))), none⟩,
    ⟨(some 4), (.mv (.c (.p (.s (.int .i64 6))))), none⟩] none [2, 3, 4])
  .ret) .skip))
  (.seq (.region [⟨(some 10), (.mv (.t 0)), none⟩,
    ⟨(some 11), (.call 90 [(.t 10)]), none⟩,
    ⟨(some 5), (.mv (.t 11)), none⟩] none [0, 5])
  (.seq (.seq (.region [⟨(some 12), (.mv (.t 5)), none⟩,
    ⟨(some 13), (.bin .gtr (.t 12) (.c (.p (.s (.int .u32 1048576))))), none⟩] none [0, 5, 13])
  (.cond (.t 13) (.seq (.region [⟨(some 2), (.mv (.c (.p (.s (.slice none 0 0))))), none⟩,
    ⟨(some 3), (.mv (.c (.p (.s (.int .i64 0))))), none⟩,
    ⟨(some 4), (.mv (.c (.p (.s (.int .i64 9))))), none⟩] none [2, 3, 4])
  .ret) .skip))
  (.seq (.region [⟨(some 14), (.mv (.t 5)), none⟩,
    ⟨(some 15), (.cvt .i64 (.t 14)), none⟩,
    ⟨(some 16), (.bin .add (.c (.p (.s (.int .i64 8)))) (.t 15)), none⟩,
    ⟨(some 6), (.mv (.t 16)), none⟩] none [0, 6])
  (.seq (.seq (.region [⟨(some 17), (.mv (.t 6)), none⟩,
    ⟨(some 18), (.mv (.t 0)), none⟩,
    ⟨(some 19), (.len false (.t 18)), none⟩,
    ⟨(some 20), (.bin .gtr (.t 17) (.t 19)), none⟩] none [0, 6, 20])
  (.cond (.t 20) (.seq (.region [⟨(some 2), (.mv (.c (.p (.s (.slice none 0 0))))), none⟩,
    ⟨(some 3), (.mv (.c (.p (.s (.int .i64 0))))), none⟩,
    ⟨(some 4), (.mv (.c (.p (.s (.int .i64 6))))), none⟩] none [2, 3, 4])
  .ret) .skip))
  (.seq (.seq (.region [⟨(some 21), (.mv (.t 0)), none⟩,
    ⟨(some 22), (.slSl 1 (.t 21) (some (.c (.p (.s (.int .i64 4))))) none none), none⟩,
    ⟨(some 23), (.call 90 [(.t 22)]), none⟩,
    ⟨(some 24), (.mv (.t 0)), none⟩,
    ⟨(some 25), (.slSl 1 (.t 24) none (some (.c (.p (.s (.int .i64 4))))) none), none⟩,
    ⟨(some 26), (.mv (.t 0)), none⟩,
    ⟨(some 27), (.mv (.t 6)), none⟩,
    ⟨(some 28), (.slSl 1 (.t 26) (some (.c (.p (.s (.int .i64 8))))) (some (.t 27)) none), none⟩,
    ⟨(some 29), (.mkSl 2 1 [(.s (.slice none 0 0)), (.s (.slice none 0 0))] [(0, 1, (.t 25)), (1, 1, (.t 28))]), none⟩,
    ⟨(some 30), (.call 65 [(.t 29)]), none⟩,
    ⟨(some 31), (.call 91 [(.t 30)]), none⟩,
    ⟨(some 32), (.bin .neq (.t 23) (.t 31)), none⟩] (some [0, 1, 3, 0, 8, 0, 0, 96, 248, 511, 1023, 2047]) [0, 6, 32])
  (.cond (.t 32) (.seq (.region [⟨(some 2), (.mv (.c (.p (.s (.slice none 0 0))))), none⟩,
    ⟨(some 3), (.mv (.c (.p (.s (.int .i64 0))))), none⟩,
    ⟨(some 4), (.mv (.c (.p (.s (.int .i64 13))))), none⟩] none [2, 3, 4])
  .ret) .skip))
  (.seq (.region [⟨(some 33), (.mv (.t 0)), none⟩,
    ⟨(some 34), (.mv (.t 6)), none⟩,
    ⟨(some 35), (.slSl 1 (.t 33) (some (.c (.p (.s (.int .i64 8))))) (some (.t 34)) none), none⟩,
    ⟨(some 36), (.mkSl 1 1 [(.s (.slice none 0 0))] [(0, 1, (.t 35))]), none⟩,
    ⟨(some 37), (.call 65 [(.t 36)]), none⟩,
    ⟨(some 38), (.mv (.t 6)), none⟩,
    ⟨(some 2), (.mv (.t 37)), none⟩,
    ⟨(some 3), (.mv (.t 38)), none⟩,
    ⟨(some 4), (.mv (.c (.p (.s (.int .i64 0))))), none⟩] none [2, 3, 4])
  .ret)))))))), [(2, none), (3, none), (4, none)], false⟩
/-- kinfolk/kinfolkref06.Byte -/
def ir53 : IRF := ⟨[0], (.seq (.region [⟨(some 2), (.mv (.c (.p (.s (.int .u8 0))))), none⟩] none [0])
  (.seq (.seq (.region [⟨(some 3), (.mv (.t 0)), none⟩,
    ⟨(some 4), (.nilCk (.t 3)), none⟩,
    ⟨(some 5), (.fieldAddr 2 (.t 4)), none⟩,
    ⟨(some 6), (.load 1 false (.t 5)), none⟩,
    ⟨(some 7), (.bin .neq (.t 6) (.c (.p (.s (.int .i64 0))))), none⟩] none [0, 7])
  (.cond (.t 7) (.seq (.region [⟨(some 2), (.mv (.c (.p (.s (.int .u8 0))))), none⟩] none [2])
  .ret) .skip))
  (.seq (.seq (.region [⟨(some 8), (.mv (.t 0)), none⟩,
    ⟨(some 9), (.nilCk (.t 8)), none⟩,
    ⟨(some 10), (.fieldAddr 1 (.t 9)), none⟩,
    ⟨(some 11), (.load 1 false (.t 10)), none⟩,
    ⟨(some 12), (.mv (.t 0)), none⟩,
    ⟨(some 13), (.nilCk (.t 12)), none⟩,
    ⟨(some 14), (.fieldAddr 0 (.t 13)), none⟩,
    ⟨(some 15), (.load 1 false (.t 14)), none⟩,
    ⟨(some 16), (.len false (.t 15)), none⟩,
    ⟨(some 17), (.bin .geq (.t 11) (.t 16)), none⟩] (some [0, 1, 3, 7, 0, 16, 48, 112, 240, 511]) [0, 17])
  (.cond (.t 17) (.seq (.region [⟨(some 18), (.mv (.t 0)), none⟩,
    ⟨(some 19), (.nilCk (.t 18)), none⟩,
    ⟨(some 20), (.fieldAddr 2 (.t 19)), none⟩,
    ⟨none, (.store 1 (.t 20) (.c (.p (.s (.int .i64 6))))), none⟩] none [])
  (.seq (.region [⟨(some 2), (.mv (.c (.p (.s (.int .u8 0))))), none⟩] none [2])
  .ret)) .skip))
  (.seq (.region [⟨(some 21), (.mv (.t 0)), none⟩,
    ⟨(some 22), (.nilCk (.t 21)), none⟩,
    ⟨(some 23), (.fieldAddr 1 (.t 22)), none⟩,
    ⟨(some 24), (.load 1 false (.t 23)), none⟩,
    ⟨(some 25), (.bin .add (.t 24) (.c (.p (.s (.int .i64 1))))), none⟩,
    ⟨(some 26), (.nilCk (.t 21)), none⟩,
    ⟨(some 27), (.fieldAddr 1 (.t 26)), none⟩,
    ⟨none, (.store 1 (.t 27) (.t 25)), none⟩] none [0])
  (.seq (.region [⟨(some 28), (.mv (.t 0)), none⟩,
    ⟨(some 29), (.nilCk (.t 28)), none⟩,
    ⟨(some 30), (.fieldAddr 0 (.t 29)), none⟩,
    ⟨(some 31), (.load 1 false (.t 30)), none⟩,
    ⟨(some 32), (.mv (.t 0)), none⟩,
    ⟨(some 33), (.nilCk (.t 32)), none⟩,
    ⟨(some 34), (.fieldAddr 1 (.t 33)), none⟩,
    ⟨(some 35), (.load 1 false (.t 34)), none⟩,
    ⟨(some 36), (.bin .sub (.t 35) (.c (.p (.s (.int .i64 1))))), none⟩,
    ⟨(some 37), (.idxASl 1 (.t 31) (.t 36)), none⟩,
    ⟨(some 38), (.load 1 false (.t 37)), none⟩,
    ⟨(some 2), (.mv (.t 38)), none⟩] (some [0, 1, 3, 7, 0, 16, 48, 112, 240, 511, 1023, 2047]) [2])
  .ret))))), [(2, none)], false⟩
/-- kinfolk/kinfolkref06.GetNum -/
def ir54 : IRF := ⟨[0], (.seq (.region [⟨(some 2), (.mv (.c (.p (.s (.int .u64 0))))), none⟩] none [0])
  (.seq (.seq (.region [⟨(some 5), (.mv (.t 0)), none⟩,
    ⟨(some 6), (.nilCk (.t 5)), none⟩,
    ⟨(some 7), (.fieldAddr 2 (.t 6)), none⟩,
    ⟨(some 8), (.load 1 false (.t 7)), none⟩,
    ⟨(some 9), (.bin .neq (.t 8) (.c (.p (.s (.int .i64 0))))), none⟩] none [0, 9])
  (.cond (.t 9) (.seq (.region [⟨(some 2), (.mv (.c (.p (.s (.int .u64 0))))), none⟩] none [2])
  .ret) .skip))
  (.seq (.region [⟨(some 11), (.mv (.t 0)), none⟩,
    ⟨(some 12), (.nilCk (.t 11)), none⟩,
    ⟨(some 13), (.fieldAddr 0 (.t 12)), none⟩,
    ⟨(some 14), (.load 1 false (.t 13)), none⟩,
    ⟨(some 15), (.mv (.t 0)), none⟩,
    ⟨(some 16), (.nilCk (.t 15)), none⟩,
    ⟨(some 17), (.fieldAddr 1 (.t 16)), none⟩,
    ⟨(some 18), (.load 1 false (.t 17)), none⟩,
    ⟨(some 19), (.call 92 [(.t 14), (.t 18)]), none⟩,
    ⟨(some 10), (.mv (.t 19)), none⟩,
    ⟨(some 20), (.ext (.t 10) 0), none⟩,
    ⟨(some 21), (.ext (.t 10) 1), none⟩,
    ⟨(some 3), (.mv (.t 20)), none⟩,
    ⟨(some 4), (.mv (.t 21)), none⟩] (some [0, 1, 3, 7, 0, 16, 48, 112, 255, 511, 1023, 1023, 2047, 8191]) [0, 3, 4])
  (.seq (.seq (.region [⟨(some 22), (.mv (.t 4)), none⟩,
    ⟨(some 23), (.bin .eql (.t 22) (.c (.p (.s (.int .i64 0))))), none⟩] none [0, 3, 4, 23])
  (.cond (.t 23) (.region [⟨(some 24), (.mv (.t 0)), none⟩,
    ⟨(some 25), (.nilCk (.t 24)), none⟩,
    ⟨(some 26), (.fieldAddr 2 (.t 25)), none⟩,
    ⟨none, (.store 1 (.t 26) (.c (.p (.s (.int .i64 6))))), none⟩] none [0, 3, 4]) .skip))
  (.seq (.region [⟨(some 27), (.mv (.t 0)), none⟩,
    ⟨(some 28), (.nilCk (.t 27)), none⟩,
    ⟨(some 29), (.fieldAddr 1 (.t 28)), none⟩,
    ⟨(some 30), (.load 1 false (.t 29)), none⟩,
    ⟨(some 31), (.mv (.t 4)), none⟩,
    ⟨(some 32), (.bin .add (.t 30) (.t 31)), none⟩,
    ⟨(some 33), (.nilCk (.t 27)), none⟩,
    ⟨(some 34), (.fieldAddr 1 (.t 33)), none⟩,
    ⟨none, (.store 1 (.t 34) (.t 32)), none⟩] none [3])
  (.seq (.region [⟨(some 35), (.mv (.t 3)), none⟩,
    ⟨(some 2), (.mv (.t 35)), none⟩] none [2])
  .ret)))))), [(2, none)], false⟩
/-- kinfolk/kinfolkref06.End -/
def ir59 : IRF := ⟨[0], (.seq (.region [⟨(some 2), (.mv (.c (.p (.s (.int .i64 0))))), none⟩] none [0])
  (.seq (.seq (.region [⟨(some 3), (.mv (.t 0)), none⟩,
    ⟨(some 4), (.nilCk (.t 3)), none⟩,
    ⟨(some 5), (.fieldAddr 1 (.t 4)), none⟩,
    ⟨(some 6), (.load 1 false (.t 5)), none⟩,
    ⟨(some 7), (.mv (.t 0)), none⟩,
    ⟨(some 8), (.nilCk (.t 7)), none⟩,
    ⟨(some 9), (.fieldAddr 0 (.t 8)), none⟩,
    ⟨(some 10), (.load 1 false (.t 9)), none⟩,
    ⟨(some 11), (.len false (.t 10)), none⟩,
    ⟨(some 12), (.bin .lss (.t 6) (.t 11)), none⟩] (some [0, 1, 3, 7, 0, 16, 48, 112, 240, 511]) [0, 12])
  (.cond (.t 12) (.region [⟨(some 13), (.mv (.t 0)), none⟩,
    ⟨(some 14), (.call 98 [(.t 13), (.c (.p (.s (.int .i64 6))))]), none⟩] none [0]) .skip))
  (.seq (.region [⟨(some 15), (.mv (.t 0)), none⟩,
    ⟨(some 16), (.nilCk (.t 15)), none⟩,
    ⟨(some 17), (.fieldAddr 2 (.t 16)), none⟩,
    ⟨(some 18), (.load 1 false (.t 17)), none⟩,
    ⟨(some 2), (.mv (.t 18)), none⟩] none [2])
  .ret))), [(2, none)], false⟩
/-- kinfolk/kinfolkref17.Right -/
def ir60_0 : IRC := (.seq (.region [⟨(some 184), (.bin .lss (.t 183) (.t 182)), none⟩] none [1, 3, 181, 182, 183, 184])
  (.seq (.cond (.t 184) .skip (.exit 0))
  (.seq (.block 1 (.seq (.region [⟨(some 185), (.idxASl 4 (.t 181) (.t 183)), none⟩,
    ⟨(some 186), (.load 4 true (.t 185)), none⟩,
    ⟨(some 6), (.alloc false [(.s (.int .u32 0)), (.s (.pointer none)), (.s (.slice none 0 0)), (.s (.bool false))]), none⟩,
    ⟨none, (.store 4 (.t 6) (.t 186)), none⟩] none [1, 3, 6, 181, 182, 183])
  (.seq (.region [⟨(some 187), (.fieldAddr 1 (.t 6)), none⟩,
    ⟨(some 188), (.fieldAddr 2 (.t 187)), none⟩,
    ⟨(some 189), (.load 1 false (.t 188)), none⟩,
    ⟨(some 190), (.mv (.t 189)), none⟩,
    ⟨(some 191), (.fieldAddr 1 (.t 6)), (some (190, true))⟩,
    ⟨(some 192), (.fieldAddr 1 (.t 191)), (some (190, true))⟩,
    ⟨(some 193), (.load 1 false (.t 192)), (some (190, true))⟩,
    ⟨(some 194), (.len false (.t 193)), (some (190, true))⟩,
    ⟨(some 195), (.bin .gtr (.t 194) (.c (.p (.s (.int .i64 0))))), (some (190, true))⟩,
    ⟨(some 196), (.pick (.t 190) (.t 195) (.c (.p (.s (.bool false))))), none⟩,
    ⟨(some 197), (.mv (.t 196)), none⟩,
    ⟨(some 198), (.fieldAddr 1 (.t 6)), (some (197, false))⟩,
    ⟨(some 199), (.fieldAddr 0 (.t 198)), (some (197, false))⟩,
    ⟨(some 200), (.load 1 false (.t 199)), (some (197, false))⟩,
    ⟨(some 201), (.fieldAddr 6 (.t 1)), (some (197, false))⟩,
    ⟨(some 202), (.load 1 false (.t 201)), (some (197, false))⟩,
    ⟨(some 203), (.call 101 [(.t 200), (.t 202)]), (some (197, false))⟩,
    ⟨(some 204), (.un .not (.t 203)), (some (197, false))⟩,
    ⟨(some 205), (.pick (.t 197) (.c (.p (.s (.bool true)))) (.t 204)), none⟩] none [1, 3, 181, 182, 183, 205])
  (.cond (.t 205) (.seq (.region [⟨(some 2), (.mv (.c (.p (.s (.bool false))))), none⟩] none [2])
  .ret) .skip))))
  (.region [⟨(some 206), (.bin .add (.t 183) (.c (.p (.s (.int .i64 1))))), none⟩,
    ⟨(some 183), (.mv (.t 206)), none⟩] none [1, 3, 181, 182, 183]))))
def ir60 : IRF := ⟨[0], (.seq (.region [⟨(some 1), (.box false (.t 0)), none⟩,
    ⟨(some 2), (.mv (.c (.p (.s (.bool false))))), none⟩] none [1])
  (.seq (.seq (.region [⟨(some 7), (.fieldAddr 0 (.t 1)), none⟩,
    ⟨(some 8), (.load 1 false (.t 7)), none⟩,
    ⟨(some 9), (.bin .lss (.t 8) (.c (.p (.s (.int .i64 1))))), none⟩,
    ⟨(some 10), (.mv (.t 9)), none⟩,
    ⟨(some 11), (.fieldAddr 0 (.t 1)), (some (10, false))⟩,
    ⟨(some 12), (.load 1 false (.t 11)), (some (10, false))⟩,
    ⟨(some 13), (.bin .gtr (.t 12) (.c (.p (.s (.int .i64 7))))), (some (10, false))⟩,
    ⟨(some 14), (.pick (.t 10) (.c (.p (.s (.bool true)))) (.t 13)), none⟩,
    ⟨(some 15), (.mv (.t 14)), none⟩,
    ⟨(some 16), (.fieldAddr 1 (.t 1)), (some (15, false))⟩,
    ⟨(some 17), (.load 1 false (.t 16)), (some (15, false))⟩,
    ⟨(some 18), (.bin .lss (.t 17) (.c (.p (.s (.int .i64 0))))), (some (15, false))⟩,
    ⟨(some 19), (.pick (.t 15) (.c (.p (.s (.bool true)))) (.t 18)), none⟩,
    ⟨(some 20), (.mv (.t 19)), none⟩,
    ⟨(some 21), (.fieldAddr 1 (.t 1)), (some (20, false))⟩,
    ⟨(some 22), (.load 1 false (.t 21)), (some (20, false))⟩,
    ⟨(some 23), (.bin .gtr (.t 22) (.c (.p (.s (.int .i64 11))))), (some (20, false))⟩,
    ⟨(some 24), (.pick (.t 20) (.c (.p (.s (.bool true)))) (.t 23)), none⟩,
    ⟨(some 25), (.mv (.t 24)), none⟩,
    ⟨(some 26), (.fieldAddr 2 (.t 1)), (some (25, false))⟩,
    ⟨(some 27), (.load 1 false (.t 26)), (some (25, false))⟩,
    ⟨(some 28), (.bin .lss (.t 27) (.c (.p (.s (.int .i64 0))))), (some (25, false))⟩,
    ⟨(some 29), (.pick (.t 25) (.c (.p (.s (.bool true)))) (.t 28)), none⟩,
    ⟨(some 30), (.mv (.t 29)), none⟩,
    ⟨(some 31), (.fieldAddr 2 (.t 1)), (some (30, false))⟩,
    ⟨(some 32), (.load 1 false (.t 31)), (some (30, false))⟩,
    ⟨(some 33), (.bin .gtr (.t 32) (.c (.p (.s (.int .i64 11))))), (some (30, false))⟩,
    ⟨(some 34), (.pick (.t 30) (.c (.p (.s (.bool true)))) (.t 33)), none⟩,
    ⟨(some 35), (.mv (.t 34)), none⟩,
    ⟨(some 36), (.fieldAddr 1 (.t 1)), (some (35, false))⟩,
    ⟨(some 37), (.load 1 false (.t 36)), (some (35, false))⟩,
    ⟨(some 38), (.fieldAddr 2 (.t 1)), (some (35, false))⟩,
    ⟨(some 39), (.load 1 false (.t 38)), (some (35, false))⟩,
    ⟨(some 40), (.bin .eql (.t 37) (.t 39)), (some (35, false))⟩,
    ⟨(some 41), (.pick (.t 35) (.c (.p (.s (.bool true)))) (.t 40)), none⟩,
    ⟨(some 42), (.mv (.t 41)), none⟩,
    ⟨(some 43), (.fieldAddr 4 (.t 1)), (some (42, false))⟩,
    ⟨(some 44), (.load 1 false (.t 43)), (some (42, false))⟩,
    ⟨(some 45), (.bin .lss (.t 44) (.c (.p (.s (.int .i64 0))))), (some (42, false))⟩,
    ⟨(some 46), (.pick (.t 42) (.c (.p (.s (.bool true)))) (.t 45)), none⟩,
    ⟨(some 47), (.mv (.t 46)), none⟩,
    ⟨(some 48), (.fieldAddr 4 (.t 1)), (some (47, false))⟩,
    ⟨(some 49), (.load 1 false (.t 48)), (some (47, false))⟩,
    ⟨(some 50), (.bin .gtr (.t 49) (.c (.p (.s (.int .i64 255))))), (some (47, false))⟩,
    ⟨(some 51), (.pick (.t 47) (.c (.p (.s (.bool true)))) (.t 50)), none⟩] none [1, 51])
  (.cond (.t 51) (.seq (.region [⟨(some 2), (.mv (.c (.p (.s (.bool false))))), none⟩] none [2])
  .ret) .skip))
  (.seq (.region [⟨(some 52), (.fieldAddr 0 (.t 1)), none⟩,
    ⟨(some 53), (.load 1 false (.t 52)), none⟩,
    ⟨(some 3), (.mv (.t 53)), none⟩] none [1, 3])
  (.seq (.seq (.region [⟨(some 54), (.fieldAddr 3 (.t 1)), none⟩,
    ⟨(some 55), (.load 1 false (.t 54)), none⟩,
    ⟨(some 56), (.bin .neq (.t 55) (.c (.p (.s (.int .u64 0))))), none⟩,
    ⟨(some 57), (.mv (.t 56)), none⟩,
    ⟨(some 58), (.mv (.t 3)), (some (57, true))⟩,
    ⟨(some 59), (.bin .gtr (.t 58) (.c (.p (.s (.int .i64 4))))), (some (57, true))⟩,
    ⟨(some 60), (.pick (.t 57) (.t 59) (.c (.p (.s (.bool false))))), none⟩,
    ⟨(some 61), (.mv (.t 60)), none⟩,
    ⟨(some 62), (.fieldAddr 4 (.t 1)), (some (61, false))⟩,
    ⟨(some 63), (.load 1 false (.t 62)), (some (61, false))⟩,
    ⟨(some 64), (.bin .neq (.t 63) (.c (.p (.s (.int .i64 0))))), (some (61, false))⟩,
    ⟨(some 65), (.mv (.t 64)), (some (61, false))⟩,
    ⟨(some 66), (.mv (.t 3)), (some (65, true))⟩,
    ⟨(some 67), (.bin .neq (.t 66) (.c (.p (.s (.int .i64 3))))), (some (65, true))⟩,
    ⟨(some 68), (.pick (.t 65) (.t 67) (.c (.p (.s (.bool false))))), (some (61, false))⟩,
    ⟨(some 69), (.mv (.t 68)), (some (61, false))⟩,
    ⟨(some 70), (.mv (.t 3)), (some (69, true))⟩,
    ⟨(some 71), (.bin .neq (.t 70) (.c (.p (.s (.int .i64 4))))), (some (69, true))⟩,
    ⟨(some 72), (.pick (.t 69) (.t 71) (.c (.p (.s (.bool false))))), (some (61, false))⟩,
    ⟨(some 73), (.pick (.t 61) (.c (.p (.s (.bool true)))) (.t 72)), none⟩,
    ⟨(some 74), (.mv (.t 73)), none⟩,
    ⟨(some 75), (.fieldAddr 5 (.t 1)), (some (74, false))⟩,
    ⟨(some 76), (.load 1 false (.t 75)), (some (74, false))⟩,
    ⟨(some 77), (.mv (.t 76)), (some (74, false))⟩,
    ⟨(some 78), (.mv (.t 3)), (some (77, true))⟩,
    ⟨(some 79), (.bin .neq (.t 78) (.c (.p (.s (.int .i64 3))))), (some (77, true))⟩,
    ⟨(some 80), (.pick (.t 77) (.t 79) (.c (.p (.s (.bool false))))), (some (74, false))⟩,
    ⟨(some 81), (.pick (.t 74) (.c (.p (.s (.bool true)))) (.t 80)), none⟩,
    ⟨(some 82), (.mv (.t 81)), none⟩,
    ⟨(some 83), (.fieldAddr 12 (.t 1)), (some (82, false))⟩,
    ⟨(some 84), (.load 1 false (.t 83)), (some (82, false))⟩,
    ⟨(some 85), (.bin .neq (.t 84) (.c (.p (.s (.int .u64 0))))), (some (82, false))⟩,
    ⟨(some 86), (.mv (.t 85)), (some (82, false))⟩,
    ⟨(some 87), (.mv (.t 3)), (some (86, true))⟩,
    ⟨(some 88), (.bin .neq (.t 87) (.c (.p (.s (.int .i64 7))))), (some (86, true))⟩,
    ⟨(some 89), (.pick (.t 86) (.t 88) (.c (.p (.s (.bool false))))), (some (82, false))⟩,
    ⟨(some 90), (.pick (.t 82) (.c (.p (.s (.bool true)))) (.t 89)), none⟩] none [1, 3, 90])
  (.cond (.t 90) (.seq (.region [⟨(some 2), (.mv (.c (.p (.s (.bool false))))), none⟩] none [2])
  .ret) .skip))
  (.seq (.region [⟨(some 91), (.fieldAddr 6 (.t 1)), none⟩,
    ⟨(some 92), (.load 1 false (.t 91)), none⟩,
    ⟨(some 93), (.nilCk (.t 92)), none⟩,
    ⟨(some 94), (.fieldAddr 1 (.t 93)), none⟩,
    ⟨(some 95), (.load 1 false (.t 94)), none⟩,
    ⟨(some 96), (.eq false .ptr (.t 95) (.c (.p (.s (.pointer none))))), none⟩,
    ⟨(some 97), (.mv (.t 96)), none⟩,
    ⟨(some 98), (.fieldAddr 6 (.t 1)), (some (97, true))⟩,
    ⟨(some 99), (.load 1 false (.t 98)), (some (97, true))⟩,
    ⟨(some 100), (.nilCk (.t 99)), (some (97, true))⟩,
    ⟨(some 101), (.fieldAddr 0 (.t 100)), (some (97, true))⟩,
    ⟨(some 102), (.load 1 false (.t 101)), (some (97, true))⟩,
    ⟨(some 103), (.bin .eql (.t 102) (.c (.p (.s (.int .u64 0))))), (some (97, true))⟩,
    ⟨(some 104), (.pick (.t 97) (.t 103) (.c (.p (.s (.bool false))))), none⟩,
    ⟨(some 4), (.mv (.t 104)), none⟩] none [1, 3, 4])
  (.seq (.seq (.region [⟨(some 105), (.mv (.t 4)), none⟩,
    ⟨(some 106), (.un .not (.t 105)), none⟩,
    ⟨(some 107), (.mv (.t 106)), none⟩,
    ⟨(some 108), (.mv (.t 3)), (some (107, true))⟩,
    ⟨(some 109), (.bin .eql (.t 108) (.c (.p (.s (.int .i64 4))))), (some (107, true))⟩,
    ⟨(some 110), (.mv (.t 109)), (some (107, true))⟩,
    ⟨(some 111), (.mv (.t 3)), (some (110, false))⟩,
    ⟨(some 112), (.bin .eql (.t 111) (.c (.p (.s (.int .i64 5))))), (some (110, false))⟩,
    ⟨(some 113), (.pick (.t 110) (.c (.p (.s (.bool true)))) (.t 112)), (some (107, true))⟩,
    ⟨(some 114), (.mv (.t 113)), (some (107, true))⟩,
    ⟨(some 115), (.mv (.t 3)), (some (114, false))⟩,
    ⟨(some 116), (.bin .eql (.t 115) (.c (.p (.s (.int .i64 7))))), (some (114, false))⟩,
    ⟨(some 117), (.pick (.t 114) (.c (.p (.s (.bool true)))) (.t 116)), (some (107, true))⟩,
    ⟨(some 118), (.pick (.t 107) (.t 117) (.c (.p (.s (.bool false))))), none⟩,
    ⟨(some 119), (.mv (.t 118)), none⟩,
    ⟨(some 120), (.fieldAddr 7 (.t 1)), (some (119, false))⟩,
    ⟨(some 121), (.load 1 false (.t 120)), (some (119, false))⟩,
    ⟨(some 122), (.len false (.t 121)), (some (119, false))⟩,
    ⟨(some 123), (.bin .gtr (.t 122) (.c (.p (.s (.int .i64 0))))), (some (119, false))⟩,
    ⟨(some 124), (.mv (.t 123)), (some (119, false))⟩,
    ⟨(some 125), (.mv (.t 3)), (some (124, true))⟩,
    ⟨(some 126), (.bin .neq (.t 125) (.c (.p (.s (.int .i64 3))))), (some (124, true))⟩,
    ⟨(some 127), (.pick (.t 124) (.t 126) (.c (.p (.s (.bool false))))), (some (119, false))⟩,
    ⟨(some 128), (.mv (.t 127)), (some (119, false))⟩,
    ⟨(some 129), (.mv (.t 3)), (some (128, true))⟩,
    ⟨(some 130), (.bin .neq (.t 129) (.c (.p (.s (.int .i64 6))))), (some (128, true))⟩,
    ⟨(some 131), (.pick (.t 128) (.t 130) (.c (.p (.s (.bool false))))), (some (119, false))⟩,
    ⟨(some 132), (.pick (.t 119) (.c (.p (.s (.bool true)))) (.t 131)), none⟩] none [1, 3, 132])
  (.cond (.t 132) (.seq (.region [⟨(some 2), (.mv (.c (.p (.s (.bool false))))), none⟩] none [2])
  .ret) .skip))
  (.seq (.seq (.region [⟨(some 133), (.mv (.t 3)), none⟩,
    ⟨(some 134), (.bin .eql (.t 133) (.c (.p (.s (.int .i64 6))))), none⟩] none [1, 3, 134])
  (.cond (.t 134) (.seq (.region [⟨(some 135), (.fieldAddr 8 (.t 1)), none⟩,
    ⟨(some 136), (.load 4 true (.t 135)), none⟩,
    ⟨(some 137), (.call 100 [(.t 136)]), none⟩,
    ⟨(some 138), (.un .not (.t 137)), none⟩,
    ⟨(some 139), (.mv (.t 138)), none⟩,
    ⟨(some 140), (.fieldAddr 8 (.t 1)), (some (139, false))⟩,
    ⟨(some 141), (.fieldAddr 1 (.t 140)), (some (139, false))⟩,
    ⟨(some 142), (.load 1 false (.t 141)), (some (139, false))⟩,
    ⟨(some 143), (.fieldAddr 1 (.t 1)), (some (139, false))⟩,
    ⟨(some 144), (.load 1 false (.t 143)), (some (139, false))⟩,
    ⟨(some 145), (.bin .neq (.t 142) (.t 144)), (some (139, false))⟩,
    ⟨(some 146), (.pick (.t 139) (.c (.p (.s (.bool true)))) (.t 145)), none⟩,
    ⟨(some 147), (.mv (.t 146)), none⟩,
    ⟨(some 148), (.fieldAddr 8 (.t 1)), (some (147, false))⟩,
    ⟨(some 149), (.fieldAddr 2 (.t 148)), (some (147, false))⟩,
    ⟨(some 150), (.load 1 false (.t 149)), (some (147, false))⟩,
    ⟨(some 151), (.fieldAddr 2 (.t 1)), (some (147, false))⟩,
    ⟨(some 152), (.load 1 false (.t 151)), (some (147, false))⟩,
    ⟨(some 153), (.bin .neq (.t 150) (.t 152)), (some (147, false))⟩,
    ⟨(some 154), (.pick (.t 147) (.c (.p (.s (.bool true)))) (.t 153)), none⟩] none [1, 3, 154])
  (.cond (.t 154) (.seq (.region [⟨(some 2), (.mv (.c (.p (.s (.bool false))))), none⟩] none [2])
  .ret) .skip)) (.seq (.region [⟨(some 155), (.fieldAddr 8 (.t 1)), none⟩,
    ⟨(some 156), (.fieldAddr 0 (.t 155)), none⟩,
    ⟨(some 157), (.load 1 false (.t 156)), none⟩,
    ⟨(some 158), (.bin .neq (.t 157) (.c (.p (.s (.int .u64 0))))), none⟩,
    ⟨(some 159), (.mv (.t 158)), none⟩,
    ⟨(some 160), (.fieldAddr 8 (.t 1)), (some (159, false))⟩,
    ⟨(some 161), (.fieldAddr 1 (.t 160)), (some (159, false))⟩,
    ⟨(some 162), (.load 1 false (.t 161)), (some (159, false))⟩,
    ⟨(some 163), (.bin .neq (.t 162) (.c (.p (.s (.int .i64 0))))), (some (159, false))⟩,
    ⟨(some 164), (.pick (.t 159) (.c (.p (.s (.bool true)))) (.t 163)), none⟩,
    ⟨(some 165), (.mv (.t 164)), none⟩,
    ⟨(some 166), (.fieldAddr 8 (.t 1)), (some (165, false))⟩,
    ⟨(some 167), (.fieldAddr 2 (.t 166)), (some (165, false))⟩,
    ⟨(some 168), (.load 1 false (.t 167)), (some (165, false))⟩,
    ⟨(some 169), (.bin .neq (.t 168) (.c (.p (.s (.int .i64 0))))), (some (165, false))⟩,
    ⟨(some 170), (.pick (.t 165) (.c (.p (.s (.bool true)))) (.t 169)), none⟩,
    ⟨(some 171), (.mv (.t 170)), none⟩,
    ⟨(some 172), (.fieldAddr 8 (.t 1)), (some (171, false))⟩,
    ⟨(some 173), (.fieldAddr 3 (.t 172)), (some (171, false))⟩,
    ⟨(some 174), (.load 1 false (.t 173)), (some (171, false))⟩,
    ⟨(some 175), (.nilCk (.t 174)), (some (171, false))⟩,
    ⟨(some 176), (.fieldAddr 0 (.t 175)), (some (171, false))⟩,
    ⟨(some 177), (.load 1 false (.t 176)), (some (171, false))⟩,
    ⟨(some 178), (.bin .neq (.t 177) (.c (.p (.s (.int .i64 0))))), (some (171, false))⟩,
    ⟨(some 179), (.pick (.t 171) (.c (.p (.s (.bool true)))) (.t 178)), none⟩] none [1, 3, 179])
  (.cond (.t 179) (.seq (.region [⟨(some 2), (.mv (.c (.p (.s (.bool false))))), none⟩] none [2])
  .ret) .skip))))
  (.seq (.seq (.region [⟨(some 180), (.fieldAddr 7 (.t 1)), none⟩,
    ⟨(some 181), (.load 1 false (.t 180)), none⟩,
    ⟨(some 182), (.len false (.t 181)), none⟩,
    ⟨(some 183), (.mv (.c (.p (.s (.int .i64 0))))), none⟩] none [1, 3, 181, 182, 183])
  (.block 0 (.loop ir60_0)))
  (.seq (.region [⟨(some 207), (.mv (.t 3)), none⟩,
    ⟨(some 208), (.bin .neq (.t 207) (.c (.p (.s (.int .i64 3))))), none⟩,
    ⟨(some 209), (.mv (.t 208)), none⟩,
    ⟨(some 210), (.fieldAddr 7 (.t 1)), (some (209, false))⟩,
    ⟨(some 211), (.load 1 false (.t 210)), (some (209, false))⟩,
    ⟨(some 212), (.len false (.t 211)), (some (209, false))⟩,
    ⟨(some 213), (.bin .leq (.t 212) (.c (.p (.s (.int .i64 4))))), (some (209, false))⟩,
    ⟨(some 214), (.pick (.t 209) (.c (.p (.s (.bool true)))) (.t 213)), none⟩,
    ⟨(some 2), (.mv (.t 214)), none⟩] none [2])
  .ret))))))))), [(2, none)], false⟩
/-- kinfolk/kinfolkref06.Num -/
def ir61 : IRF := ⟨[0], (.seq (.region [⟨(some 2), (.mv (.c (.p (.s (.slice none 0 0))))), none⟩] none [0])
  (.seq (.seq (.region [⟨(some 3), (.mv (.t 0)), none⟩,
    ⟨(some 4), (.bin .lss (.t 3) (.c (.p (.s (.int .u64 128))))), none⟩] none [0, 4])
  (.cond (.t 4) (.seq (.region [⟨(some 5), (.mv (.t 0)), none⟩,
    ⟨(some 6), (.cvt .u8 (.t 5)), none⟩,
    ⟨(some 7), (.mkSl 1 1 [(.s (.int .u8 0))] [(0, 1, (.t 6))]), none⟩,
    ⟨(some 2), (.mv (.t 7)), none⟩] none [2])
  .ret) .skip))
  (.seq (.region [⟨(some 8), (.mv (.t 0)), none⟩,
    ⟨(some 9), (.bin .rem (.t 8) (.c (.p (.s (.int .u64 128))))), none⟩,
    ⟨(some 10), (.bin .add (.t 9) (.c (.p (.s (.int .u64 128))))), none⟩,
    ⟨(some 11), (.cvt .u8 (.t 10)), none⟩,
    ⟨(some 12), (.mkSl 1 1 [(.s (.int .u8 0))] [(0, 1, (.t 11))]), none⟩,
    ⟨(some 13), (.mv (.t 0)), none⟩,
    ⟨(some 14), (.bin .quo (.t 13) (.c (.p (.s (.int .u64 128))))), none⟩,
    ⟨(some 15), (.call 61 [(.t 14)]), none⟩,
    ⟨(some 16), (.app 1 1 (.t 12) (.t 15)), none⟩,
    ⟨(some 2), (.mv (.t 16)), none⟩] none [2])
  .ret))), [(2, none)], true⟩
/-- kinfolk/kinfolkref06.Text -/
def ir62 : IRF := ⟨[0], (.seq (.region [⟨(some 2), (.mv (.c (.p (.s (.slice none 0 0))))), none⟩] none [0])
  (.seq (.region [⟨(some 3), (.mv (.t 0)), none⟩,
    ⟨(some 4), (.len true (.t 3)), none⟩,
    ⟨(some 5), (.cvt .u64 (.t 4)), none⟩,
    ⟨(some 6), (.call 61 [(.t 5)]), none⟩,
    ⟨(some 7), (.mv (.t 0)), none⟩,
    ⟨(some 8), (.s2b (.t 7)), none⟩,
    ⟨(some 9), (.app 1 1 (.t 6) (.t 8)), none⟩,
    ⟨(some 2), (.mv (.t 9)), none⟩] none [2])
  .ret)), [(2, none)], true⟩
/-- kinfolk/kinfolkref05.Bytes -/
def ir63_0 : IRC := (.seq (.seq (.region [⟨(some 13), (.mv (.t 6)), none⟩,
    ⟨(some 14), (.bin .lss (.t 13) (.c (.p (.s (.int .i64 8))))), none⟩] none [0, 3, 4, 5, 6, 14])
  (.cond (.t 14) .skip (.exit 2)))
  (.seq (.block 3 (.seq (.region [⟨(some 17), (.mv (.t 5)), none⟩,
    ⟨(some 18), (.bin .mul (.t 17) (.c (.p (.s (.int .u8 2))))), none⟩,
    ⟨(some 5), (.mv (.t 18)), none⟩] none [0, 3, 4, 5, 6])
  (.seq (.region [⟨(some 19), (.mv (.t 4)), none⟩,
    ⟨(some 20), (.mv (.t 6)), none⟩,
    ⟨(some 21), (.bin .add (.t 19) (.t 20)), none⟩,
    ⟨(some 22), (.mv (.t 0)), none⟩,
    ⟨(some 23), (.len false (.t 22)), none⟩,
    ⟨(some 24), (.bin .lss (.t 21) (.t 23)), none⟩,
    ⟨(some 25), (.mv (.t 24)), none⟩,
    ⟨(some 26), (.mv (.t 0)), (some (25, true))⟩,
    ⟨(some 27), (.mv (.t 4)), (some (25, true))⟩,
    ⟨(some 28), (.mv (.t 6)), (some (25, true))⟩,
    ⟨(some 29), (.bin .add (.t 27) (.t 28)), (some (25, true))⟩,
    ⟨(some 30), (.idxASl 1 (.t 26) (.t 29)), (some (25, true))⟩,
    ⟨(some 31), (.load 1 false (.t 30)), (some (25, true))⟩,
    ⟨(some 32), (.pick (.t 25) (.t 31) (.c (.p (.s (.bool false))))), none⟩] none [0, 3, 4, 5, 6, 32])
  (.cond (.t 32) (.region [⟨(some 33), (.mv (.t 5)), none⟩,
    ⟨(some 34), (.bin .add (.t 33) (.c (.p (.s (.int .u8 1))))), none⟩,
    ⟨(some 5), (.mv (.t 34)), none⟩] none [0, 3, 4, 5, 6]) .skip))))
  (.region [⟨(some 15), (.mv (.t 6)), none⟩,
    ⟨(some 16), (.bin .add (.t 15) (.c (.p (.s (.int .i64 1))))), none⟩,
    ⟨(some 6), (.mv (.t 16)), none⟩] none [0, 3, 4, 5, 6])))
def ir63_1 : IRC := (.seq (.seq (.region [⟨(some 7), (.mv (.t 4)), none⟩,
    ⟨(some 8), (.mv (.t 0)), none⟩,
    ⟨(some 9), (.len false (.t 8)), none⟩,
    ⟨(some 10), (.bin .lss (.t 7) (.t 9)), none⟩] none [0, 3, 4, 10])
  (.cond (.t 10) .skip (.exit 0)))
  (.seq (.block 1 (.seq (.region [⟨(some 5), (.mv (.c (.p (.s (.int .u8 0))))), none⟩] none [0, 3, 4, 5])
  (.seq (.seq (.region [⟨(some 6), (.mv (.c (.p (.s (.int .i64 0))))), none⟩] none [0, 3, 4, 5, 6])
  (.block 2 (.loop ir63_0)))
  (.region [⟨(some 35), (.mv (.t 3)), none⟩,
    ⟨(some 36), (.mv (.t 5)), none⟩,
    ⟨(some 37), (.mkSl 1 1 [(.s (.int .u8 0))] [(0, 1, (.t 36))]), none⟩,
    ⟨(some 38), (.app 1 1 (.t 35) (.t 37)), none⟩,
    ⟨(some 3), (.mv (.t 38)), none⟩] none [0, 3, 4]))))
  (.region [⟨(some 11), (.mv (.t 4)), none⟩,
    ⟨(some 12), (.bin .add (.t 11) (.c (.p (.s (.int .i64 8))))), none⟩,
    ⟨(some 4), (.mv (.t 12)), none⟩] none [0, 3, 4])))
def ir63 : IRF := ⟨[0], (.seq (.region [⟨(some 2), (.mv (.c (.p (.s (.slice none 0 0))))), none⟩] none [0])
  (.seq (.region [⟨(some 3), (.mv (.c (.p (.s (.slice none 0 0))))), none⟩] none [0, 3])
  (.seq (.seq (.region [⟨(some 4), (.mv (.c (.p (.s (.int .i64 0))))), none⟩] none [0, 3, 4])
  (.block 0 (.loop ir63_1)))
  (.seq (.region [⟨(some 39), (.mv (.t 3)), none⟩,
    ⟨(some 2), (.mv (.t 39)), none⟩] none [2])
  .ret)))), [(2, none)], false⟩
/-- kinfolk/kinfolkref07.Event -/
def ir64 : IRF := ⟨[0, 1], (.seq (.region [⟨(some 4), (.mv (.c (.p (.s (.slice none 0 0))))), none⟩] none [0, 1])
  (.seq (.seq (.region [⟨(some 5), (.mv (.t 1)), none⟩,
    ⟨(some 6), (.nilCk (.t 5)), none⟩,
    ⟨(some 7), (.fieldAddr 1 (.t 6)), none⟩,
    ⟨(some 8), (.load 1 false (.t 7)), none⟩,
    ⟨(some 9), (.eq false .ptr (.t 8) (.c (.p (.s (.pointer none))))), none⟩] none [0, 1, 9])
  (.cond (.t 9) (.seq (.region [⟨(some 10), (.mv (.t 0)), none⟩,
    ⟨(some 11), (.call 103 [(.t 10), (.c (.p (.s (.int .u64 1)))), (.c (.p (.s (.int .i64 1))))]), none⟩,
    ⟨(some 12), (.mv (.t 1)), none⟩,
    ⟨(some 13), (.nilCk (.t 12)), none⟩,
    ⟨(some 14), (.fieldAddr 0 (.t 13)), none⟩,
    ⟨(some 15), (.load 1 false (.t 14)), none⟩,
    ⟨(some 16), (.call 102 [(.t 11), (.t 15)]), none⟩,
    ⟨(some 4), (.mv (.t 16)), none⟩] (some [0, 1, 0, 4, 12, 28, 63, 127]) [4])
  .ret) .skip))
  (.seq (.region [⟨(some 17), (.mv (.t 0)), none⟩,
    ⟨(some 18), (.call 103 [(.t 17), (.c (.p (.s (.int .u64 0)))), (.c (.p (.s (.int .i64 1))))]), none⟩,
    ⟨(some 0), (.mv (.t 18)), none⟩] none [0, 1])
  (.seq (.seq (.region [⟨(some 19), (.mv (.t 1)), none⟩,
    ⟨(some 20), (.nilCk (.t 19)), none⟩,
    ⟨(some 21), (.fieldAddr 0 (.t 20)), none⟩,
    ⟨(some 22), (.load 1 false (.t 21)), none⟩,
    ⟨(some 23), (.bin .eql (.t 22) (.c (.p (.s (.int .u64 0))))), none⟩] none [0, 1, 23])
  (.cond (.t 23) (.seq (.seq (.region [⟨(some 24), (.mv (.t 1)), none⟩,
    ⟨(some 25), (.nilCk (.t 24)), none⟩,
    ⟨(some 26), (.fieldAddr 1 (.t 25)), none⟩,
    ⟨(some 27), (.load 1 false (.t 26)), none⟩,
    ⟨(some 28), (.call 104 [(.t 27)]), none⟩] none [0, 1, 28])
  (.cond (.t 28) (.seq (.region [⟨(some 29), (.mv (.t 0)), none⟩,
    ⟨(some 30), (.call 103 [(.t 29), (.c (.p (.s (.int .u64 0)))), (.c (.p (.s (.int .i64 2))))]), none⟩,
    ⟨(some 31), (.mv (.t 1)), none⟩,
    ⟨(some 32), (.nilCk (.t 31)), none⟩,
    ⟨(some 33), (.fieldAddr 2 (.t 32)), none⟩,
    ⟨(some 34), (.load 1 false (.t 33)), none⟩,
    ⟨(some 35), (.call 64 [(.t 30), (.t 34)]), none⟩,
    ⟨(some 4), (.mv (.t 35)), none⟩] (some [0, 1, 0, 4, 12, 28, 63, 127]) [4])
  .ret) .skip))
  (.seq (.seq (.region [⟨(some 36), (.mv (.t 1)), none⟩,
    ⟨(some 37), (.nilCk (.t 36)), none⟩,
    ⟨(some 38), (.fieldAddr 2 (.t 37)), none⟩,
    ⟨(some 39), (.load 1 false (.t 38)), none⟩,
    ⟨(some 40), (.call 104 [(.t 39)]), none⟩] none [0, 1, 40])
  (.cond (.t 40) (.seq (.region [⟨(some 41), (.mv (.t 0)), none⟩,
    ⟨(some 42), (.call 103 [(.t 41), (.c (.p (.s (.int .u64 1)))), (.c (.p (.s (.int .i64 2))))]), none⟩,
    ⟨(some 43), (.mv (.t 1)), none⟩,
    ⟨(some 44), (.nilCk (.t 43)), none⟩,
    ⟨(some 45), (.fieldAddr 1 (.t 44)), none⟩,
    ⟨(some 46), (.load 1 false (.t 45)), none⟩,
    ⟨(some 47), (.call 64 [(.t 42), (.t 46)]), none⟩,
    ⟨(some 4), (.mv (.t 47)), none⟩] (some [0, 1, 0, 4, 12, 28, 63, 127]) [4])
  .ret) .skip))
  (.seq (.region [⟨(some 48), (.mv (.t 0)), none⟩,
    ⟨(some 49), (.call 103 [(.t 48), (.c (.p (.s (.int .u64 2)))), (.c (.p (.s (.int .i64 2))))]), none⟩,
    ⟨(some 50), (.mv (.t 1)), none⟩,
    ⟨(some 51), (.nilCk (.t 50)), none⟩,
    ⟨(some 52), (.fieldAddr 1 (.t 51)), none⟩,
    ⟨(some 53), (.load 1 false (.t 52)), none⟩,
    ⟨(some 54), (.call 64 [(.t 49), (.t 53)]), none⟩,
    ⟨(some 55), (.mv (.t 1)), none⟩,
    ⟨(some 56), (.nilCk (.t 55)), none⟩,
    ⟨(some 57), (.fieldAddr 2 (.t 56)), none⟩,
    ⟨(some 58), (.load 1 false (.t 57)), none⟩,
    ⟨(some 59), (.call 64 [(.t 54), (.t 58)]), none⟩,
    ⟨(some 4), (.mv (.t 59)), none⟩] (some [0, 1, 0, 4, 12, 28, 63, 0, 128, 384, 896, 2047, 4095]) [4])
  .ret))) .skip))
  (.seq (.region [⟨(some 60), (.mv (.t 0)), none⟩,
    ⟨(some 61), (.call 103 [(.t 60), (.c (.p (.s (.int .u64 3)))), (.c (.p (.s (.int .i64 2))))]), none⟩,
    ⟨(some 0), (.mv (.t 61)), none⟩] none [0, 1])
  (.seq (.seq (.region [⟨(some 62), (.mv (.t 1)), none⟩,
    ⟨(some 63), (.nilCk (.t 62)), none⟩,
    ⟨(some 64), (.fieldAddr 1 (.t 63)), none⟩,
    ⟨(some 65), (.load 1 false (.t 64)), none⟩,
    ⟨(some 66), (.call 104 [(.t 65)]), none⟩] none [0, 1, 66])
  (.cond (.t 66) (.seq (.region [⟨(some 67), (.mv (.t 0)), none⟩,
    ⟨(some 68), (.call 103 [(.t 67), (.c (.p (.s (.int .u64 0)))), (.c (.p (.s (.int .i64 2))))]), none⟩,
    ⟨(some 69), (.mv (.t 1)), none⟩,
    ⟨(some 70), (.nilCk (.t 69)), none⟩,
    ⟨(some 71), (.fieldAddr 0 (.t 70)), none⟩,
    ⟨(some 72), (.load 1 false (.t 71)), none⟩,
    ⟨(some 73), (.call 102 [(.t 68), (.t 72)]), none⟩,
    ⟨(some 74), (.mv (.t 1)), none⟩,
    ⟨(some 75), (.nilCk (.t 74)), none⟩,
    ⟨(some 76), (.fieldAddr 2 (.t 75)), none⟩,
    ⟨(some 77), (.load 1 false (.t 76)), none⟩,
    ⟨(some 78), (.call 64 [(.t 73), (.t 77)]), none⟩,
    ⟨(some 4), (.mv (.t 78)), none⟩] (some [0, 1, 0, 4, 12, 28, 63, 0, 128, 384, 896, 2047, 4095]) [4])
  .ret) .skip))
  (.seq (.seq (.region [⟨(some 79), (.mv (.t 1)), none⟩,
    ⟨(some 80), (.nilCk (.t 79)), none⟩,
    ⟨(some 81), (.fieldAddr 2 (.t 80)), none⟩,
    ⟨(some 82), (.load 1 false (.t 81)), none⟩,
    ⟨(some 83), (.call 104 [(.t 82)]), none⟩] none [0, 1, 83])
  (.cond (.t 83) (.seq (.region [⟨(some 84), (.mv (.t 0)), none⟩,
    ⟨(some 85), (.call 103 [(.t 84), (.c (.p (.s (.int .u64 1)))), (.c (.p (.s (.int .i64 2))))]), none⟩,
    ⟨(some 86), (.mv (.t 1)), none⟩,
    ⟨(some 87), (.nilCk (.t 86)), none⟩,
    ⟨(some 88), (.fieldAddr 0 (.t 87)), none⟩,
    ⟨(some 89), (.load 1 false (.t 88)), none⟩,
    ⟨(some 90), (.call 102 [(.t 85), (.t 89)]), none⟩,
    ⟨(some 91), (.mv (.t 1)), none⟩,
    ⟨(some 92), (.nilCk (.t 91)), none⟩,
    ⟨(some 93), (.fieldAddr 1 (.t 92)), none⟩,
    ⟨(some 94), (.load 1 false (.t 93)), none⟩,
    ⟨(some 95), (.call 64 [(.t 90), (.t 94)]), none⟩,
    ⟨(some 4), (.mv (.t 95)), none⟩] (some [0, 1, 0, 4, 12, 28, 63, 0, 128, 384, 896, 2047, 4095]) [4])
  .ret) .skip))
  (.seq (.region [⟨(some 96), (.mv (.t 0)), none⟩,
    ⟨(some 97), (.call 103 [(.t 96), (.c (.p (.s (.int .u64 1)))), (.c (.p (.s (.int .i64 1))))]), none⟩,
    ⟨(some 98), (.mv (.t 1)), none⟩,
    ⟨(some 99), (.nilCk (.t 98)), none⟩,
    ⟨(some 100), (.fieldAddr 0 (.t 99)), none⟩,
    ⟨(some 101), (.load 1 false (.t 100)), none⟩,
    ⟨(some 102), (.call 102 [(.t 97), (.t 101)]), none⟩,
    ⟨(some 103), (.mv (.t 1)), none⟩,
    ⟨(some 104), (.nilCk (.t 103)), none⟩,
    ⟨(some 105), (.fieldAddr 1 (.t 104)), none⟩,
    ⟨(some 106), (.load 1 false (.t 105)), none⟩,
    ⟨(some 107), (.call 64 [(.t 102), (.t 106)]), none⟩,
    ⟨(some 108), (.mv (.t 1)), none⟩,
    ⟨(some 109), (.nilCk (.t 108)), none⟩,
    ⟨(some 110), (.fieldAddr 2 (.t 109)), none⟩,
    ⟨(some 111), (.load 1 false (.t 110)), none⟩,
    ⟨(some 112), (.call 64 [(.t 107), (.t 111)]), none⟩,
    ⟨(some 4), (.mv (.t 112)), none⟩] (some [0, 1, 0, 4, 12, 28, 63, 0, 128, 384, 896, 2047, 0, 4096, 12288, 28672, 65535, 131071]) [4])
  .ret)))))))), [(4, none)], false⟩
/-- kinfolk/kinfolkref06.Join -/
def ir65_0 : IRC := (.seq (.region [⟨(some 9), (.bin .lss (.t 8) (.t 7)), none⟩] none [3, 6, 7, 8, 9])
  (.seq (.cond (.t 9) .skip (.exit 0))
  (.seq (.block 1 (.seq (.region [⟨(some 10), (.idxASl 1 (.t 6) (.t 8)), none⟩,
    ⟨(some 11), (.load 1 false (.t 10)), none⟩,
    ⟨(some 5), (.mv (.t 11)), none⟩] none [3, 5, 6, 7, 8])
  (.region [⟨(some 12), (.mv (.t 3)), none⟩,
    ⟨(some 13), (.mv (.t 5)), none⟩,
    ⟨(some 14), (.app 1 1 (.t 12) (.t 13)), none⟩,
    ⟨(some 3), (.mv (.t 14)), none⟩] none [3, 6, 7, 8])))
  (.region [⟨(some 15), (.bin .add (.t 8) (.c (.p (.s (.int .i64 1))))), none⟩,
    ⟨(some 8), (.mv (.t 15)), none⟩] none [3, 6, 7, 8]))))
def ir65 : IRF := ⟨[0], (.seq (.region [⟨(some 2), (.mv (.c (.p (.s (.slice none 0 0))))), none⟩] none [0])
  (.seq (.region [⟨(some 3), (.mv (.c (.p (.s (.slice none 0 0))))), none⟩] none [0, 3])
  (.seq (.seq (.region [⟨(some 6), (.mv (.t 0)), none⟩,
    ⟨(some 7), (.len false (.t 6)), none⟩,
    ⟨(some 8), (.mv (.c (.p (.s (.int .i64 0))))), none⟩] none [3, 6, 7, 8])
  (.block 0 (.loop ir65_0)))
  (.seq (.region [⟨(some 16), (.mv (.t 3)), none⟩,
    ⟨(some 2), (.mv (.t 16)), none⟩] none [2])
  .ret)))), [(2, none)], false⟩
/-- kinfolk/kinfolkref06.Frame -/
def ir68 : IRF := ⟨[0], (.seq (.region [⟨(some 2), (.mv (.c (.p (.s (.slice none 0 0))))), none⟩] none [0])
  (.seq (.region [⟨(some 4), (.mv (.t 0)), none⟩,
    ⟨(some 5), (.len false (.t 4)), none⟩,
    ⟨(some 6), (.cvt .u32 (.t 5)), none⟩,
    ⟨(some 7), (.call 107 [(.t 6)]), none⟩,
    ⟨(some 3), (.mv (.t 7)), none⟩] none [0, 3])
  (.seq (.region [⟨(some 8), (.mv (.t 3)), none⟩,
    ⟨(some 9), (.mv (.t 3)), none⟩,
    ⟨(some 10), (.mv (.t 0)), none⟩,
    ⟨(some 11), (.mkSl 2 1 [(.s (.slice none 0 0)), (.s (.slice none 0 0))] [(0, 1, (.t 9)), (1, 1, (.t 10))]), none⟩,
    ⟨(some 12), (.call 65 [(.t 11)]), none⟩,
    ⟨(some 13), (.call 91 [(.t 12)]), none⟩,
    ⟨(some 14), (.call 107 [(.t 13)]), none⟩,
    ⟨(some 15), (.mv (.t 0)), none⟩,
    ⟨(some 16), (.mkSl 3 1 [(.s (.slice none 0 0)), (.s (.slice none 0 0)), (.s (.slice none 0 0))] [(0, 1, (.t 8)), (1, 1, (.t 14)), (2, 1, (.t 15))]), none⟩,
    ⟨(some 17), (.call 65 [(.t 16)]), none⟩,
    ⟨(some 2), (.mv (.t 17)), none⟩] none [2])
  .ret))), [(2, none)], false⟩
/-- kinfolk/wire.take -/
def ir69_0 : IRC := (.seq (.region [⟨(some 6), (.bin .lss (.t 5) (.c (.p (.s (.int .i64 4))))), none⟩] none [0, 3, 5, 6])
  (.seq (.cond (.t 6) .skip (.exit 0))
  (.seq (.block 1 (.seq (.region [⟨(some 7), (.mv (.t 5)), none⟩,
    ⟨(some 4), (.mv (.t 7)), none⟩] none [0, 3, 4, 5])
  (.region [⟨(some 8), (.mv (.t 3)), none⟩,
    ⟨(some 9), (.mv (.t 0)), none⟩,
    ⟨(some 10), (.mv (.t 4)), none⟩,
    ⟨(some 11), (.idxASl 1 (.t 9) (.t 10)), none⟩,
    ⟨(some 12), (.load 1 false (.t 11)), none⟩,
    ⟨(some 13), (.cvt .u32 (.t 12)), none⟩,
    ⟨(some 14), (.mv (.t 4)), none⟩,
    ⟨(some 15), (.bin .mul (.c (.p (.s (.int .i64 8)))) (.t 14)), none⟩,
    ⟨(some 16), (.bin .shl (.t 13) (.t 15)), none⟩,
    ⟨(some 17), (.bin .or (.t 8) (.t 16)), none⟩,
    ⟨(some 3), (.mv (.t 17)), none⟩] none [0, 3, 5])))
  (.region [⟨(some 18), (.bin .add (.t 5) (.c (.p (.s (.int .i64 1))))), none⟩,
    ⟨(some 5), (.mv (.t 18)), none⟩] none [0, 3, 5]))))
def ir69 : IRF := ⟨[0], (.seq (.region [⟨(some 2), (.mv (.c (.p (.s (.int .u32 0))))), none⟩] none [0])
  (.seq (.region [⟨(some 3), (.mv (.c (.p (.s (.int .u32 0))))), none⟩] none [0, 3])
  (.seq (.seq (.region [⟨(some 5), (.mv (.c (.p (.s (.int .i64 0))))), none⟩] none [0, 3, 5])
  (.block 0 (.loop ir69_0)))
  (.seq (.region [⟨(some 19), (.mv (.t 3)), none⟩,
    ⟨(some 2), (.mv (.t 19)), none⟩] none [2])
  .ret)))), [(2, none)], false⟩
/-- kinfolk/wire.Sum -/
def ir70_0 : IRC := (.seq (.region [⟨(some 17), (.bin .lss (.t 16) (.c (.p (.s (.int .i64 8))))), none⟩] none [3, 6, 7, 8, 16, 17])
  (.seq (.cond (.t 17) .skip (.exit 2))
  (.seq (.block 3 (.seq (.region [⟨(some 18), (.mv (.t 3)), none⟩,
    ⟨(some 19), (.bin .and (.t 18) (.c (.p (.s (.int .u32 1))))), none⟩,
    ⟨(some 20), (.bin .eql (.t 19) (.c (.p (.s (.int .u32 1))))), none⟩] none [3, 6, 7, 8, 16, 20])
  (.cond (.t 20) (.region [⟨(some 21), (.mv (.t 3)), none⟩,
    ⟨(some 22), (.bin .shr (.t 21) (.c (.p (.s (.int .u64 1))))), none⟩,
    ⟨(some 23), (.bin .xor (.t 22) (.c (.p (.s (.int .u32 3988292384))))), none⟩,
    ⟨(some 3), (.mv (.t 23)), none⟩] none [3, 6, 7, 8, 16]) (.region [⟨(some 24), (.mv (.t 3)), none⟩,
    ⟨(some 25), (.bin .shr (.t 24) (.c (.p (.s (.int .u64 1))))), none⟩,
    ⟨(some 3), (.mv (.t 25)), none⟩] none [3, 6, 7, 8, 16]))))
  (.region [⟨(some 26), (.bin .add (.t 16) (.c (.p (.s (.int .i64 1))))), none⟩,
    ⟨(some 16), (.mv (.t 26)), none⟩] none [3, 6, 7, 8, 16]))))
def ir70_1 : IRC := (.seq (.region [⟨(some 9), (.bin .lss (.t 8) (.t 7)), none⟩] none [3, 6, 7, 8, 9])
  (.seq (.cond (.t 9) .skip (.exit 0))
  (.seq (.block 1 (.seq (.region [⟨(some 10), (.idxASl 1 (.t 6) (.t 8)), none⟩,
    ⟨(some 11), (.load 1 false (.t 10)), none⟩,
    ⟨(some 5), (.mv (.t 11)), none⟩] none [3, 5, 6, 7, 8])
  (.seq (.region [⟨(some 12), (.mv (.t 3)), none⟩,
    ⟨(some 13), (.mv (.t 5)), none⟩,
    ⟨(some 14), (.cvt .u32 (.t 13)), none⟩,
    ⟨(some 15), (.bin .xor (.t 12) (.t 14)), none⟩,
    ⟨(some 3), (.mv (.t 15)), none⟩] none [3, 6, 7, 8])
  (.seq (.region [⟨(some 16), (.mv (.c (.p (.s (.int .i64 0))))), none⟩] none [3, 6, 7, 8, 16])
  (.block 2 (.loop ir70_0))))))
  (.region [⟨(some 27), (.bin .add (.t 8) (.c (.p (.s (.int .i64 1))))), none⟩,
    ⟨(some 8), (.mv (.t 27)), none⟩] none [3, 6, 7, 8]))))
def ir70 : IRF := ⟨[0], (.seq (.region [⟨(some 2), (.mv (.c (.p (.s (.int .u32 0))))), none⟩] none [0])
  (.seq (.region [⟨(some 3), (.mv (.c (.p (.s (.int .u32 4294967295))))), none⟩] none [0, 3])
  (.seq (.seq (.region [⟨(some 6), (.mv (.t 0)), none⟩,
    ⟨(some 7), (.len false (.t 6)), none⟩,
    ⟨(some 8), (.mv (.c (.p (.s (.int .i64 0))))), none⟩] none [3, 6, 7, 8])
  (.block 0 (.loop ir70_1)))
  (.seq (.region [⟨(some 28), (.mv (.t 3)), none⟩,
    ⟨(some 29), (.un .xor (.t 28)), none⟩,
    ⟨(some 2), (.mv (.t 29)), none⟩] none [2])
  .ret)))), [(2, none)], false⟩
/-- (*kinfolk/wire.In).Byte -/
def ir71 : IRF := ⟨[0], (.seq (.region [⟨(some 2), (.mv (.c (.p (.s (.int .u8 0))))), none⟩] none [0])
  (.seq (.seq (.region [⟨(some 4), (.mv (.t 0)), none⟩,
    ⟨(some 5), (.call 79 [(.t 4)]), none⟩,
    ⟨(some 6), (.bin .neq (.t 5) (.c (.p (.s (.int .i64 0))))), none⟩,
    ⟨(some 7), (.mv (.t 6)), none⟩,
    ⟨(some 8), (.mv (.t 0)), (some (7, false))⟩,
    ⟨(some 9), (.nilCk (.t 8)), (some (7, false))⟩,
    ⟨(some 10), (.fieldAddr 0 (.t 9)), (some (7, false))⟩,
    ⟨(some 11), (.load 1 false (.t 10)), (some (7, false))⟩,
    ⟨(some 12), (.len false (.t 11)), (some (7, false))⟩,
    ⟨(some 13), (.bin .eql (.t 12) (.c (.p (.s (.int .i64 0))))), (some (7, false))⟩,
    ⟨(some 14), (.pick (.t 7) (.c (.p (.s (.bool true)))) (.t 13)), none⟩] none [0, 14])
  (.cond (.t 14) (.seq (.region [⟨(some 15), (.mv (.t 0)), none⟩,
    ⟨(some 16), (.call 72 [(.t 15), (.c (.p (.s (.int .i64 6))))]), none⟩] none [])
  (.seq (.region [⟨(some 2), (.mv (.c (.p (.s (.int .u8 0))))), none⟩] none [2])
  .ret)) .skip))
  (.seq (.region [⟨(some 17), (.mv (.t 0)), none⟩,
    ⟨(some 18), (.nilCk (.t 17)), none⟩,
    ⟨(some 19), (.fieldAddr 0 (.t 18)), none⟩,
    ⟨(some 20), (.load 1 false (.t 19)), none⟩,
    ⟨(some 21), (.idxASl 1 (.t 20) (.c (.p (.s (.int .i64 0))))), none⟩,
    ⟨(some 22), (.load 1 false (.t 21)), none⟩,
    ⟨(some 3), (.mv (.t 22)), none⟩] none [0, 3])
  (.seq (.region [⟨(some 23), (.mv (.t 0)), none⟩,
    ⟨(some 24), (.mv (.t 0)), none⟩,
    ⟨(some 25), (.nilCk (.t 24)), none⟩,
    ⟨(some 26), (.fieldAddr 0 (.t 25)), none⟩,
    ⟨(some 27), (.load 1 false (.t 26)), none⟩,
    ⟨(some 28), (.slSl 1 (.t 27) (some (.c (.p (.s (.int .i64 1))))) none none), none⟩,
    ⟨(some 29), (.nilCk (.t 23)), none⟩,
    ⟨(some 30), (.fieldAddr 0 (.t 29)), none⟩,
    ⟨none, (.store 1 (.t 30) (.t 28)), none⟩] none [3])
  (.seq (.region [⟨(some 31), (.mv (.t 3)), none⟩,
    ⟨(some 2), (.mv (.t 31)), none⟩] none [2])
  .ret))))), [(2, none)], false⟩
/-- (*kinfolk/wire.In).Fail -/
def ir72 : IRF := ⟨[0, 1], (.seq (.region [⟨(some 4), (.mv (.t 0)), none⟩,
    ⟨(some 5), (.eq true .ptr (.t 4) (.c (.p (.s (.pointer none))))), none⟩,
    ⟨(some 6), (.mv (.t 5)), none⟩,
    ⟨(some 7), (.mv (.t 0)), (some (6, true))⟩,
    ⟨(some 8), (.nilCk (.t 7)), (some (6, true))⟩,
    ⟨(some 9), (.fieldAddr 1 (.t 8)), (some (6, true))⟩,
    ⟨(some 10), (.load 1 false (.t 9)), (some (6, true))⟩,
    ⟨(some 11), (.bin .eql (.t 10) (.c (.p (.s (.int .i64 0))))), (some (6, true))⟩,
    ⟨(some 12), (.pick (.t 6) (.t 11) (.c (.p (.s (.bool false))))), none⟩] none [0, 1, 12])
  (.cond (.t 12) (.region [⟨(some 13), (.mv (.t 0)), none⟩,
    ⟨(some 14), (.mv (.t 1)), none⟩,
    ⟨(some 15), (.nilCk (.t 13)), none⟩,
    ⟨(some 16), (.fieldAddr 1 (.t 15)), none⟩,
    ⟨none, (.store 1 (.t 16) (.t 14)), none⟩] none []) .skip)), [], false⟩
/-- (*kinfolk/wire.In).Num -/
def ir73_0 : IRC := (.seq (.region [⟨(some 15), (.bin .lss (.t 14) (.t 13)), none⟩] none [0, 3, 12, 13, 14, 15])
  (.seq (.cond (.t 15) .skip (.exit 0))
  (.seq (.block 1 (.seq (.region [⟨(some 16), (.mv (.t 14)), none⟩,
    ⟨(some 17), (.idxASl 1 (.t 12) (.t 14)), none⟩,
    ⟨(some 18), (.load 1 false (.t 17)), none⟩,
    ⟨(some 4), (.mv (.t 16)), none⟩,
    ⟨(some 5), (.mv (.t 18)), none⟩] none [0, 3, 4, 5, 12, 13, 14])
  (.seq (.seq (.region [⟨(some 19), (.mv (.t 4)), none⟩,
    ⟨(some 20), (.bin .eql (.t 19) (.c (.p (.s (.int .i64 9))))), none⟩,
    ⟨(some 21), (.mv (.t 20)), none⟩,
    ⟨(some 22), (.mv (.t 5)), (some (21, true))⟩,
    ⟨(some 23), (.bin .gtr (.t 22) (.c (.p (.s (.int .u8 1))))), (some (21, true))⟩,
    ⟨(some 24), (.pick (.t 21) (.t 23) (.c (.p (.s (.bool false))))), none⟩,
    ⟨(some 25), (.mv (.t 24)), none⟩,
    ⟨(some 26), (.mv (.t 5)), (some (25, false))⟩,
    ⟨(some 27), (.bin .eql (.t 26) (.c (.p (.s (.int .u8 0))))), (some (25, false))⟩,
    ⟨(some 28), (.mv (.t 27)), (some (25, false))⟩,
    ⟨(some 29), (.mv (.t 4)), (some (28, true))⟩,
    ⟨(some 30), (.bin .gtr (.t 29) (.c (.p (.s (.int .i64 0))))), (some (28, true))⟩,
    ⟨(some 31), (.pick (.t 28) (.t 30) (.c (.p (.s (.bool false))))), (some (25, false))⟩,
    ⟨(some 32), (.pick (.t 25) (.c (.p (.s (.bool true)))) (.t 31)), none⟩] none [0, 3, 4, 5, 12, 13, 14, 32])
  (.cond (.t 32) (.exit 0) .skip))
  (.seq (.region [⟨(some 33), (.mv (.t 3)), none⟩,
    ⟨(some 34), (.mv (.t 5)), none⟩,
    ⟨(some 35), (.bin .andNot (.t 34) (.c (.p (.s (.int .u8 128))))), none⟩,
    ⟨(some 36), (.cvt .u64 (.t 35)), none⟩,
    ⟨(some 37), (.mv (.t 4)), none⟩,
    ⟨(some 38), (.bin .mul (.c (.p (.s (.int .i64 7)))) (.t 37)), none⟩,
    ⟨(some 39), (.bin .shl (.t 36) (.t 38)), none⟩,
    ⟨(some 40), (.bin .or (.t 33) (.t 39)), none⟩,
    ⟨(some 3), (.mv (.t 40)), none⟩] none [0, 3, 4, 5, 12, 13, 14])
  (.seq (.region [⟨(some 41), (.mv (.t 5)), none⟩,
    ⟨(some 42), (.bin .lss (.t 41) (.c (.p (.s (.int .u8 128))))), none⟩] none [0, 3, 4, 12, 13, 14, 42])
  (.cond (.t 42) (.seq (.region [⟨(some 43), (.mv (.t 0)), none⟩,
    ⟨(some 44), (.mv (.t 0)), none⟩,
    ⟨(some 45), (.nilCk (.t 44)), none⟩,
    ⟨(some 46), (.fieldAddr 0 (.t 45)), none⟩,
    ⟨(some 47), (.load 1 false (.t 46)), none⟩,
    ⟨(some 48), (.mv (.t 4)), none⟩,
    ⟨(some 49), (.bin .add (.t 48) (.c (.p (.s (.int .i64 1))))), none⟩,
    ⟨(some 50), (.slSl 1 (.t 47) (some (.t 49)) none none), none⟩,
    ⟨(some 51), (.nilCk (.t 43)), none⟩,
    ⟨(some 52), (.fieldAddr 0 (.t 51)), none⟩,
    ⟨none, (.store 1 (.t 52) (.t 50)), none⟩] none [3])
  (.seq (.region [⟨(some 53), (.mv (.t 3)), none⟩,
    ⟨(some 2), (.mv (.t 53)), none⟩] none [2])
  .ret)) .skip))))))
  (.region [⟨(some 54), (.bin .add (.t 14) (.c (.p (.s (.int .i64 1))))), none⟩,
    ⟨(some 14), (.mv (.t 54)), none⟩] none [0, 3, 12, 13, 14]))))
def ir73 : IRF := ⟨[0], (.seq (.region [⟨(some 2), (.mv (.c (.p (.s (.int .u64 0))))), none⟩] none [0])
  (.seq (.seq (.region [⟨(some 6), (.mv (.t 0)), none⟩,
    ⟨(some 7), (.call 79 [(.t 6)]), none⟩,
    ⟨(some 8), (.bin .neq (.t 7) (.c (.p (.s (.int .i64 0))))), none⟩] none [0, 8])
  (.cond (.t 8) (.seq (.region [⟨(some 2), (.mv (.c (.p (.s (.int .u64 0))))), none⟩] none [2])
  .ret) .skip))
  (.seq (.region [⟨(some 3), (.mv (.c (.p (.s (.int .u64 0))))), none⟩] none [0, 3])
  (.seq (.seq (.region [⟨(some 9), (.mv (.t 0)), none⟩,
    ⟨(some 10), (.nilCk (.t 9)), none⟩,
    ⟨(some 11), (.fieldAddr 0 (.t 10)), none⟩,
    ⟨(some 12), (.load 1 false (.t 11)), none⟩,
    ⟨(some 13), (.len false (.t 12)), none⟩,
    ⟨(some 14), (.mv (.c (.p (.s (.int .i64 0))))), none⟩] none [0, 3, 12, 13, 14])
  (.block 0 (.loop ir73_0)))
  (.seq (.region [⟨(some 55), (.mv (.t 0)), none⟩,
    ⟨(some 56), (.call 72 [(.t 55), (.c (.p (.s (.int .i64 6))))]), none⟩] none [])
  (.seq (.region [⟨(some 2), (.mv (.c (.p (.s (.int .u64 0))))), none⟩] none [2])
  .ret)))))), [(2, none)], false⟩
/-- (*kinfolk/wire.In).Left -/
def ir78 : IRF := ⟨[0], (.seq (.region [⟨(some 2), (.mv (.c (.p (.s (.int .i64 0))))), none⟩] none [0])
  (.seq (.seq (.region [⟨(some 3), (.mv (.t 0)), none⟩,
    ⟨(some 4), (.eq false .ptr (.t 3) (.c (.p (.s (.pointer none))))), none⟩] none [0, 4])
  (.cond (.t 4) (.seq (.region [⟨(some 2), (.mv (.c (.p (.s (.int .i64 0))))), none⟩] none [2])
  .ret) .skip))
  (.seq (.region [⟨(some 5), (.mv (.t 0)), none⟩,
    ⟨(some 6), (.nilCk (.t 5)), none⟩,
    ⟨(some 7), (.fieldAddr 0 (.t 6)), none⟩,
    ⟨(some 8), (.load 1 false (.t 7)), none⟩,
    ⟨(some 9), (.len false (.t 8)), none⟩,
    ⟨(some 2), (.mv (.t 9)), none⟩] none [2])
  .ret))), [(2, none)], false⟩
/-- (*kinfolk/wire.In).Err -/
def ir79 : IRF := ⟨[0], (.seq (.region [⟨(some 2), (.mv (.c (.p (.s (.int .i64 0))))), none⟩] none [0])
  (.seq (.seq (.region [⟨(some 3), (.mv (.t 0)), none⟩,
    ⟨(some 4), (.eq false .ptr (.t 3) (.c (.p (.s (.pointer none))))), none⟩] none [0, 4])
  (.cond (.t 4) (.seq (.region [⟨(some 2), (.mv (.c (.p (.s (.int .i64 2))))), none⟩] none [2])
  .ret) .skip))
  (.seq (.region [⟨(some 5), (.mv (.t 0)), none⟩,
    ⟨(some 6), (.nilCk (.t 5)), none⟩,
    ⟨(some 7), (.fieldAddr 1 (.t 6)), none⟩,
    ⟨(some 8), (.load 1 false (.t 7)), none⟩,
    ⟨(some 2), (.mv (.t 8)), none⟩] none [2])
  .ret))), [(2, none)], false⟩
/-- kinfolk/note.node -/
def ir80 : IRF := ⟨[0], (.seq (.region [⟨(some 2), (.mv (.c (.p (.s (.bool false))))), none⟩] none [0])
  (.seq (.region [⟨(some 3), (.mv (.t 0)), none⟩,
    ⟨(some 4), (.bin .geq (.t 3) (.c (.p (.s (.int .i64 0))))), none⟩,
    ⟨(some 5), (.mv (.t 4)), none⟩,
    ⟨(some 6), (.mv (.t 0)), (some (5, true))⟩,
    ⟨(some 7), (.bin .lss (.t 6) (.c (.p (.s (.int .i64 12))))), (some (5, true))⟩,
    ⟨(some 8), (.pick (.t 5) (.t 7) (.c (.p (.s (.bool false))))), none⟩,
    ⟨(some 2), (.mv (.t 8)), none⟩] none [2])
  .ret)), [(2, none)], false⟩
/-- (kinfolk/note.Note).zero -/
def ir81 : IRF := ⟨[0], (.seq (.region [⟨(some 1), (.box false (.t 0)), none⟩,
    ⟨(some 2), (.mv (.c (.p (.s (.bool false))))), none⟩] none [1])
  (.seq (.region [⟨(some 7), (.fieldAddr 0 (.t 1)), none⟩,
    ⟨(some 8), (.load 1 false (.t 7)), none⟩,
    ⟨(some 9), (.call 44 [(.t 8)]), none⟩,
    ⟨(some 3), (.alloc false [(.s (.int .i64 0))]), none⟩,
    ⟨none, (.store 1 (.t 3) (.t 9)), none⟩] none [1, 3])
  (.seq (.region [⟨(some 10), (.mkFn 114 [] [(.t 3)]), none⟩,
    ⟨(some 4), (.mv (.t 10)), none⟩] none [1, 4])
  (.seq (.region [⟨(some 11), (.fieldAddr 6 (.t 1)), none⟩,
    ⟨(some 12), (.load 2 true (.t 11)), none⟩,
    ⟨(some 13), (.build [(.s (.int .u64 0)), (.s (.pointer none))] []), none⟩,
    ⟨(some 14), (.call 115 [(.t 12), (.t 13)]), none⟩,
    ⟨(some 5), (.mv (.t 14)), none⟩] none [1, 4, 5])
  (.seq (.region [⟨(some 15), (.fieldAddr 9 (.t 1)), none⟩,
    ⟨(some 16), (.fieldAddr 0 (.t 15)), none⟩,
    ⟨(some 17), (.load 1 false (.t 16)), none⟩,
    ⟨(some 18), (.bin .eql (.t 17) (.c (.p (.s (.int .u64 0))))), none⟩,
    ⟨(some 19), (.mv (.t 18)), none⟩,
    ⟨(some 20), (.fieldAddr 9 (.t 1)), (some (19, true))⟩,
    ⟨(some 21), (.fieldAddr 1 (.t 20)), (some (19, true))⟩,
    ⟨(some 22), (.load 1 false (.t 21)), (some (19, true))⟩,
    ⟨(some 23), (.bin .eql (.t 22) (.c (.p (.s (.int .i64 0))))), (some (19, true))⟩,
    ⟨(some 24), (.pick (.t 19) (.t 23) (.c (.p (.s (.bool false))))), none⟩,
    ⟨(some 25), (.mv (.t 24)), none⟩,
    ⟨(some 26), (.fieldAddr 9 (.t 1)), (some (25, true))⟩,
    ⟨(some 27), (.fieldAddr 2 (.t 26)), (some (25, true))⟩,
    ⟨(some 28), (.load 1 false (.t 27)), (some (25, true))⟩,
    ⟨(some 29), (.bin .eql (.t 28) (.c (.p (.s (.int .i64 0))))), (some (25, true))⟩,
    ⟨(some 30), (.pick (.t 25) (.t 29) (.c (.p (.s (.bool false))))), none⟩,
    ⟨(some 31), (.mv (.t 30)), none⟩,
    ⟨(some 32), (.fieldAddr 9 (.t 1)), (some (31, true))⟩,
    ⟨(some 33), (.fieldAddr 3 (.t 32)), (some (31, true))⟩,
    ⟨(some 34), (.load 2 true (.t 33)), (some (31, true))⟩,
    ⟨(some 35), (.call 116 [(.t 34)]), (some (31, true))⟩,
    ⟨(some 36), (.pick (.t 31) (.t 35) (.c (.p (.s (.bool false))))), none⟩,
    ⟨(some 6), (.mv (.t 36)), none⟩] none [1, 4, 5, 6])
  (.seq (.region [⟨(some 37), (.mv (.t 4)), none⟩,
    ⟨(some 38), (.fieldAddr 3 (.t 1)), none⟩,
    ⟨(some 39), (.load 1 false (.t 38)), none⟩,
    ⟨(some 40), (.bin .eql (.t 39) (.c (.p (.s (.int .u64 0))))), none⟩,
    ⟨(some 41), (.callv (.t 37) [(.c (.p (.s (.int .i64 1)))), (.t 40)]), none⟩,
    ⟨(some 42), (.mv (.t 41)), none⟩,
    ⟨(some 43), (.mv (.t 4)), (some (42, true))⟩,
    ⟨(some 44), (.fieldAddr 4 (.t 1)), (some (42, true))⟩,
    ⟨(some 45), (.load 1 false (.t 44)), (some (42, true))⟩,
    ⟨(some 46), (.bin .eql (.t 45) (.c (.p (.s (.int .i64 0))))), (some (42, true))⟩,
    ⟨(some 47), (.callv (.t 43) [(.c (.p (.s (.int .i64 2)))), (.t 46)]), (some (42, true))⟩,
    ⟨(some 48), (.pick (.t 42) (.t 47) (.c (.p (.s (.bool false))))), none⟩,
    ⟨(some 49), (.mv (.t 48)), none⟩,
    ⟨(some 50), (.mv (.t 4)), (some (49, true))⟩,
    ⟨(some 51), (.fieldAddr 5 (.t 1)), (some (49, true))⟩,
    ⟨(some 52), (.load 1 false (.t 51)), (some (49, true))⟩,
    ⟨(some 53), (.un .not (.t 52)), (some (49, true))⟩,
    ⟨(some 54), (.callv (.t 50) [(.c (.p (.s (.int .i64 16)))), (.t 53)]), (some (49, true))⟩,
    ⟨(some 55), (.pick (.t 49) (.t 54) (.c (.p (.s (.bool false))))), none⟩,
    ⟨(some 56), (.mv (.t 55)), none⟩,
    ⟨(some 57), (.mv (.t 4)), (some (56, true))⟩,
    ⟨(some 58), (.mv (.t 5)), (some (56, true))⟩,
    ⟨(some 59), (.callv (.t 57) [(.c (.p (.s (.int .i64 8)))), (.t 58)]), (some (56, true))⟩,
    ⟨(some 60), (.pick (.t 56) (.t 59) (.c (.p (.s (.bool false))))), none⟩,
    ⟨(some 61), (.mv (.t 60)), none⟩,
    ⟨(some 62), (.mv (.t 4)), (some (61, true))⟩,
    ⟨(some 63), (.fieldAddr 8 (.t 1)), (some (61, true))⟩,
    ⟨(some 64), (.load 1 false (.t 63)), (some (61, true))⟩,
    ⟨(some 65), (.len false (.t 64)), (some (61, true))⟩,
    ⟨(some 66), (.bin .eql (.t 65) (.c (.p (.s (.int .i64 0))))), (some (61, true))⟩,
    ⟨(some 67), (.callv (.t 62) [(.c (.p (.s (.int .i64 4)))), (.t 66)]), (some (61, true))⟩,
    ⟨(some 68), (.pick (.t 61) (.t 67) (.c (.p (.s (.bool false))))), none⟩,
    ⟨(some 69), (.mv (.t 68)), none⟩,
    ⟨(some 70), (.mv (.t 4)), (some (69, true))⟩,
    ⟨(some 71), (.mv (.t 6)), (some (69, true))⟩,
    ⟨(some 72), (.callv (.t 70) [(.c (.p (.s (.int .i64 32)))), (.t 71)]), (some (69, true))⟩,
    ⟨(some 73), (.pick (.t 69) (.t 72) (.c (.p (.s (.bool false))))), none⟩,
    ⟨(some 74), (.mv (.t 73)), none⟩,
    ⟨(some 75), (.mv (.t 4)), (some (74, true))⟩,
    ⟨(some 76), (.fieldAddr 14 (.t 1)), (some (74, true))⟩,
    ⟨(some 77), (.load 1 false (.t 76)), (some (74, true))⟩,
    ⟨(some 78), (.bin .eql (.t 77) (.c (.p (.s (.int .u64 0))))), (some (74, true))⟩,
    ⟨(some 79), (.callv (.t 75) [(.c (.p (.s (.int .i64 64)))), (.t 78)]), (some (74, true))⟩,
    ⟨(some 80), (.pick (.t 74) (.t 79) (.c (.p (.s (.bool false))))), none⟩,
    ⟨(some 2), (.mv (.t 80)), none⟩] none [2])
  .ret)))))), [(2, none)], false⟩
/-- (kinfolk/note.Note).told -/
def ir82 : IRF := ⟨[0], (.seq (.region [⟨(some 1), (.box false (.t 0)), none⟩,
    ⟨(some 2), (.mv (.c (.p (.s (.bool false))))), none⟩] none [1])
  (.seq (.region [⟨(some 3), (.fieldAddr 8 (.t 1)), none⟩,
    ⟨(some 4), (.load 1 false (.t 3)), none⟩,
    ⟨(some 5), (.mkFn 118 [] [(.t 1)]), none⟩,
    ⟨(some 6), (.call 117 [(.t 4), (.t 5)]), none⟩,
    ⟨(some 7), (.un .not (.t 6)), none⟩,
    ⟨(some 2), (.mv (.t 7)), none⟩] none [2])
  .ret)), [(2, none)], false⟩
/-- kinfolk/wire.lay -/
def ir89_0 : IRC := (.seq (.region [⟨(some 7), (.bin .lss (.t 6) (.c (.p (.s (.int .i64 4))))), none⟩] none [0, 1, 6, 7])
  (.seq (.cond (.t 7) .skip (.exit 0))
  (.seq (.block 1 (.seq (.region [⟨(some 8), (.mv (.t 6)), none⟩,
    ⟨(some 5), (.mv (.t 8)), none⟩] none [0, 1, 5, 6])
  (.region [⟨(some 9), (.mv (.t 0)), none⟩,
    ⟨(some 10), (.mv (.t 1)), none⟩,
    ⟨(some 11), (.mv (.t 5)), none⟩,
    ⟨(some 12), (.bin .mul (.c (.p (.s (.int .i64 8)))) (.t 11)), none⟩,
    ⟨(some 13), (.bin .shr (.t 10) (.t 12)), none⟩,
    ⟨(some 14), (.cvt .u8 (.t 13)), none⟩,
    ⟨(some 15), (.mkSl 1 1 [(.s (.int .u8 0))] [(0, 1, (.t 14))]), none⟩,
    ⟨(some 16), (.app 1 1 (.t 9) (.t 15)), none⟩,
    ⟨(some 0), (.mv (.t 16)), none⟩] none [0, 1, 6])))
  (.region [⟨(some 17), (.bin .add (.t 6) (.c (.p (.s (.int .i64 1))))), none⟩,
    ⟨(some 6), (.mv (.t 17)), none⟩] none [0, 1, 6]))))
def ir89 : IRF := ⟨[0, 1], (.seq (.region [⟨(some 4), (.mv (.c (.p (.s (.slice none 0 0))))), none⟩] none [0, 1])
  (.seq (.seq (.region [⟨(some 6), (.mv (.c (.p (.s (.int .i64 0))))), none⟩] none [0, 1, 6])
  (.block 0 (.loop ir89_0)))
  (.seq (.region [⟨(some 18), (.mv (.t 0)), none⟩,
    ⟨(some 4), (.mv (.t 18)), none⟩] none [4])
  .ret))), [(4, none)], true⟩
/-- kinfolk/kinfolkref06.four -/
def ir90 : IRF := ⟨[0], (.seq (.region [⟨(some 2), (.mv (.c (.p (.s (.int .u32 0))))), none⟩] none [0])
  (.seq (.region [⟨(some 3), (.mv (.t 0)), none⟩,
    ⟨(some 4), (.idxASl 1 (.t 3) (.c (.p (.s (.int .i64 0))))), none⟩,
    ⟨(some 5), (.load 1 false (.t 4)), none⟩,
    ⟨(some 6), (.cvt .u32 (.t 5)), none⟩,
    ⟨(some 7), (.mv (.t 0)), none⟩,
    ⟨(some 8), (.idxASl 1 (.t 7) (.c (.p (.s (.int .i64 1))))), none⟩,
    ⟨(some 9), (.load 1 false (.t 8)), none⟩,
    ⟨(some 10), (.cvt .u32 (.t 9)), none⟩,
    ⟨(some 11), (.bin .mul (.c (.p (.s (.int .u32 256)))) (.t 10)), none⟩,
    ⟨(some 12), (.bin .add (.t 6) (.t 11)), none⟩,
    ⟨(some 13), (.mv (.t 0)), none⟩,
    ⟨(some 14), (.idxASl 1 (.t 13) (.c (.p (.s (.int .i64 2))))), none⟩,
    ⟨(some 15), (.load 1 false (.t 14)), none⟩,
    ⟨(some 16), (.cvt .u32 (.t 15)), none⟩,
    ⟨(some 17), (.bin .mul (.c (.p (.s (.int .u32 65536)))) (.t 16)), none⟩,
    ⟨(some 18), (.bin .add (.t 12) (.t 17)), none⟩,
    ⟨(some 19), (.mv (.t 0)), none⟩,
    ⟨(some 20), (.idxASl 1 (.t 19) (.c (.p (.s (.int .i64 3))))), none⟩,
    ⟨(some 21), (.load 1 false (.t 20)), none⟩,
    ⟨(some 22), (.cvt .u32 (.t 21)), none⟩,
    ⟨(some 23), (.bin .mul (.c (.p (.s (.int .u32 16777216)))) (.t 22)), none⟩,
    ⟨(some 24), (.bin .add (.t 18) (.t 23)), none⟩,
    ⟨(some 2), (.mv (.t 24)), none⟩] (some [0, 1, 3, 7, 0, 16, 48, 112, 240, 511, 0, 1024, 3072, 7168, 15360, 32767, 0, 65536, 196608, 458752, 983040, 2097151, 4194303]) [2])
  .ret)), [(2, none)], false⟩
/-- kinfolk/kinfolkref06.Sum -/
def ir91_0 : IRC := (.seq (.seq (.region [⟨(some 14), (.mv (.t 6)), none⟩,
    ⟨(some 15), (.bin .lss (.t 14) (.c (.p (.s (.int .i64 8))))), none⟩] none [3, 5, 6, 8, 9, 10, 15])
  (.cond (.t 15) .skip (.exit 2)))
  (.seq (.block 3 (.seq (.region [⟨(some 18), (.mv (.t 3)), none⟩,
    ⟨(some 19), (.bin .rem (.t 18) (.c (.p (.s (.int .u32 2))))), none⟩,
    ⟨(some 20), (.mv (.t 5)), none⟩,
    ⟨(some 21), (.bin .rem (.t 20) (.c (.p (.s (.int .u8 2))))), none⟩,
    ⟨(some 22), (.cvt .u32 (.t 21)), none⟩,
    ⟨(some 23), (.bin .neq (.t 19) (.t 22)), none⟩,
    ⟨(some 7), (.mv (.t 23)), none⟩] none [3, 5, 6, 7, 8, 9, 10])
  (.seq (.region [⟨(some 24), (.mv (.t 3)), none⟩,
    ⟨(some 25), (.bin .quo (.t 24) (.c (.p (.s (.int .u32 2))))), none⟩,
    ⟨(some 3), (.mv (.t 25)), none⟩] none [3, 5, 6, 7, 8, 9, 10])
  (.seq (.region [⟨(some 26), (.mv (.t 5)), none⟩,
    ⟨(some 27), (.bin .quo (.t 26) (.c (.p (.s (.int .u8 2))))), none⟩,
    ⟨(some 5), (.mv (.t 27)), none⟩] none [3, 5, 6, 7, 8, 9, 10])
  (.seq (.region [⟨(some 28), (.mv (.t 7)), none⟩] none [3, 5, 6, 8, 9, 10, 28])
  (.cond (.t 28) (.region [⟨(some 29), (.mv (.t 3)), none⟩,
    ⟨(some 30), (.bin .xor (.t 29) (.c (.p (.s (.int .u32 3988292384))))), none⟩,
    ⟨(some 3), (.mv (.t 30)), none⟩] none [3, 5, 6, 8, 9, 10]) .skip))))))
  (.region [⟨(some 16), (.mv (.t 6)), none⟩,
    ⟨(some 17), (.bin .add (.t 16) (.c (.p (.s (.int .i64 1))))), none⟩,
    ⟨(some 6), (.mv (.t 17)), none⟩] none [3, 5, 6, 8, 9, 10])))
def ir91_1 : IRC := (.seq (.region [⟨(some 11), (.bin .lss (.t 10) (.t 9)), none⟩] none [3, 8, 9, 10, 11])
  (.seq (.cond (.t 11) .skip (.exit 0))
  (.seq (.block 1 (.seq (.region [⟨(some 12), (.idxASl 1 (.t 8) (.t 10)), none⟩,
    ⟨(some 13), (.load 1 false (.t 12)), none⟩,
    ⟨(some 5), (.mv (.t 13)), none⟩] none [3, 5, 8, 9, 10])
  (.seq (.region [⟨(some 6), (.mv (.c (.p (.s (.int .i64 0))))), none⟩] none [3, 5, 6, 8, 9, 10])
  (.block 2 (.loop ir91_0)))))
  (.region [⟨(some 31), (.bin .add (.t 10) (.c (.p (.s (.int .i64 1))))), none⟩,
    ⟨(some 10), (.mv (.t 31)), none⟩] none [3, 8, 9, 10]))))
def ir91 : IRF := ⟨[0], (.seq (.region [⟨(some 2), (.mv (.c (.p (.s (.int .u32 0))))), none⟩] none [0])
  (.seq (.region [⟨(some 3), (.mv (.c (.p (.s (.int .u32 4294967295))))), none⟩] none [0, 3])
  (.seq (.seq (.region [⟨(some 8), (.mv (.t 0)), none⟩,
    ⟨(some 9), (.len false (.t 8)), none⟩,
    ⟨(some 10), (.mv (.c (.p (.s (.int .i64 0))))), none⟩] none [3, 8, 9, 10])
  (.block 0 (.loop ir91_1)))
  (.seq (.region [⟨(some 32), (.mv (.t 3)), none⟩,
    ⟨(some 33), (.bin .sub (.c (.p (.s (.int .u32 4294967295)))) (.t 32)), none⟩,
    ⟨(some 2), (.mv (.t 33)), none⟩] none [2])
  .ret)))), [(2, none)], false⟩
/-- kinfolk/kinfolkref06.number -/
def ir92_0 : IRC := (.seq (.seq (.region [⟨(some 59), (.mv (.t 8)), none⟩,
    ⟨(some 60), (.mv (.t 1)), none⟩,
    ⟨(some 61), (.bin .geq (.t 59) (.t 60)), none⟩] none [0, 1, 6, 7, 8, 61])
  (.cond (.t 61) .skip (.exit 2)))
  (.seq (.block 3 (.region [⟨(some 64), (.mv (.t 7)), none⟩,
    ⟨(some 65), (.bin .mul (.c (.p (.s (.int .u64 128)))) (.t 64)), none⟩,
    ⟨(some 66), (.mv (.t 0)), none⟩,
    ⟨(some 67), (.mv (.t 8)), none⟩,
    ⟨(some 68), (.idxASl 1 (.t 66) (.t 67)), none⟩,
    ⟨(some 69), (.load 1 false (.t 68)), none⟩,
    ⟨(some 70), (.bin .rem (.t 69) (.c (.p (.s (.int .u8 128))))), none⟩,
    ⟨(some 71), (.cvt .u64 (.t 70)), none⟩,
    ⟨(some 72), (.bin .add (.t 65) (.t 71)), none⟩,
    ⟨(some 7), (.mv (.t 72)), none⟩] none [0, 1, 6, 7, 8]))
  (.region [⟨(some 62), (.mv (.t 8)), none⟩,
    ⟨(some 63), (.bin .sub (.t 62) (.c (.p (.s (.int .i64 1))))), none⟩,
    ⟨(some 8), (.mv (.t 63)), none⟩] none [0, 1, 6, 7, 8])))
def ir92_1 : IRC := (.seq (.seq (.region [⟨(some 10), (.mv (.t 6)), none⟩,
    ⟨(some 11), (.mv (.t 0)), none⟩,
    ⟨(some 12), (.len false (.t 11)), none⟩,
    ⟨(some 13), (.bin .lss (.t 10) (.t 12)), none⟩,
    ⟨(some 14), (.mv (.t 13)), none⟩,
    ⟨(some 15), (.mv (.t 6)), (some (14, true))⟩,
    ⟨(some 16), (.mv (.t 1)), (some (14, true))⟩,
    ⟨(some 17), (.bin .add (.t 16) (.c (.p (.s (.int .i64 9))))), (some (14, true))⟩,
    ⟨(some 18), (.bin .lss (.t 15) (.t 17)), (some (14, true))⟩,
    ⟨(some 19), (.pick (.t 14) (.t 18) (.c (.p (.s (.bool false))))), none⟩,
    ⟨(some 20), (.mv (.t 19)), none⟩,
    ⟨(some 21), (.mv (.t 0)), (some (20, true))⟩,
    ⟨(some 22), (.mv (.t 6)), (some (20, true))⟩,
    ⟨(some 23), (.idxASl 1 (.t 21) (.t 22)), (some (20, true))⟩,
    ⟨(some 24), (.load 1 false (.t 23)), (some (20, true))⟩,
    ⟨(some 25), (.bin .gtr (.t 24) (.c (.p (.s (.int .u8 127))))), (some (20, true))⟩,
    ⟨(some 26), (.pick (.t 20) (.t 25) (.c (.p (.s (.bool false))))), none⟩] none [0, 1, 6, 26])
  (.cond (.t 26) .skip (.exit 0)))
  (.block 1 (.region [⟨(some 27), (.mv (.t 6)), none⟩,
    ⟨(some 28), (.bin .add (.t 27) (.c (.p (.s (.int .i64 1))))), none⟩,
    ⟨(some 6), (.mv (.t 28)), none⟩] none [0, 1, 6])))
def ir92 : IRF := ⟨[0, 1], (.seq (.region [⟨(some 4), (.mv (.c (.p (.s (.int .u64 0))))), none⟩,
    ⟨(some 5), (.mv (.c (.p (.s (.int .i64 0))))), none⟩] none [0, 1])
  (.seq (.region [⟨(some 9), (.mv (.t 1)), none⟩,
    ⟨(some 6), (.mv (.t 9)), none⟩] none [0, 1, 6])
  (.seq (.block 0 (.loop ir92_1))
  (.seq (.seq (.region [⟨(some 29), (.mv (.t 6)), none⟩,
    ⟨(some 30), (.mv (.t 0)), none⟩,
    ⟨(some 31), (.len false (.t 30)), none⟩,
    ⟨(some 32), (.bin .geq (.t 29) (.t 31)), none⟩,
    ⟨(some 33), (.mv (.t 32)), none⟩,
    ⟨(some 34), (.mv (.t 6)), (some (33, false))⟩,
    ⟨(some 35), (.mv (.t 1)), (some (33, false))⟩,
    ⟨(some 36), (.bin .add (.t 35) (.c (.p (.s (.int .i64 9))))), (some (33, false))⟩,
    ⟨(some 37), (.bin .eql (.t 34) (.t 36)), (some (33, false))⟩,
    ⟨(some 38), (.mv (.t 37)), (some (33, false))⟩,
    ⟨(some 39), (.mv (.t 0)), (some (38, true))⟩,
    ⟨(some 40), (.mv (.t 6)), (some (38, true))⟩,
    ⟨(some 41), (.idxASl 1 (.t 39) (.t 40)), (some (38, true))⟩,
    ⟨(some 42), (.load 1 false (.t 41)), (some (38, true))⟩,
    ⟨(some 43), (.bin .gtr (.t 42) (.c (.p (.s (.int .u8 1))))), (some (38, true))⟩,
    ⟨(some 44), (.pick (.t 38) (.t 43) (.c (.p (.s (.bool false))))), (some (33, false))⟩,
    ⟨(some 45), (.pick (.t 33) (.c (.p (.s (.bool true)))) (.t 44)), none⟩,
    ⟨(some 46), (.mv (.t 45)), none⟩,
    ⟨(some 47), (.mv (.t 6)), (some (46, false))⟩,
    ⟨(some 48), (.mv (.t 1)), (some (46, false))⟩,
    ⟨(some 49), (.bin .gtr (.t 47) (.t 48)), (some (46, false))⟩,
    ⟨(some 50), (.mv (.t 49)), (some (46, false))⟩,
    ⟨(some 51), (.mv (.t 0)), (some (50, true))⟩,
    ⟨(some 52), (.mv (.t 6)), (some (50, true))⟩,
    ⟨(some 53), (.idxASl 1 (.t 51) (.t 52)), (some (50, true))⟩,
    ⟨(some 54), (.load 1 false (.t 53)), (some (50, true))⟩,
    ⟨(some 55), (.bin .eql (.t 54) (.c (.p (.s (.int .u8 0))))), (some (50, true))⟩,
    ⟨(some 56), (.pick (.t 50) (.t 55) (.c (.p (.s (.bool false))))), (some (46, false))⟩,
    ⟨(some 57), (.pick (.t 46) (.c (.p (.s (.bool true)))) (.t 56)), none⟩] none [0, 1, 6, 57])
  (.cond (.t 57) (.seq (.region [⟨(some 4), (.mv (.c (.p (.s (.int .u64 0))))), none⟩,
    ⟨(some 5), (.mv (.c (.p (.s (.int .i64 0))))), none⟩] none [4, 5])
  .ret) .skip))
  (.seq (.region [⟨(some 7), (.mv (.c (.p (.s (.int .u64 0))))), none⟩] none [0, 1, 6, 7])
  (.seq (.seq (.region [⟨(some 58), (.mv (.t 6)), none⟩,
    ⟨(some 8), (.mv (.t 58)), none⟩] none [0, 1, 6, 7, 8])
  (.block 2 (.loop ir92_0)))
  (.seq (.region [⟨(some 73), (.mv (.t 7)), none⟩,
    ⟨(some 74), (.mv (.t 6)), none⟩,
    ⟨(some 75), (.mv (.t 1)), none⟩,
    ⟨(some 76), (.bin .sub (.t 74) (.t 75)), none⟩,
    ⟨(some 77), (.bin .add (.t 76) (.c (.p (.s (.int .i64 1))))), none⟩,
    ⟨(some 4), (.mv (.t 73)), none⟩,
    ⟨(some 5), (.mv (.t 77)), none⟩] none [4, 5])
  .ret))))))), [(4, none), (5, none)], false⟩
/-- kinfolk/kinfolkref05.Num -/
def ir102_0 : IRC := (.seq (.seq (.region [⟨(some 6), (.mv (.t 5)), none⟩,
    ⟨(some 7), (.bin .lss (.t 6) (.c (.p (.s (.int .i64 64))))), none⟩,
    ⟨(some 8), (.mv (.t 7)), none⟩,
    ⟨(some 9), (.mv (.t 1)), (some (8, true))⟩,
    ⟨(some 10), (.mv (.t 5)), (some (8, true))⟩,
    ⟨(some 11), (.call 138 [(.t 10)]), (some (8, true))⟩,
    ⟨(some 12), (.bin .geq (.t 9) (.t 11)), (some (8, true))⟩,
    ⟨(some 13), (.pick (.t 8) (.t 12) (.c (.p (.s (.bool false))))), none⟩] none [0, 1, 5, 13])
  (.cond (.t 13) .skip (.exit 0)))
  (.block 1 (.seq (.region [⟨(some 14), (.mv (.t 0)), none⟩,
    ⟨(some 15), (.call 103 [(.t 14), (.c (.p (.s (.int .u64 1)))), (.c (.p (.s (.int .i64 1))))]), none⟩,
    ⟨(some 0), (.mv (.t 15)), none⟩] none [0, 1, 5])
  (.seq (.region [⟨(some 16), (.mv (.t 1)), none⟩,
    ⟨(some 17), (.mv (.t 5)), none⟩,
    ⟨(some 18), (.call 138 [(.t 17)]), none⟩,
    ⟨(some 19), (.bin .sub (.t 16) (.t 18)), none⟩,
    ⟨(some 1), (.mv (.t 19)), none⟩] none [0, 1, 5])
  (.region [⟨(some 20), (.mv (.t 5)), none⟩,
    ⟨(some 21), (.bin .add (.t 20) (.c (.p (.s (.int .i64 1))))), none⟩,
    ⟨(some 5), (.mv (.t 21)), none⟩] none [0, 1, 5])))))
def ir102 : IRF := ⟨[0, 1], (.seq (.region [⟨(some 4), (.mv (.c (.p (.s (.slice none 0 0))))), none⟩] none [0, 1])
  (.seq (.region [⟨(some 5), (.mv (.c (.p (.s (.int .i64 2))))), none⟩] none [0, 1, 5])
  (.seq (.block 0 (.loop ir102_0))
  (.seq (.region [⟨(some 22), (.mv (.t 0)), none⟩,
    ⟨(some 23), (.call 103 [(.t 22), (.c (.p (.s (.int .u64 0)))), (.c (.p (.s (.int .i64 1))))]), none⟩,
    ⟨(some 24), (.mv (.t 1)), none⟩,
    ⟨(some 25), (.mv (.t 5)), none⟩,
    ⟨(some 26), (.call 103 [(.t 23), (.t 24), (.t 25)]), none⟩,
    ⟨(some 4), (.mv (.t 26)), none⟩] none [4])
  .ret)))), [(4, none)], false⟩
/-- kinfolk/kinfolkref05.Put -/
def ir103_0 : IRC := (.seq (.seq (.region [⟨(some 9), (.mv (.t 8)), none⟩,
    ⟨(some 10), (.mv (.t 2)), none⟩,
    ⟨(some 11), (.call 139 [(.t 10)]), none⟩,
    ⟨(some 12), (.bin .lss (.t 9) (.t 11)), none⟩] none [0, 1, 2, 7, 8, 12])
  (.cond (.t 12) .skip (.exit 0)))
  (.seq (.block 1 (.seq (.region [⟨(some 15), (.mv (.t 1)), none⟩,
    ⟨(some 16), (.bin .rem (.t 15) (.c (.p (.s (.int .u64 2))))), none⟩,
    ⟨(some 17), (.bin .eql (.t 16) (.c (.p (.s (.int .u64 1))))), none⟩,
    ⟨(some 18), (.mkSl 1 1 [(.s (.bool false))] [(0, 1, (.t 17))]), none⟩,
    ⟨(some 19), (.mv (.t 7)), none⟩,
    ⟨(some 20), (.app 1 1 (.t 18) (.t 19)), none⟩,
    ⟨(some 7), (.mv (.t 20)), none⟩] none [0, 1, 2, 7, 8])
  (.region [⟨(some 21), (.mv (.t 1)), none⟩,
    ⟨(some 22), (.bin .quo (.t 21) (.c (.p (.s (.int .u64 2))))), none⟩,
    ⟨(some 1), (.mv (.t 22)), none⟩] none [0, 1, 2, 7, 8])))
  (.region [⟨(some 13), (.mv (.t 8)), none⟩,
    ⟨(some 14), (.bin .add (.t 13) (.c (.p (.s (.int .i64 1))))), none⟩,
    ⟨(some 8), (.mv (.t 14)), none⟩] none [0, 1, 2, 7, 8])))
def ir103 : IRF := ⟨[0, 1, 2], (.seq (.region [⟨(some 6), (.mv (.c (.p (.s (.slice none 0 0))))), none⟩] none [0, 1, 2])
  (.seq (.region [⟨(some 7), (.mv (.c (.p (.s (.slice none 0 0))))), none⟩] none [0, 1, 2, 7])
  (.seq (.seq (.region [⟨(some 8), (.mv (.c (.p (.s (.int .i64 0))))), none⟩] none [0, 1, 2, 7, 8])
  (.block 0 (.loop ir103_0)))
  (.seq (.region [⟨(some 23), (.mkSl 0 1 [] []), none⟩,
    ⟨(some 24), (.mv (.t 0)), none⟩,
    ⟨(some 25), (.app 1 1 (.t 23) (.t 24)), none⟩,
    ⟨(some 26), (.mv (.t 7)), none⟩,
    ⟨(some 27), (.app 1 1 (.t 25) (.t 26)), none⟩,
    ⟨(some 6), (.mv (.t 27)), none⟩] none [6])
  .ret)))), [(6, none)], false⟩
/-- kinfolk/kinfolkref06.Four -/
def ir107 : IRF := ⟨[0], (.seq (.region [⟨(some 2), (.mv (.c (.p (.s (.slice none 0 0))))), none⟩] none [0])
  (.seq (.region [⟨(some 3), (.mv (.t 0)), none⟩,
    ⟨(some 4), (.cvt .u8 (.t 3)), none⟩,
    ⟨(some 5), (.mv (.t 0)), none⟩,
    ⟨(some 6), (.bin .quo (.t 5) (.c (.p (.s (.int .u32 256))))), none⟩,
    ⟨(some 7), (.cvt .u8 (.t 6)), none⟩,
    ⟨(some 8), (.mv (.t 0)), none⟩,
    ⟨(some 9), (.bin .quo (.t 8) (.c (.p (.s (.int .u32 65536))))), none⟩,
    ⟨(some 10), (.cvt .u8 (.t 9)), none⟩,
    ⟨(some 11), (.mv (.t 0)), none⟩,
    ⟨(some 12), (.bin .quo (.t 11) (.c (.p (.s (.int .u32 16777216))))), none⟩,
    ⟨(some 13), (.cvt .u8 (.t 12)), none⟩,
    ⟨(some 14), (.mkSl 4 1 [(.s (.int .u8 0)), (.s (.int .u8 0)), (.s (.int .u8 0)), (.s (.int .u8 0))] [(0, 1, (.t 4)), (1, 1, (.t 7)), (2, 1, (.t 10)), (3, 1, (.t 13))]), none⟩,
    ⟨(some 2), (.mv (.t 14)), none⟩] none [2])
  .ret)), [(2, none)], false⟩
/-- (kinfolk/note.Note).zero$1 -/
def ir114 : IRF := ⟨[0, 1, 2], (.seq (.region [⟨(some 5), (.mv (.c (.p (.s (.bool false))))), none⟩] none [0, 1, 2])
  (.seq (.region [⟨(some 6), (.load 1 false (.t 2)), none⟩,
    ⟨(some 7), (.mv (.t 0)), none⟩,
    ⟨(some 8), (.bin .and (.t 6) (.t 7)), none⟩,
    ⟨(some 9), (.bin .gtr (.t 8) (.c (.p (.s (.int .i64 0))))), none⟩,
    ⟨(some 10), (.mv (.t 9)), none⟩,
    ⟨(some 11), (.mv (.t 1)), (some (10, false))⟩,
    ⟨(some 12), (.pick (.t 10) (.c (.p (.s (.bool true)))) (.t 11)), none⟩,
    ⟨(some 5), (.mv (.t 12)), none⟩] none [5])
  .ret)), [(5, none)], false⟩
/-- kinfolk/event.Same -/
def ir115 : IRF := ⟨[0, 1], (.seq (.region [⟨(some 2), (.box false (.t 0)), none⟩,
    ⟨(some 3), (.box false (.t 1)), none⟩,
    ⟨(some 4), (.mv (.c (.p (.s (.bool false))))), none⟩] none [2, 3])
  (.seq (.region [⟨(some 5), (.load 2 true (.t 2)), none⟩,
    ⟨(some 6), (.load 2 true (.t 3)), none⟩,
    ⟨(some 7), (.call 120 [(.t 5), (.t 6)]), none⟩,
    ⟨(some 8), (.mv (.t 7)), none⟩,
    ⟨(some 9), (.load 2 true (.t 3)), (some (8, true))⟩,
    ⟨(some 10), (.load 2 true (.t 2)), (some (8, true))⟩,
    ⟨(some 11), (.call 120 [(.t 9), (.t 10)]), (some (8, true))⟩,
    ⟨(some 12), (.pick (.t 8) (.t 11) (.c (.p (.s (.bool false))))), none⟩,
    ⟨(some 4), (.mv (.t 12)), none⟩] none [4])
  .ret)), [(4, none)], false⟩
/-- (kinfolk/id.ID).IsZero -/
def ir116 : IRF := ⟨[0], (.seq (.region [⟨(some 1), (.box false (.t 0)), none⟩,
    ⟨(some 2), (.mv (.c (.p (.s (.bool false))))), none⟩] none [1])
  (.seq (.region [⟨(some 3), (.fieldAddr 0 (.t 1)), none⟩,
    ⟨(some 4), (.load 1 false (.t 3)), none⟩,
    ⟨(some 5), (.un .not (.t 4)), none⟩,
    ⟨(some 6), (.mv (.t 5)), none⟩,
    ⟨(some 7), (.fieldAddr 1 (.t 1)), (some (6, true))⟩,
    ⟨(some 8), (.load 1 false (.t 7)), (some (6, true))⟩,
    ⟨(some 9), (.eq false .ptr (.t 8) (.c (.p (.s (.pointer none))))), (some (6, true))⟩,
    ⟨(some 10), (.pick (.t 6) (.t 9) (.c (.p (.s (.bool false))))), none⟩,
    ⟨(some 2), (.mv (.t 10)), none⟩] none [2])
  .ret)), [(2, none)], false⟩
/-- slices.ContainsFunc[[]kinfolk/book.Entry,kinfolk/book.Entry] -/
def ir117 : IRF := ⟨[0, 1], (.seq (.region [⟨(some 4), (.mv (.c (.p (.s (.bool false))))), none⟩] none [0, 1])
  (.seq (.region [⟨(some 5), (.mv (.t 0)), none⟩,
    ⟨(some 6), (.mv (.t 1)), none⟩,
    ⟨(some 7), (.call 146 [(.t 5), (.t 6)]), none⟩,
    ⟨(some 8), (.bin .geq (.t 7) (.c (.p (.s (.int .i64 0))))), none⟩,
    ⟨(some 4), (.mv (.t 8)), none⟩] none [4])
  .ret)), [(4, none)], false⟩
/-- kinfolk/event.Leq -/
def ir120 : IRF := ⟨[0, 1], (.seq (.region [⟨(some 2), (.box false (.t 0)), none⟩,
    ⟨(some 3), (.box false (.t 1)), none⟩,
    ⟨(some 4), (.mv (.c (.p (.s (.bool false))))), none⟩] none [2, 3])
  (.seq (.seq (.region [⟨(some 5), (.fieldAddr 1 (.t 2)), none⟩,
    ⟨(some 6), (.load 1 false (.t 5)), none⟩,
    ⟨(some 7), (.eq false .ptr (.t 6) (.c (.p (.s (.pointer none))))), none⟩] none [2, 3, 7])
  (.cond (.t 7) (.seq (.region [⟨(some 8), (.fieldAddr 0 (.t 2)), none⟩,
    ⟨(some 9), (.load 1 false (.t 8)), none⟩,
    ⟨(some 10), (.fieldAddr 0 (.t 3)), none⟩,
    ⟨(some 11), (.load 1 false (.t 10)), none⟩,
    ⟨(some 12), (.bin .leq (.t 9) (.t 11)), none⟩,
    ⟨(some 4), (.mv (.t 12)), none⟩] none [4])
  .ret) .skip))
  (.seq (.seq (.region [⟨(some 13), (.fieldAddr 0 (.t 2)), none⟩,
    ⟨(some 14), (.load 1 false (.t 13)), none⟩,
    ⟨(some 15), (.fieldAddr 0 (.t 3)), none⟩,
    ⟨(some 16), (.load 1 false (.t 15)), none⟩,
    ⟨(some 17), (.bin .gtr (.t 14) (.t 16)), none⟩,
    ⟨(some 18), (.mv (.t 17)), none⟩,
    ⟨(some 19), (.fieldAddr 1 (.t 3)), (some (18, true))⟩,
    ⟨(some 20), (.load 1 false (.t 19)), (some (18, true))⟩,
    ⟨(some 21), (.eq false .ptr (.t 20) (.c (.p (.s (.pointer none))))), (some (18, true))⟩,
    ⟨(some 22), (.pick (.t 18) (.t 21) (.c (.p (.s (.bool false))))), none⟩] none [2, 3, 22])
  (.cond (.t 22) (.seq (.region [⟨(some 4), (.mv (.c (.p (.s (.bool false))))), none⟩] none [4])
  .ret) .skip))
  (.seq (.region [⟨(some 23), (.fieldAddr 1 (.t 2)), none⟩,
    ⟨(some 24), (.load 1 false (.t 23)), none⟩,
    ⟨(some 25), (.nilCk (.t 24)), none⟩,
    ⟨(some 26), (.fieldAddr 0 (.t 25)), none⟩,
    ⟨(some 27), (.load 2 true (.t 26)), none⟩,
    ⟨(some 28), (.fieldAddr 0 (.t 2)), none⟩,
    ⟨(some 29), (.load 1 false (.t 28)), none⟩,
    ⟨(some 30), (.call 148 [(.t 27), (.t 29)]), none⟩,
    ⟨(some 31), (.load 2 true (.t 3)), none⟩,
    ⟨(some 32), (.call 123 [(.t 31)]), none⟩,
    ⟨(some 33), (.fieldAddr 0 (.t 3)), none⟩,
    ⟨(some 34), (.load 1 false (.t 33)), none⟩,
    ⟨(some 35), (.call 148 [(.t 32), (.t 34)]), none⟩,
    ⟨(some 36), (.call 120 [(.t 30), (.t 35)]), none⟩,
    ⟨(some 37), (.mv (.t 36)), none⟩,
    ⟨(some 38), (.fieldAddr 1 (.t 2)), (some (37, true))⟩,
    ⟨(some 39), (.load 1 false (.t 38)), (some (37, true))⟩,
    ⟨(some 40), (.nilCk (.t 39)), (some (37, true))⟩,
    ⟨(some 41), (.fieldAddr 2 (.t 40)), (some (37, true))⟩,
    ⟨(some 42), (.load 2 true (.t 41)), (some (37, true))⟩,
    ⟨(some 43), (.fieldAddr 0 (.t 2)), (some (37, true))⟩,
    ⟨(some 44), (.load 1 false (.t 43)), (some (37, true))⟩,
    ⟨(some 45), (.call 148 [(.t 42), (.t 44)]), (some (37, true))⟩,
    ⟨(some 46), (.load 2 true (.t 3)), (some (37, true))⟩,
    ⟨(some 47), (.call 124 [(.t 46)]), (some (37, true))⟩,
    ⟨(some 48), (.fieldAddr 0 (.t 3)), (some (37, true))⟩,
    ⟨(some 49), (.load 1 false (.t 48)), (some (37, true))⟩,
    ⟨(some 50), (.call 148 [(.t 47), (.t 49)]), (some (37, true))⟩,
    ⟨(some 51), (.call 120 [(.t 45), (.t 50)]), (some (37, true))⟩,
    ⟨(some 52), (.pick (.t 37) (.t 51) (.c (.p (.s (.bool false))))), none⟩,
    ⟨(some 4), (.mv (.t 52)), none⟩] (some [0, 1, 3, 7, 15, 0, 32, 127, 0, 511, 0, 1024, 4095, 8191, 16383, 32767, 65535, 131071, 262143, 524287, 32767, 1081343, 4194303, 32767, 16777215, 32767, 33587199, 134217727, 268435455, 536870911, 1073741823]) [4])
  .ret)))), [(4, none)], false⟩
/-- kinfolk/kinfolkref05.power -/
def ir138_0 : IRC := (.seq (.seq (.region [⟨(some 5), (.mv (.t 4)), none⟩,
    ⟨(some 6), (.mv (.t 0)), none⟩,
    ⟨(some 7), (.bin .lss (.t 5) (.t 6)), none⟩] none [0, 3, 4, 7])
  (.cond (.t 7) .skip (.exit 0)))
  (.seq (.block 1 (.region [⟨(some 10), (.mv (.t 3)), none⟩,
    ⟨(some 11), (.bin .mul (.t 10) (.c (.p (.s (.int .u64 2))))), none⟩,
    ⟨(some 3), (.mv (.t 11)), none⟩] none [0, 3, 4]))
  (.region [⟨(some 8), (.mv (.t 4)), none⟩,
    ⟨(some 9), (.bin .add (.t 8) (.c (.p (.s (.int .i64 1))))), none⟩,
    ⟨(some 4), (.mv (.t 9)), none⟩] none [0, 3, 4])))
def ir138 : IRF := ⟨[0], (.seq (.region [⟨(some 2), (.mv (.c (.p (.s (.int .u64 0))))), none⟩] none [0])
  (.seq (.region [⟨(some 3), (.mv (.c (.p (.s (.int .u64 1))))), none⟩] none [0, 3])
  (.seq (.seq (.region [⟨(some 4), (.mv (.c (.p (.s (.int .i64 0))))), none⟩] none [0, 3, 4])
  (.block 0 (.loop ir138_0)))
  (.seq (.region [⟨(some 12), (.mv (.t 3)), none⟩,
    ⟨(some 2), (.mv (.t 12)), none⟩] none [2])
  .ret)))), [(2, none)], false⟩
/-- kinfolk/kinfolkref05.within -/
def ir139 : IRF := ⟨[0], (.seq (.region [⟨(some 2), (.mv (.c (.p (.s (.int .i64 0))))), none⟩] none [0])
  (.seq (.seq (.region [⟨(some 3), (.mv (.t 0)), none⟩,
    ⟨(some 4), (.bin .lss (.t 3) (.c (.p (.s (.int .i64 0))))), none⟩] none [0, 4])
  (.cond (.t 4) (.seq (.region [⟨(some 2), (.mv (.c (.p (.s (.int .i64 0))))), none⟩] none [2])
  .ret) .skip))
  (.seq (.seq (.region [⟨(some 5), (.mv (.t 0)), none⟩,
    ⟨(some 6), (.bin .gtr (.t 5) (.c (.p (.s (.int .i64 64))))), none⟩] none [0, 6])
  (.cond (.t 6) (.seq (.region [⟨(some 2), (.mv (.c (.p (.s (.int .i64 64))))), none⟩] none [2])
  .ret) .skip))
  (.seq (.region [⟨(some 7), (.mv (.t 0)), none⟩,
    ⟨(some 2), (.mv (.t 7)), none⟩] none [2])
  .ret)))), [(2, none)], false⟩
/-- slices.IndexFunc[[]kinfolk/book.Entry,kinfolk/book.Entry] -/
def ir146_0 : IRC := (.seq (.region [⟨(some 9), (.bin .lss (.t 8) (.t 7)), none⟩] none [0, 1, 7, 8, 9])
  (.seq (.cond (.t 9) .skip (.exit 0))
  (.seq (.block 1 (.seq (.region [⟨(some 10), (.mv (.t 8)), none⟩,
    ⟨(some 5), (.mv (.t 10)), none⟩] none [0, 1, 5, 7, 8])
  (.seq (.region [⟨(some 11), (.mv (.t 1)), none⟩,
    ⟨(some 12), (.mv (.t 0)), none⟩,
    ⟨(some 13), (.mv (.t 5)), none⟩,
    ⟨(some 14), (.idxASl 5 (.t 12) (.t 13)), none⟩,
    ⟨(some 15), (.load 5 true (.t 14)), none⟩,
    ⟨(some 16), (.callv (.t 11) [(.t 15)]), none⟩] none [0, 1, 5, 7, 8, 16])
  (.cond (.t 16) (.seq (.region [⟨(some 17), (.mv (.t 5)), none⟩,
    ⟨(some 4), (.mv (.t 17)), none⟩] none [4])
  .ret) .skip))))
  (.region [⟨(some 18), (.bin .add (.t 8) (.c (.p (.s (.int .i64 1))))), none⟩,
    ⟨(some 8), (.mv (.t 18)), none⟩] none [0, 1, 7, 8]))))
def ir146 : IRF := ⟨[0, 1], (.seq (.region [⟨(some 4), (.mv (.c (.p (.s (.int .i64 0))))), none⟩] none [0, 1])
  (.seq (.seq (.region [⟨(some 6), (.mv (.t 0)), none⟩,
    ⟨(some 7), (.len false (.t 6)), none⟩,
    ⟨(some 8), (.mv (.c (.p (.s (.int .i64 0))))), none⟩] none [0, 1, 7, 8])
  (.block 0 (.loop ir146_0)))
  (.seq (.region [⟨(some 4), (.mv (.c (.p (.s (.int .i64 (-1)))))), none⟩] none [4])
  .ret))), [(4, none)], false⟩
end Go.Proofs.YtjmnamichdegaaaGreatDoor
end

section
namespace Go.Proofs.YtjmnamichdegaaaGreatDoor
open Go Go.Sx
def imT (t : TypeId) : Bool := [125, 127, 229, 249].contains t
def ow (f : FuncId) : Bool := [6, 9, 10, 26, 28, 31, 32, 40, 45, 47, 50, 61, 62, 85, 89, 126, 127].contains f
def irs0_ : List (FuncId × IRF) := [(3, ir3), (4, ir4), (5, ir5), (6, ir6), (7, ir7), (8, ir8), (9, ir9), (10, ir10), (11, ir11), (12, ir12), (13, ir13), (14, ir14), (15, ir15), (16, ir16), (17, ir17), (18, ir18), (19, ir19), (20, ir20), (21, ir21), (22, ir22), (23, ir23), (24, ir24), (25, ir25), (26, ir26), (27, ir27), (28, ir28), (29, ir29), (30, ir30), (31, ir31), (32, ir32), (33, ir33), (34, ir34), (35, ir35), (36, ir36), (37, ir37), (38, ir38), (39, ir39), (40, ir40), (41, ir41), (42, ir42)]
theorem irs0_ok : ∀ p ∈ irs0_, ∃ fn, Tryz.prog.funcs[p.1]? = some fn ∧ cF Tryz.prog imT (ow p.1) fn = some p.2 ∧ fn.name ≠ "runtime.NumGoroutine" := by
  unfold irs0_
  simp only [List.forall_mem_cons]
  refine ⟨⟨Tryz.f3, Tryz.func3, by kernel_rfl, by decide⟩, ⟨Tryz.f4, Tryz.func4, by kernel_rfl, by decide⟩, ⟨Tryz.f5, Tryz.func5, by kernel_rfl, by decide⟩, ⟨Tryz.f6, Tryz.func6, by kernel_rfl, by decide⟩, ⟨Tryz.f7, Tryz.func7, by kernel_rfl, by decide⟩, ⟨Tryz.f8, Tryz.func8, by kernel_rfl, by decide⟩, ⟨Tryz.f9, Tryz.func9, by kernel_rfl, by decide⟩, ⟨Tryz.f10, Tryz.func10, by kernel_rfl, by decide⟩, ⟨Tryz.f11, Tryz.func11, by kernel_rfl, by decide⟩, ⟨Tryz.f12, Tryz.func12, by kernel_rfl, by decide⟩, ⟨Tryz.f13, Tryz.func13, by kernel_rfl, by decide⟩, ⟨Tryz.f14, Tryz.func14, by kernel_rfl, by decide⟩, ⟨Tryz.f15, Tryz.func15, by kernel_rfl, by decide⟩, ⟨Tryz.f16, Tryz.func16, by kernel_rfl, by decide⟩, ⟨Tryz.f17, Tryz.func17, by kernel_rfl, by decide⟩, ⟨Tryz.f18, Tryz.func18, by kernel_rfl, by decide⟩, ⟨Tryz.f19, Tryz.func19, by kernel_rfl, by decide⟩, ⟨Tryz.f20, Tryz.func20, by kernel_rfl, by decide⟩, ⟨Tryz.f21, Tryz.func21, by kernel_rfl, by decide⟩, ⟨Tryz.f22, Tryz.func22, by kernel_rfl, by decide⟩, ⟨Tryz.f23, Tryz.func23, by kernel_rfl, by decide⟩, ⟨Tryz.f24, Tryz.func24, by kernel_rfl, by decide⟩, ⟨Tryz.f25, Tryz.func25, by kernel_rfl, by decide⟩, ⟨Tryz.f26, Tryz.func26, by kernel_rfl, by decide⟩, ⟨Tryz.f27, Tryz.func27, by kernel_rfl, by decide⟩, ⟨Tryz.f28, Tryz.func28, by kernel_rfl, by decide⟩, ⟨Tryz.f29, Tryz.func29, by kernel_rfl, by decide⟩, ⟨Tryz.f30, Tryz.func30, by kernel_rfl, by decide⟩, ⟨Tryz.f31, Tryz.func31, by kernel_rfl, by decide⟩, ⟨Tryz.f32, Tryz.func32, by kernel_rfl, by decide⟩, ⟨Tryz.f33, Tryz.func33, by kernel_rfl, by decide⟩, ⟨Tryz.f34, Tryz.func34, by kernel_rfl, by decide⟩, ⟨Tryz.f35, Tryz.func35, by kernel_rfl, by decide⟩, ⟨Tryz.f36, Tryz.func36, by kernel_rfl, by decide⟩, ⟨Tryz.f37, Tryz.func37, by kernel_rfl, by decide⟩, ⟨Tryz.f38, Tryz.func38, by kernel_rfl, by decide⟩, ⟨Tryz.f39, Tryz.func39, by kernel_rfl, by decide⟩, ⟨Tryz.f40, Tryz.func40, by kernel_rfl, by decide⟩, ⟨Tryz.f41, Tryz.func41, by kernel_rfl, by decide⟩, ⟨Tryz.f42, Tryz.func42, by kernel_rfl, by decide⟩, fun _ h => by cases h⟩
def irs1_ : List (FuncId × IRF) := [(43, ir43), (44, ir44), (45, ir45), (50, ir50), (51, ir51), (52, ir52), (53, ir53), (54, ir54), (59, ir59), (60, ir60), (61, ir61), (62, ir62), (63, ir63), (64, ir64), (65, ir65), (68, ir68), (69, ir69), (70, ir70), (71, ir71), (72, ir72), (73, ir73), (78, ir78), (79, ir79), (80, ir80), (81, ir81), (82, ir82), (89, ir89), (90, ir90), (91, ir91), (92, ir92), (102, ir102), (103, ir103), (107, ir107), (114, ir114), (115, ir115), (116, ir116), (117, ir117), (120, ir120), (138, ir138), (139, ir139)]
theorem irs1_ok : ∀ p ∈ irs1_, ∃ fn, Tryz.prog.funcs[p.1]? = some fn ∧ cF Tryz.prog imT (ow p.1) fn = some p.2 ∧ fn.name ≠ "runtime.NumGoroutine" := by
  unfold irs1_
  simp only [List.forall_mem_cons]
  refine ⟨⟨Tryz.f43, Tryz.func43, by kernel_rfl, by decide⟩, ⟨Tryz.f44, Tryz.func44, by kernel_rfl, by decide⟩, ⟨Tryz.f45, Tryz.func45, by kernel_rfl, by decide⟩, ⟨Tryz.f50, Tryz.func50, by kernel_rfl, by decide⟩, ⟨Tryz.f51, Tryz.func51, by kernel_rfl, by decide⟩, ⟨Tryz.f52, Tryz.func52, by kernel_rfl, by decide⟩, ⟨Tryz.f53, Tryz.func53, by kernel_rfl, by decide⟩, ⟨Tryz.f54, Tryz.func54, by kernel_rfl, by decide⟩, ⟨Tryz.f59, Tryz.func59, by kernel_rfl, by decide⟩, ⟨Tryz.f60, Tryz.func60, by kernel_rfl, by decide⟩, ⟨Tryz.f61, Tryz.func61, by kernel_rfl, by decide⟩, ⟨Tryz.f62, Tryz.func62, by kernel_rfl, by decide⟩, ⟨Tryz.f63, Tryz.func63, by kernel_rfl, by decide⟩, ⟨Tryz.f64, Tryz.func64, by kernel_rfl, by decide⟩, ⟨Tryz.f65, Tryz.func65, by kernel_rfl, by decide⟩, ⟨Tryz.f68, Tryz.func68, by kernel_rfl, by decide⟩, ⟨Tryz.f69, Tryz.func69, by kernel_rfl, by decide⟩, ⟨Tryz.f70, Tryz.func70, by kernel_rfl, by decide⟩, ⟨Tryz.f71, Tryz.func71, by kernel_rfl, by decide⟩, ⟨Tryz.f72, Tryz.func72, by kernel_rfl, by decide⟩, ⟨Tryz.f73, Tryz.func73, by kernel_rfl, by decide⟩, ⟨Tryz.f78, Tryz.func78, by kernel_rfl, by decide⟩, ⟨Tryz.f79, Tryz.func79, by kernel_rfl, by decide⟩, ⟨Tryz.f80, Tryz.func80, by kernel_rfl, by decide⟩, ⟨Tryz.f81, Tryz.func81, by kernel_rfl, by decide⟩, ⟨Tryz.f82, Tryz.func82, by kernel_rfl, by decide⟩, ⟨Tryz.f89, Tryz.func89, by kernel_rfl, by decide⟩, ⟨Tryz.f90, Tryz.func90, by kernel_rfl, by decide⟩, ⟨Tryz.f91, Tryz.func91, by kernel_rfl, by decide⟩, ⟨Tryz.f92, Tryz.func92, by kernel_rfl, by decide⟩, ⟨Tryz.f102, Tryz.func102, by kernel_rfl, by decide⟩, ⟨Tryz.f103, Tryz.func103, by kernel_rfl, by decide⟩, ⟨Tryz.f107, Tryz.func107, by kernel_rfl, by decide⟩, ⟨Tryz.f114, Tryz.func114, by kernel_rfl, by decide⟩, ⟨Tryz.f115, Tryz.func115, by kernel_rfl, by decide⟩, ⟨Tryz.f116, Tryz.func116, by kernel_rfl, by decide⟩, ⟨Tryz.f117, Tryz.func117, by kernel_rfl, by decide⟩, ⟨Tryz.f120, Tryz.func120, by kernel_rfl, by decide⟩, ⟨Tryz.f138, Tryz.func138, by kernel_rfl, by decide⟩, ⟨Tryz.f139, Tryz.func139, by kernel_rfl, by decide⟩, fun _ h => by cases h⟩
def irs2_ : List (FuncId × IRF) := [(146, ir146)]
theorem irs2_ok : ∀ p ∈ irs2_, ∃ fn, Tryz.prog.funcs[p.1]? = some fn ∧ cF Tryz.prog imT (ow p.1) fn = some p.2 ∧ fn.name ≠ "runtime.NumGoroutine" := by
  unfold irs2_
  simp only [List.forall_mem_cons]
  refine ⟨⟨Tryz.f146, Tryz.func146, by kernel_rfl, by decide⟩, fun _ h => by cases h⟩
def irs : List (FuncId × IRF) := irs0_ ++ irs1_ ++ irs2_
theorem irs_ok : ∀ p ∈ irs, ∃ fn, Tryz.prog.funcs[p.1]? = some fn ∧ cF Tryz.prog imT (ow p.1) fn = some p.2 ∧ fn.name ≠ "runtime.NumGoroutine" := by
  intro p hp
  simp only [irs, List.mem_append] at hp
  rcases hp with ((h0 | h1) | h2)
  · exact irs0_ok p h0
  · exact irs1_ok p h1
  · exact irs2_ok p h2
end Go.Proofs.YtjmnamichdegaaaGreatDoor
end

section
namespace Go.Proofs.YtjmnamichdegaaaGreatDoor
open Go Go.Sx
set_option linter.unusedSimpArgs false
set_option linter.unusedVariables false

theorem wrap_i64 (x : Int) (h1 : -(2 ^ 63) ≤ x) (h2 : x < 2 ^ 63) : IntKind.i64.wrap x = x := by
  simp only [IntKind.wrap, IntKind.signed, IntKind.bits]
  simp
  omega

theorem ltF (n k : Nat) : (n + k < n) ↔ False := ⟨fun h => absurd h (Nat.not_lt.2 (Nat.le_add_right n k)), False.elim⟩

theorem binI_add (k : IntKind) (x y : Int) : binI .add k x y = some (.int k (k.wrap (x + y))) := rfl
theorem binI_sub (k : IntKind) (x y : Int) : binI .sub k x y = some (.int k (k.wrap (x - y))) := rfl
theorem binI_mul (k : IntKind) (x y : Int) : binI .mul k x y = some (.int k (k.wrap (x * y))) := rfl
theorem binI_eql (k : IntKind) (x y : Int) : binI .eql k x y = some (.bool (x == y)) := rfl
theorem binI_neq (k : IntKind) (x y : Int) : binI .neq k x y = some (.bool (x != y)) := rfl
theorem binI_lss (k : IntKind) (x y : Int) : binI .lss k x y = some (.bool (!leI y x)) := rfl
theorem binI_leq (k : IntKind) (x y : Int) : binI .leq k x y = some (.bool (leI x y)) := rfl
theorem binI_gtr (k : IntKind) (x y : Int) : binI .gtr k x y = some (.bool (!leI x y)) := rfl
theorem binI_geq (k : IntKind) (x y : Int) : binI .geq k x y = some (.bool (leI y x)) := rfl

theorem unL_not (b : Bool) : unL .not (.p (.s (.bool b))) = some (.bool (!b)) := rfl
theorem unL_neg (k : IntKind) (n : Int) : unL .neg (.p (.s (.int k n))) = some (.int k (k.wrap (0 - n))) := rfl

/-- The machine's steps, all together. -/
theorem ssB : ((((((((type_of% @Go.Sx.runF_S) ∧ ((type_of% @runCS_skip) ∧ (type_of% @runCS_reg))) ∧ ((type_of% @runCS_draw) ∧ ((type_of% @runCS_seq) ∧ (type_of% @runCS_cond)))) ∧ (((type_of% @runCS_block) ∧ ((type_of% @runCS_loop) ∧ (type_of% @runCS_exit))) ∧ ((type_of% @runCS_ret) ∧ ((type_of% @runOpsS_nil) ∧ (type_of% @runOpsS_cons))))) ∧ ((((type_of% @runOpsTS_nil) ∧ ((type_of% @runOpsTS_cons) ∧ (type_of% @Go.Sx.wants.eq_1))) ∧ ((type_of% @Go.Sx.wants.eq_2) ∧ ((type_of% @Go.Sx.evOp.eq_def) ∧ (type_of% @Go.Sx.opd.eq_1)))) ∧ (((type_of% @Go.Sx.opd.eq_2) ∧ ((type_of% @Go.Sx.opd.eq_3) ∧ (type_of% @Go.Sx.get.eq_1))) ∧ ((type_of% @Go.Sx.get.eq_2) ∧ ((type_of% @Go.Sx.putD.eq_1) ∧ (type_of% @Go.Sx.putD.eq_2)))))) ∧ (((((type_of% @Go.Sx.keep.eq_1) ∧ ((type_of% @Go.Sx.binL.eq_1) ∧ (type_of% @Go.Sx.binL.eq_2))) ∧ ((type_of% @Go.Sx.binL.eq_3) ∧ ((type_of% @Go.Sx.isSh.eq_1) ∧ (type_of% @Go.Sx.isSh.eq_2)))) ∧ (((type_of% @Go.Sx.isSh.eq_3) ∧ ((type_of% @binI_add) ∧ (type_of% @binI_sub))) ∧ ((type_of% @binI_mul) ∧ ((type_of% @binI_eql) ∧ (type_of% @binI_neq))))) ∧ ((((type_of% @binI_lss) ∧ ((type_of% @binI_leq) ∧ (type_of% @binI_gtr))) ∧ ((type_of% @binI_geq) ∧ ((type_of% @Go.Sx.eqL.eq_1) ∧ (type_of% @Go.Sx.eqL.eq_2)))) ∧ (((type_of% @Go.Sx.eqL.eq_3) ∧ ((type_of% @Go.Sx.eqL.eq_4) ∧ (type_of% @Go.Sx.eqL.eq_5))) ∧ (((type_of% @Go.Sx.eqL.eq_6) ∧ (type_of% @Go.Sx.eqL.eq_7)) ∧ ((type_of% @Go.Sx.eqL.eq_8) ∧ (type_of% @Go.Sx.eqL.eq_9))))))) ∧ ((((((type_of% @Go.Sx.eqL.eq_10) ∧ ((type_of% @Go.Sx.eqL.eq_11) ∧ (type_of% @Go.Sx.eqL.eq_12))) ∧ ((type_of% @Go.Sx.eqL.eq_13) ∧ ((type_of% @Go.Sx.eqL.eq_14) ∧ (type_of% @Go.Sx.eqL.eq_15)))) ∧ (((type_of% @unL_not) ∧ ((type_of% @unL_neg) ∧ (type_of% @Go.Sx.resVs.eq_1))) ∧ ((type_of% @Go.Sx.resVs.eq_2) ∧ ((type_of% @Go.Sx.resV.eq_1) ∧ (type_of% @Go.Sx.resV.eq_2))))) ∧ ((((type_of% @Go.Sx.oneL.eq_1) ∧ ((type_of% @Go.Sx.oneL.eq_2) ∧ (type_of% @Go.Sx.frz.eq_1))) ∧ ((type_of% @Go.Sx.frz.eq_2) ∧ ((type_of% @Go.Sx.frz.go.eq_1) ∧ (type_of% @Go.Sx.frz.go.eq_2)))) ∧ (((type_of% @Go.Sx.frzL.eq_1) ∧ ((type_of% @Go.Sx.frzL.eq_2) ∧ (type_of% @Go.Sx.frzL.eq_3))) ∧ ((type_of% @Go.Sx.frzL.eq_4) ∧ ((type_of% @Go.Sx.frzL.eq_5) ∧ (type_of% @Go.Sx.frzL.go.eq_1)))))) ∧ (((((type_of% @Go.Sx.frzL.go.eq_2) ∧ ((type_of% @Go.Sx.ids.eq_1) ∧ (type_of% @Go.Sx.ids.eq_2))) ∧ ((type_of% @Go.Sx.ids.eq_3) ∧ ((type_of% @Go.Sx.ids.eq_4) ∧ (type_of% @Go.Sx.ids.eq_5)))) ∧ (((type_of% @Go.Sx.ids.eq_6) ∧ ((type_of% @Go.Sx.ids.idsL.eq_1) ∧ (type_of% @Go.Sx.ids.idsL.eq_2))) ∧ ((type_of% @Go.Sx.updIds.eq_1) ∧ ((type_of% @Go.Sx.updIds.eq_2) ∧ (type_of% @Go.Sx.updIds.eq_3))))) ∧ ((((type_of% @Go.Sx.reach.eq_1) ∧ ((type_of% @Go.Sx.reach.eq_2) ∧ (type_of% @Go.Sx.reach.eq_3))) ∧ ((type_of% @Go.Sx.ren.eq_1) ∧ ((type_of% @Go.Sx.ren.eq_2) ∧ (type_of% @Go.Sx.ren.eq_3)))) ∧ (((type_of% @Go.Sx.ren.eq_4) ∧ ((type_of% @Go.Sx.ren.eq_5) ∧ (type_of% @Go.Sx.ren.eq_6))) ∧ (((type_of% @Go.Sx.ren.eq_7) ∧ (type_of% @Go.Sx.ren.go.eq_1)) ∧ ((type_of% @Go.Sx.ren.go.eq_2) ∧ (type_of% @Go.Sx.renU.eq_1)))))))) ∧ (((((((type_of% @Go.Sx.renU.eq_2) ∧ ((type_of% @Go.Sx.renN.eq_1) ∧ (type_of% @Go.Sx.renN.eq_2))) ∧ ((type_of% @Go.Sx.renO.eq_1) ∧ ((type_of% @Go.Sx.renO.eq_2) ∧ (type_of% @Go.Sx.renO.eq_3)))) ∧ (((type_of% @Go.Sx.renId.eq_1) ∧ ((type_of% @Go.Sx.fillP.eq_1) ∧ (type_of% @Go.Sx.fillP.eq_2))) ∧ ((type_of% @Go.Sx.mkAgg.eq_1) ∧ ((type_of% @Go.Sx.allP.eq_1) ∧ (type_of% @Go.Sx.allP.eq_2))))) ∧ ((((type_of% @Go.Sx.allP.eq_3) ∧ ((type_of% @Go.Sx.LV.cells.eq_1) ∧ (type_of% @Go.Sx.LV.cells.eq_2))) ∧ ((type_of% @Go.Sx.LV.cells.eq_3) ∧ ((type_of% @Go.Sx.LV.cells.eq_4) ∧ (type_of% @Go.Sx.LV.cells.eq_5)))) ∧ (((type_of% @Go.Sx.LV.cells.eq_6) ∧ ((type_of% @Go.Sx.rd.eq_1) ∧ (type_of% @Go.Sx.findU.eq_1))) ∧ ((type_of% @Go.Sx.findU.eq_2) ∧ ((type_of% @Go.Sx.slCells.eq_1) ∧ (type_of% @Go.Sx.slCells.eq_2)))))) ∧ (((((type_of% @Go.Sx.slCells.eq_3) ∧ ((type_of% @Go.Sx.slCells.eq_4) ∧ (type_of% @Go.Sx.slCells.eq_5))) ∧ ((type_of% @Go.Sx.sliceO.eq_1) ∧ ((type_of% @Go.Sx.sliceO.eq_2) ∧ (type_of% @Go.Sx.sliceO.eq_3)))) ∧ (((type_of% @Go.Sx.sliceO.eq_4) ∧ ((type_of% @Go.Value.oneCell'.eq_1) ∧ (type_of% @Go.Value.oneCell'.eq_2))) ∧ ((type_of% @Go.Value.oneCell'.eq_3) ∧ ((type_of% @Go.Sx.mmL.eq_1) ∧ (type_of% @Go.Sx.mmL.eq_2))))) ∧ ((((type_of% @Go.Sx.mm2.eq_1) ∧ ((type_of% @Go.Sx.mm2.eq_2) ∧ (type_of% @Go.Sx.gslot.eq_1))) ∧ ((type_of% @Go.Sx.gslot.eq_2) ∧ ((type_of% @Go.Sx.IROp.slots.eq_1) ∧ (type_of% @Go.Sx.IROp.slots.eq_2)))) ∧ (((type_of% @Go.Sx.IROp.slots.eq_3) ∧ ((type_of% @Go.Sx.IROp.slots.eq_4) ∧ (type_of% @Go.Sx.IROp.slots.eq_5))) ∧ (((type_of% @Go.Sx.IROp.slots.eq_6) ∧ (type_of% @Go.Sx.IROp.slots.eq_7)) ∧ ((type_of% @Go.Sx.IROp.slots.eq_8) ∧ (type_of% @Go.Sx.IROp.slots.eq_9))))))) ∧ ((((((type_of% @Go.Sx.IROp.slots.eq_10) ∧ ((type_of% @Go.Sx.IROp.slots.eq_11) ∧ (type_of% @Go.Sx.IROp.slots.eq_12))) ∧ ((type_of% @Go.Sx.IROp.slots.eq_13) ∧ ((type_of% @Go.Sx.IROp.slots.eq_14) ∧ (type_of% @Go.Sx.IROp.slots.eq_15)))) ∧ (((type_of% @Go.Sx.IROp.slots.eq_16) ∧ ((type_of% @Go.Sx.IROp.slots.eq_17) ∧ (type_of% @Go.Sx.IROp.slots.eq_18))) ∧ ((type_of% @Go.Sx.IROp.slots.eq_19) ∧ ((type_of% @Go.Sx.IROp.slots.eq_20) ∧ (type_of% @Go.Sx.IROp.slots.eq_21))))) ∧ ((((type_of% @Go.Sx.IROp.slots.eq_22) ∧ ((type_of% @Go.Sx.IROp.slots.eq_23) ∧ (type_of% @Go.Sx.IROp.slots.eq_24))) ∧ ((type_of% @Go.Sx.IROp.slots.eq_25) ∧ ((type_of% @Go.Sx.IROp.slots.eq_26) ∧ (type_of% @Go.Sx.IROp.slots.eq_27)))) ∧ (((type_of% @Go.Sx.IROp.slots.eq_28) ∧ ((type_of% @Go.Sx.IROp.slots.eq_29) ∧ (type_of% @Go.Sx.IROp.slots.eq_30))) ∧ ((type_of% @Go.Sx.IROp.slots.eq_31) ∧ ((type_of% @Go.Sx.IROp.slots.eq_32) ∧ (type_of% @Go.Sx.IROp.slots.eq_33)))))) ∧ (((((type_of% @Go.Sx.IROp.slots.eq_34) ∧ ((type_of% @Go.Sx.IROp.slots.eq_35) ∧ (type_of% @Go.Sx.IROp.slots.eq_36))) ∧ ((type_of% @Go.Sx.IROp.slots.eq_37) ∧ ((type_of% @Go.Sx.IROp.slots.eq_38) ∧ (type_of% @Go.Sx.Opd.slots.eq_1)))) ∧ (((type_of% @Go.Sx.Opd.slots.eq_2) ∧ ((type_of% @Go.Sx.indepD.eq_1) ∧ (type_of% @Go.Sx.quickD.eq_1))) ∧ ((type_of% @Go.Sx.quickD.eq_2) ∧ ((type_of% @Go.Sx.indepR.eq_1) ∧ (type_of% @Go.Sx.indepR.eq_2))))) ∧ ((((type_of% @Go.Sx.indepR.eq_3) ∧ ((type_of% @Go.Sx.pairsD.eq_1) ∧ (type_of% @Go.Sx.pairsD.eq_2))) ∧ ((type_of% @Go.Sx.apartD.eq_1) ∧ ((type_of% @Nat.testBit.eq_1) ∧ (type_of% @Go.Sx.Obj.ids.eq_1)))) ∧ (((type_of% @Go.Sx.Obj.ids.eq_2) ∧ ((type_of% @Go.Sx.natL.eq_1) ∧ (type_of% @Go.Sx.natL.eq_2))) ∧ (((type_of% @Go.Sx.optMap.eq_1) ∧ (type_of% @Go.Sx.optMap.eq_2)) ∧ ((type_of% @Go.undef.eq_1) ∧ (type_of% @ltF))))))))) :=
  ⟨⟨⟨⟨⟨⟨⟨@Go.Sx.runF_S, ⟨@runCS_skip, @runCS_reg⟩⟩, ⟨@runCS_draw, ⟨@runCS_seq, @runCS_cond⟩⟩⟩, ⟨⟨@runCS_block, ⟨@runCS_loop, @runCS_exit⟩⟩, ⟨@runCS_ret, ⟨@runOpsS_nil, @runOpsS_cons⟩⟩⟩⟩, ⟨⟨⟨@runOpsTS_nil, ⟨@runOpsTS_cons, @Go.Sx.wants.eq_1⟩⟩, ⟨@Go.Sx.wants.eq_2, ⟨@Go.Sx.evOp.eq_def, @Go.Sx.opd.eq_1⟩⟩⟩, ⟨⟨@Go.Sx.opd.eq_2, ⟨@Go.Sx.opd.eq_3, @Go.Sx.get.eq_1⟩⟩, ⟨@Go.Sx.get.eq_2, ⟨@Go.Sx.putD.eq_1, @Go.Sx.putD.eq_2⟩⟩⟩⟩⟩, ⟨⟨⟨⟨@Go.Sx.keep.eq_1, ⟨@Go.Sx.binL.eq_1, @Go.Sx.binL.eq_2⟩⟩, ⟨@Go.Sx.binL.eq_3, ⟨@Go.Sx.isSh.eq_1, @Go.Sx.isSh.eq_2⟩⟩⟩, ⟨⟨@Go.Sx.isSh.eq_3, ⟨@binI_add, @binI_sub⟩⟩, ⟨@binI_mul, ⟨@binI_eql, @binI_neq⟩⟩⟩⟩, ⟨⟨⟨@binI_lss, ⟨@binI_leq, @binI_gtr⟩⟩, ⟨@binI_geq, ⟨@Go.Sx.eqL.eq_1, @Go.Sx.eqL.eq_2⟩⟩⟩, ⟨⟨@Go.Sx.eqL.eq_3, ⟨@Go.Sx.eqL.eq_4, @Go.Sx.eqL.eq_5⟩⟩, ⟨⟨@Go.Sx.eqL.eq_6, @Go.Sx.eqL.eq_7⟩, ⟨@Go.Sx.eqL.eq_8, @Go.Sx.eqL.eq_9⟩⟩⟩⟩⟩⟩, ⟨⟨⟨⟨⟨@Go.Sx.eqL.eq_10, ⟨@Go.Sx.eqL.eq_11, @Go.Sx.eqL.eq_12⟩⟩, ⟨@Go.Sx.eqL.eq_13, ⟨@Go.Sx.eqL.eq_14, @Go.Sx.eqL.eq_15⟩⟩⟩, ⟨⟨@unL_not, ⟨@unL_neg, @Go.Sx.resVs.eq_1⟩⟩, ⟨@Go.Sx.resVs.eq_2, ⟨@Go.Sx.resV.eq_1, @Go.Sx.resV.eq_2⟩⟩⟩⟩, ⟨⟨⟨@Go.Sx.oneL.eq_1, ⟨@Go.Sx.oneL.eq_2, @Go.Sx.frz.eq_1⟩⟩, ⟨@Go.Sx.frz.eq_2, ⟨@Go.Sx.frz.go.eq_1, @Go.Sx.frz.go.eq_2⟩⟩⟩, ⟨⟨@Go.Sx.frzL.eq_1, ⟨@Go.Sx.frzL.eq_2, @Go.Sx.frzL.eq_3⟩⟩, ⟨@Go.Sx.frzL.eq_4, ⟨@Go.Sx.frzL.eq_5, @Go.Sx.frzL.go.eq_1⟩⟩⟩⟩⟩, ⟨⟨⟨⟨@Go.Sx.frzL.go.eq_2, ⟨@Go.Sx.ids.eq_1, @Go.Sx.ids.eq_2⟩⟩, ⟨@Go.Sx.ids.eq_3, ⟨@Go.Sx.ids.eq_4, @Go.Sx.ids.eq_5⟩⟩⟩, ⟨⟨@Go.Sx.ids.eq_6, ⟨@Go.Sx.ids.idsL.eq_1, @Go.Sx.ids.idsL.eq_2⟩⟩, ⟨@Go.Sx.updIds.eq_1, ⟨@Go.Sx.updIds.eq_2, @Go.Sx.updIds.eq_3⟩⟩⟩⟩, ⟨⟨⟨@Go.Sx.reach.eq_1, ⟨@Go.Sx.reach.eq_2, @Go.Sx.reach.eq_3⟩⟩, ⟨@Go.Sx.ren.eq_1, ⟨@Go.Sx.ren.eq_2, @Go.Sx.ren.eq_3⟩⟩⟩, ⟨⟨@Go.Sx.ren.eq_4, ⟨@Go.Sx.ren.eq_5, @Go.Sx.ren.eq_6⟩⟩, ⟨⟨@Go.Sx.ren.eq_7, @Go.Sx.ren.go.eq_1⟩, ⟨@Go.Sx.ren.go.eq_2, @Go.Sx.renU.eq_1⟩⟩⟩⟩⟩⟩⟩, ⟨⟨⟨⟨⟨⟨@Go.Sx.renU.eq_2, ⟨@Go.Sx.renN.eq_1, @Go.Sx.renN.eq_2⟩⟩, ⟨@Go.Sx.renO.eq_1, ⟨@Go.Sx.renO.eq_2, @Go.Sx.renO.eq_3⟩⟩⟩, ⟨⟨@Go.Sx.renId.eq_1, ⟨@Go.Sx.fillP.eq_1, @Go.Sx.fillP.eq_2⟩⟩, ⟨@Go.Sx.mkAgg.eq_1, ⟨@Go.Sx.allP.eq_1, @Go.Sx.allP.eq_2⟩⟩⟩⟩, ⟨⟨⟨@Go.Sx.allP.eq_3, ⟨@Go.Sx.LV.cells.eq_1, @Go.Sx.LV.cells.eq_2⟩⟩, ⟨@Go.Sx.LV.cells.eq_3, ⟨@Go.Sx.LV.cells.eq_4, @Go.Sx.LV.cells.eq_5⟩⟩⟩, ⟨⟨@Go.Sx.LV.cells.eq_6, ⟨@Go.Sx.rd.eq_1, @Go.Sx.findU.eq_1⟩⟩, ⟨@Go.Sx.findU.eq_2, ⟨@Go.Sx.slCells.eq_1, @Go.Sx.slCells.eq_2⟩⟩⟩⟩⟩, ⟨⟨⟨⟨@Go.Sx.slCells.eq_3, ⟨@Go.Sx.slCells.eq_4, @Go.Sx.slCells.eq_5⟩⟩, ⟨@Go.Sx.sliceO.eq_1, ⟨@Go.Sx.sliceO.eq_2, @Go.Sx.sliceO.eq_3⟩⟩⟩, ⟨⟨@Go.Sx.sliceO.eq_4, ⟨@Go.Value.oneCell'.eq_1, @Go.Value.oneCell'.eq_2⟩⟩, ⟨@Go.Value.oneCell'.eq_3, ⟨@Go.Sx.mmL.eq_1, @Go.Sx.mmL.eq_2⟩⟩⟩⟩, ⟨⟨⟨@Go.Sx.mm2.eq_1, ⟨@Go.Sx.mm2.eq_2, @Go.Sx.gslot.eq_1⟩⟩, ⟨@Go.Sx.gslot.eq_2, ⟨@Go.Sx.IROp.slots.eq_1, @Go.Sx.IROp.slots.eq_2⟩⟩⟩, ⟨⟨@Go.Sx.IROp.slots.eq_3, ⟨@Go.Sx.IROp.slots.eq_4, @Go.Sx.IROp.slots.eq_5⟩⟩, ⟨⟨@Go.Sx.IROp.slots.eq_6, @Go.Sx.IROp.slots.eq_7⟩, ⟨@Go.Sx.IROp.slots.eq_8, @Go.Sx.IROp.slots.eq_9⟩⟩⟩⟩⟩⟩, ⟨⟨⟨⟨⟨@Go.Sx.IROp.slots.eq_10, ⟨@Go.Sx.IROp.slots.eq_11, @Go.Sx.IROp.slots.eq_12⟩⟩, ⟨@Go.Sx.IROp.slots.eq_13, ⟨@Go.Sx.IROp.slots.eq_14, @Go.Sx.IROp.slots.eq_15⟩⟩⟩, ⟨⟨@Go.Sx.IROp.slots.eq_16, ⟨@Go.Sx.IROp.slots.eq_17, @Go.Sx.IROp.slots.eq_18⟩⟩, ⟨@Go.Sx.IROp.slots.eq_19, ⟨@Go.Sx.IROp.slots.eq_20, @Go.Sx.IROp.slots.eq_21⟩⟩⟩⟩, ⟨⟨⟨@Go.Sx.IROp.slots.eq_22, ⟨@Go.Sx.IROp.slots.eq_23, @Go.Sx.IROp.slots.eq_24⟩⟩, ⟨@Go.Sx.IROp.slots.eq_25, ⟨@Go.Sx.IROp.slots.eq_26, @Go.Sx.IROp.slots.eq_27⟩⟩⟩, ⟨⟨@Go.Sx.IROp.slots.eq_28, ⟨@Go.Sx.IROp.slots.eq_29, @Go.Sx.IROp.slots.eq_30⟩⟩, ⟨@Go.Sx.IROp.slots.eq_31, ⟨@Go.Sx.IROp.slots.eq_32, @Go.Sx.IROp.slots.eq_33⟩⟩⟩⟩⟩, ⟨⟨⟨⟨@Go.Sx.IROp.slots.eq_34, ⟨@Go.Sx.IROp.slots.eq_35, @Go.Sx.IROp.slots.eq_36⟩⟩, ⟨@Go.Sx.IROp.slots.eq_37, ⟨@Go.Sx.IROp.slots.eq_38, @Go.Sx.Opd.slots.eq_1⟩⟩⟩, ⟨⟨@Go.Sx.Opd.slots.eq_2, ⟨@Go.Sx.indepD.eq_1, @Go.Sx.quickD.eq_1⟩⟩, ⟨@Go.Sx.quickD.eq_2, ⟨@Go.Sx.indepR.eq_1, @Go.Sx.indepR.eq_2⟩⟩⟩⟩, ⟨⟨⟨@Go.Sx.indepR.eq_3, ⟨@Go.Sx.pairsD.eq_1, @Go.Sx.pairsD.eq_2⟩⟩, ⟨@Go.Sx.apartD.eq_1, ⟨@Nat.testBit.eq_1, @Go.Sx.Obj.ids.eq_1⟩⟩⟩, ⟨⟨@Go.Sx.Obj.ids.eq_2, ⟨@Go.Sx.natL.eq_1, @Go.Sx.natL.eq_2⟩⟩, ⟨⟨@Go.Sx.optMap.eq_1, @Go.Sx.optMap.eq_2⟩, ⟨@Go.undef.eq_1, @ltF⟩⟩⟩⟩⟩⟩⟩⟩

noncomputable abbrev Ω : Oracle := om (findF irs) noG noX

end Go.Proofs.YtjmnamichdegaaaGreatDoor
end

section
namespace Go.Proofs.YtjmnamichdegaaaGreatDoor
open Go Go.Sx
set_option linter.unusedSimpArgs false
set_option linter.unusedVariables false

theorem iter_step {f : St → Option (Ex × St)} {n : Nat} {st st' : St} (h : f st = some (.normal, st')) : iter f (n + 1) st = iter f n st' := by simp only [iter, h]
theorem iter_out {f : St → Option (Ex × St)} {n : Nat} {st st' : St} {e : Ex} (h : f st = some (e, st')) (he : e ≠ .normal) : iter f (n + 1) st = some (e, st') := by
  simp only [iter, h]
  cases e <;> first | rfl | exact absurd rfl he

def byt (l : List UInt8) : List LV := l.map fun x => .int .u8 x.toNat
def bytP (l : List UInt8) : List PV := l.map fun x => .s (.int .u8 x.toNat)
theorem byt_nil : byt [] = [] := rfl
theorem byt_cons (x : UInt8) (l : List UInt8) : byt (x :: l) = .int .u8 x.toNat :: byt l := rfl
theorem byt_app (l m : List UInt8) : byt (l ++ m) = byt l ++ byt m := by simp [byt]
theorem byt_len (l : List UInt8) : (byt l).length = l.length := by simp [byt]
theorem bytP_map (l : List UInt8) : (bytP l).map LV.p = byt l := by simp [byt, bytP]
theorem bytP_len (l : List UInt8) : (bytP l).length = l.length := by simp [bytP]

theorem rep_succ {α : Type} (f : α → α) : ∀ (n : Nat) (a : α), Nat.repeat f (n + 1) a = Nat.repeat f n (f a)
  | 0, _ => rfl
  | n + 1, a => congrArg f (rep_succ f n a)

theorem ids_byt (l : List UInt8) : ids.idsL (byt l) = [] := by
  induction l with
  | nil => rfl
  | cons x l ih => rw [byt_cons, ids.idsL, ih]; rfl
theorem ids_app (l m : List LV) : ids.idsL (l ++ m) = ids.idsL l ++ ids.idsL m := by
  induction l with
  | nil => rfl
  | cons x l ih => rw [List.cons_append, ids.idsL, ids.idsL, ih, List.append_assoc]
theorem ren_byt (nx : Nat) (s : List Nat) (l : List UInt8) : ren.go nx s (byt l) = some (byt l) := by
  induction l with
  | nil => rfl
  | cons x l ih => rw [byt_cons, ren.go, ih]; rfl
theorem allP_byt (l : List UInt8) : allP (byt l) = some (bytP l) := by
  induction l with
  | nil => rfl
  | cons x l ih => rw [byt_cons, allP, ih]; rfl

theorem ren_app (nx : Nat) (s : List Nat) (l : List UInt8) (m : List LV) : ren.go nx s (byt l ++ m) = match ren.go nx s m with
    | some q => some (byt l ++ q)
    | none => none := by
  induction l with
  | nil => rw [byt_nil, List.nil_append]; cases ren.go nx s m <;> rfl
  | cons x l ih => rw [byt_cons, List.cons_append, ren.go, ih]; cases ren.go nx s m <;> rfl
theorem allP_app (l : List UInt8) (m : List LV) : allP (byt l ++ m) = match allP m with
    | some q => some (bytP l ++ q)
    | none => none := by
  induction l with
  | nil => rw [byt_nil, List.nil_append]; cases allP m <;> rfl
  | cons x l ih => rw [byt_cons, List.cons_append, allP, ih]; cases allP m <;> rfl
theorem take_byt (l : List UInt8) : List.take l.length (byt l) = byt l := by
  rw [← byt_len, List.take_length]

def aft (nx : Nat) (h : Hp) (u : Upd) (n : List (Option Go.Sx.Obj)) : Hp := { setAll nx h u with new := (setAll nx h u).new ++ n }
theorem aft_nil (nx : Nat) (h : Hp) (u : Upd) : aft nx h u [] = setAll nx h u := by simp [aft]
theorem setAll_nil (nx : Nat) (h : Hp) : setAll nx h [] = h := rfl
theorem aft_one (nx : Nat) (h : Hp) (u : Upd) (o : Go.Sx.Obj) : aft nx h u [some o] = push (setAll nx h u) o := rfl
theorem callO_A (c : Ctx) (dr : Bool) (h : Hp) (f : FuncId) (args : List LV) : callO c dr h f args =
  if dr then
    match reach (Go.Sx.look c.H c.nx h) 1000 (ids.idsL args) [] with
    | some S =>
      if (ids.idsL args ++ S.flatMap (fun id => match Go.Sx.look c.H c.nx h id with
        | some o => o.ids
        | none => [])).all (fun id => decide (id < c.nx + h.new.length)) then
      match c.O f args (fun id => if S.contains id then Go.Sx.look c.H c.nx h id else none) (c.nx + h.new.length) with
      | some (r, u, n) => some ⟨r, aft c.nx h u n, S, true⟩
      | none => none
      else none
    | none => none
  else
    match c.O f args (Go.Sx.look c.H c.nx h) (c.nx + h.new.length) with
    | some (r, u, n) => some ⟨r, aft c.nx h u n, [], true⟩
    | none => none := rfl
theorem hp_push (x : Hp) (o : Go.Sx.Obj) : ({ upd := x.upd, new := x.new ++ [some o] } : Hp) = push x o := rfl
theorem hp_eta (x : Hp) : ({ upd := x.upd, new := x.new } : Hp) = x := rfl
theorem push_len (x : Hp) (o : Go.Sx.Obj) : (push x o).new.length = x.new.length + 1 := by simp [push]
theorem push_upd (x : Hp) (o : Go.Sx.Obj) : (push x o).upd = x.upd := rfl
theorem setObj_upd (nx : Nat) (x : Hp) (id : Nat) (o : Option Go.Sx.Obj) (h : ¬ id < nx) : (Go.Sx.setObj nx x id o).upd = x.upd := by simp [Go.Sx.setObj, h]

theorem look_set' {H : Heap} {nx : Nat} {h : Hp} {id : Nat} {o : Option Go.Sx.Obj} (hid : id < nx + h.new.length) (j : Nat) : Go.Sx.look H nx (Go.Sx.setObj nx h id o) j = if j = id then o else Go.Sx.look H nx h j := look_set (by omega) j

end Go.Proofs.YtjmnamichdegaaaGreatDoor
end

section
namespace Go.Proofs.YtjmnamichdegaaaGreatDoor
open Go Go.Sx
set_option linter.unusedSimpArgs false
set_option linter.unusedVariables false

mutual
theorem ren_id (nx : Nat) (s : List Nat) : ∀ x : LV, (∀ i ∈ ids x, renId nx s i = some i) → ren nx s x = some x
  | .junk, _ => rfl
  | .p x, _ => rfl
  | .ref id off, h => by simp [ren, h id (by simp [ids])]
  | .arr id off len sz cp ex, h => by simp [ren, h id (by simp [ids])]
  | .agg cs, h => by rw [ren, ren_go_id nx s cs (by simpa [ids] using h)]
  | .tuple cs, h => by rw [ren, ren_go_id nx s cs (by simpa [ids] using h)]
  | .fn f a b, h => by
    rw [ren, ren_go_id nx s a (fun i hi => h i (by simp [ids, hi])), ren_go_id nx s b (fun i hi => h i (by simp [ids, hi]))]
theorem ren_go_id (nx : Nat) (s : List Nat) : ∀ cs : List LV, (∀ i ∈ ids.idsL cs, renId nx s i = some i) → ren.go nx s cs = some cs
  | [], _ => rfl
  | x :: r, h => by
    rw [ren.go, ren_id nx s x (fun i hi => h i (by simp [ids.idsL, hi])), ren_go_id nx s r (fun i hi => h i (by simp [ids.idsL, hi]))]
end
theorem renO_id (nx : Nat) (s : List Nat) (o : Option Go.Sx.Obj) (h : ∀ p, o = some p → ∀ i ∈ p.ids, renId nx s i = some i) : renO nx s o = some o := by
  match o with
  | none => rfl
  | some (.cells cs) => rw [renO, ren_go_id nx s cs (h _ rfl)]
  | some (.iter _ _) => rfl
theorem renU_id (nx : Nat) (s : List Nat) : ∀ u : Upd, (∀ i ∈ updIds u, renId nx s i = some i) → renU nx s u = some u
  | [], _ => rfl
  | (id, none) :: r, h => by rw [renU, renU_id nx s r (by simpa [updIds] using h)]; rfl
  | (id, some o) :: r, h => by
    rw [renU, renU_id nx s r (fun i hi => h i (by simp [updIds, hi])), renO_id nx s (some o) (fun p e i hi => h i (by cases e; simp [updIds, hi]))]
theorem renId_low {nx i : Nat} (s : List Nat) (h : i < nx) : renId nx s i = some i := by simp [renId, h]
theorem renId_nx (nx : Nat) : renId nx [nx] nx = some nx := by simp [renId, List.idxOf?_cons]
theorem ren_low (nx : Nat) (s : List Nat) (x : LV) (h : ∀ i ∈ ids x, i < nx) : ren nx s x = some x := ren_id nx s x fun i hi => renId_low s (h i hi)
theorem ren_go_low (nx : Nat) (s : List Nat) (cs : List LV) (h : ∀ i ∈ ids.idsL cs, i < nx) : ren.go nx s cs = some cs := ren_go_id nx s cs fun i hi => renId_low s (h i hi)
theorem renO_low (nx : Nat) (s : List Nat) (o : Option Go.Sx.Obj) (h : ∀ p, o = some p → ∀ i ∈ p.ids, i < nx) : renO nx s o = some o := renO_id nx s o fun p e i hi => renId_low s (h p e i hi)
theorem renU_low (nx : Nat) (s : List Nat) (u : Upd) (h : ∀ i ∈ updIds u, i < nx) : renU nx s u = some u := renU_id nx s u fun i hi => renId_low s (h i hi)

/- What can be reached. -/
theorem reach_none (lk : Nat → Option Go.Sx.Obj) : ∀ (L : List Nat) (n : Nat) (todo seen : List Nat), (∀ i ∈ L, lk i = none) → reach lk (n + L.length) (L ++ todo) seen = reach lk n todo seen
  | [], n, todo, seen, _ => rfl
  | i :: L, n, todo, seen, h => by
    have ih := reach_none lk L n todo seen fun i hi => h i (List.mem_cons_of_mem _ hi)
    rw [List.length_cons, ← Nat.add_assoc, List.cons_append]
    simp only [reach, h i List.mem_cons_self, ih]
    split <;> rfl
theorem reach_low {lk : Nat → Option Go.Sx.Obj} {L : List Nat} {n : Nat} (hL : L.length < n) (h : ∀ i ∈ L, lk i = none) : reach lk n L [] = some [] := by
  obtain ⟨m, rfl⟩ : ∃ m, n = m + L.length := ⟨n - L.length, by omega⟩
  have := reach_none lk L m [] [] h
  rw [List.append_nil] at this
  rw [this]
  cases m <;> rfl
theorem reach_one' {lk : Nat → Option Go.Sx.Obj} {j : Nat} {o : Go.Sx.Obj} (hj : lk j = some o) : ∀ (L : List Nat) (n : Nat), L.length < n → (∀ i ∈ L, i = j ∨ lk i = none) → reach lk n L [j] = some [j]
  | [], n, hn, _ => by cases n <;> rfl
  | i :: L, n, hn, h => by
    obtain ⟨n, rfl⟩ : ∃ m, n = m + 1 := ⟨n - 1, by simp at hn; omega⟩
    have ih := reach_one' hj L n (by simpa using hn) fun i hi => h i (List.mem_cons_of_mem _ hi)
    rcases h i List.mem_cons_self with rfl | e
    · simp [reach, ih]
    · simp [reach, ih, e]
theorem reach_one {lk : Nat → Option Go.Sx.Obj} {j : Nat} {o : Go.Sx.Obj} (hj : lk j = some o) (ho : ∀ i ∈ o.ids, i = j ∨ lk i = none) : ∀ (L : List Nat) (n : Nat), L.length + o.ids.length < n → j ∈ L → (∀ i ∈ L, i = j ∨ lk i = none) → reach lk n L [] = some [j]
  | [], n, hn, hm, _ => by simp at hm
  | i :: L, n, hn, hm, h => by
    obtain ⟨n, rfl⟩ : ∃ m, n = m + 1 := ⟨n - 1, by simp at hn; omega⟩
    rw [List.length_cons] at hn
    by_cases e : i = j
    · subst e
      have : reach lk n (o.ids ++ L) [i] = some [i] := reach_one' hj _ n (by rw [List.length_append]; omega) fun k hk => by
        rcases List.mem_append.1 hk with hk | hk
        · exact ho k hk
        · exact h k (List.mem_cons_of_mem _ hk)
      simp [reach, hj, this]
    · have hi := (h i List.mem_cons_self).resolve_left e
      have ih := reach_one hj ho L n (by omega) (by
        rcases List.mem_cons.1 hm with e' | e'
        · exact absurd e'.symm e
        · exact e') fun k hk => h k (List.mem_cons_of_mem _ hk)
      simp [reach, hi, ih]

/-- A call that leaves nothing new behind. -/
theorem finish_low {own : Bool} {H : Heap} {nx : Nat} {r : LV} {h : Hp} (hr : own = true ∨ frz nx h r = some r) (hi : ids r = [] ∨ (own = true ∧ ∀ i ∈ ids r, i < nx)) (hu : ∀ i ∈ updIds h.upd, i < nx) (hlen : (ids r).length + (updIds h.upd).length < 1000) :
    finish own H nx r h = some (r, h.upd, []) := by
  have h1 : (if own then some r else frz nx h r) = some r := by
    rcases hr with h | h
    · simp [h]
    · simp [h]
  have hid : ∀ i ∈ ids r, i < nx := fun i h => by
    rcases hi with e | e
    · rw [e] at h; simp at h
    · exact e.2 i h
  have h2 : reach (fun id => if id < nx then none else Go.Sx.look H nx h id) 1000 (ids r ++ updIds h.upd) [] = some [] := reach_low (by rw [List.length_append]; exact hlen) fun i hi => by
    have : i < nx := by
      rcases List.mem_append.1 hi with h | h
      · exact hid i h
      · exact hu i h
    simp [this]
  simp only [finish, h1, h2, renN, ren_low nx [] r hid, renU_low nx [] h.upd hu]
  simp
/-- A call that leaves one new object behind. -/
theorem finish_one {own : Bool} {H : Heap} {nx : Nat} {r r' : LV} {h : Hp} {u' : Upd} {j : Nat} {o : Go.Sx.Obj} (hr : own = true ∨ (frz nx h r = some r ∧ ids r = [])) (hl : Go.Sx.look H nx h j = some o) (hge : nx ≤ j) (ho : ∀ i ∈ o.ids, i < nx)
    (hi : ∀ i ∈ ids r ++ updIds h.upd, i = j ∨ i < nx) (hm : j ∈ ids r ++ updIds h.upd) (hlen : (ids r).length + (updIds h.upd).length + o.ids.length < 1000) (h1 : ren nx [j] r = some r') (h2 : renU nx [j] h.upd = some u') :
    finish own H nx r h = some (r', u', [some o]) := by
  have e1 : (if own then some r else frz nx h r) = some r := by
    rcases hr with h | h
    · simp [h]
    · simp [h.1]
  have e2 : reach (fun id => if id < nx then none else Go.Sx.look H nx h id) 1000 (ids r ++ updIds h.upd) [] = some [j] := reach_one (o := o) (by simp [hl]; omega) (fun i hi => .inr (by simp [ho i hi])) _ _ (by rw [List.length_append]; exact hlen) hm fun i hi' => by
    rcases hi i hi' with e | e
    · exact .inl e
    · exact .inr (by simp [e])
  have e3 : (own || (ids r).all fun id => !([j] : List Nat).contains id) = true := by
    rcases hr with h | h
    · simp [h]
    · simp [h.2]
  simp only [finish, e1, e2, e3, renN, h1, h2, hl, renO_low nx [j] (some o) (fun p e i hi => ho i (by cases e; exact hi))]
  simp

theorem reach_seen {lk : Nat → Option Go.Sx.Obj} {seen : List Nat} : ∀ (L : List Nat) (n : Nat), L.length < n → (∀ i ∈ L, i ∈ seen ∨ lk i = none) → reach lk n L seen = some seen
  | [], n, hn, _ => by cases n <;> rfl
  | i :: L, n, hn, h => by
    obtain ⟨n, rfl⟩ : ∃ m, n = m + 1 := ⟨n - 1, by simp at hn; omega⟩
    have ih := reach_seen L n (by simpa using hn) fun i hi => h i (List.mem_cons_of_mem _ hi)
    by_cases hs : i ∈ seen
    · simp [reach, ih, hs]
    · have e := (h i List.mem_cons_self).resolve_left hs
      simp [reach, ih, e, hs]
theorem reach_new {lk : Nat → Option Go.Sx.Obj} {seen : List Nat} {j : Nat} {o : Go.Sx.Obj} (hj : lk j = some o) (hjs : j ∉ seen) (ho : ∀ i ∈ o.ids, i = j ∨ i ∈ seen ∨ lk i = none) : ∀ (L : List Nat) (n : Nat), L.length + o.ids.length < n → j ∈ L → (∀ i ∈ L, i = j ∨ i ∈ seen ∨ lk i = none) → reach lk n L seen = some (seen ++ [j])
  | [], n, hn, hm, _ => by simp at hm
  | i :: L, n, hn, hm, h => by
    obtain ⟨n, rfl⟩ : ∃ m, n = m + 1 := ⟨n - 1, by simp at hn; omega⟩
    rw [List.length_cons] at hn
    by_cases e : i = j
    · subst e
      have : reach lk n (o.ids ++ L) (seen ++ [i]) = some (seen ++ [i]) := reach_seen _ n (by rw [List.length_append]; omega) fun k hk => by
        have q : k = i ∨ k ∈ seen ∨ lk k = none := by
          rcases List.mem_append.1 hk with hk | hk
          · exact ho k hk
          · exact h k (List.mem_cons_of_mem _ hk)
        rcases q with rfl | q | q
        · exact .inl (by simp)
        · exact .inl (List.mem_append_left _ q)
        · exact .inr q
      simp [reach, hj, this, hjs]
    · have hm' : j ∈ L := by
        rcases List.mem_cons.1 hm with e' | e'
        · exact absurd e'.symm e
        · exact e'
      have ih := reach_new hj hjs ho L n (by omega) hm' fun k hk => h k (List.mem_cons_of_mem _ hk)
      by_cases hs : i ∈ seen
      · simp [reach, ih, hs]
      · have hi := ((h i List.mem_cons_self).resolve_left e).resolve_left hs
        simp [reach, hi, ih, hs]
/-- A call that leaves two new objects behind, the second one in the first one. -/
theorem finish_two {own : Bool} {H : Heap} {nx : Nat} {r r' : LV} {h : Hp} {u' : Upd} {j1 j2 : Nat} {o1 o2 o1' : Go.Sx.Obj} (hr : own = true ∨ (frz nx h r = some r ∧ ids r = [])) (h1 : ids r ++ updIds h.upd = [j1])
    (l1 : Go.Sx.look H nx h j1 = some o1) (g1 : nx ≤ j1) (l2 : Go.Sx.look H nx h j2 = some o2) (g2 : nx ≤ j2) (hne : j1 ≠ j2) (i1 : ∀ i ∈ o1.ids, i = j2 ∨ i < nx) (m2 : j2 ∈ o1.ids) (i2 : ∀ i ∈ o2.ids, i < nx) (hlen : o1.ids.length + o2.ids.length < 900)
    (e1 : ren nx [j1, j2] r = some r') (e2 : renU nx [j1, j2] h.upd = some u') (e3 : renO nx [j1, j2] (some o1) = some (some o1')) :
    finish own H nx r h = some (r', u', [some o1', some o2]) := by
  have q1 : (if own then some r else frz nx h r) = some r := by
    rcases hr with h | h
    · simp [h]
    · simp [h.1]
  have a1 : ¬ j1 < nx := by omega
  have a2 : ¬ j2 < nx := by omega
  have q2 : reach (fun id => if id < nx then none else Go.Sx.look H nx h id) 1000 (ids r ++ updIds h.upd) [] = some [j1, j2] := by
    rw [h1]
    have := reach_new (lk := fun id => if id < nx then none else Go.Sx.look H nx h id) (seen := [j1]) (j := j2) (o := o2) (by simp [l2, a2]) (by simp; omega) (fun i hi => .inr (.inr (by simp [i2 i hi]))) (o1.ids ++ []) 999 (by rw [List.append_nil]; omega) (by simpa using m2) (fun i hi => by
      rcases i1 i (by simpa using hi) with e | e
      · exact .inl e
      · exact .inr (.inr (by simp [e])))
    simp only [reach, List.contains_nil, if_false, a1, l1, Bool.false_eq_true]
    exact this
  have q3 : (own || (ids r).all fun id => !([j1, j2] : List Nat).contains id) = true := by
    rcases hr with h | h
    · simp [h]
    · simp [h.2]
  simp only [finish, q1, q2, q3, renN, e1, e2, e3, l1, l2, renO_low nx [j1, j2] (some o2) (fun p e i hi => i2 i (by cases e; exact hi))]
  simp

/- What a call leaves, to the caller. -/
theorem setAll_len (nx : Nat) : ∀ (u : Upd) (h : Hp), (setAll nx h u).new.length = h.new.length
  | [], _ => rfl
  | (id, o) :: r, h => by rw [setAll, setObj_len, setAll_len nx r h]
theorem look_setAll {H : Heap} {nx : Nat} : ∀ (u : Upd) (h : Hp), (∀ q ∈ u, q.1 < nx + h.new.length) → ∀ j, Go.Sx.look H nx (setAll nx h u) j = match findU u j with
    | some o => o
    | none => Go.Sx.look H nx h j
  | [], _, _, _ => rfl
  | (id, o) :: r, h, hu, j => by
    rw [setAll, look_set' (by rw [setAll_len]; exact hu _ List.mem_cons_self), look_setAll r h (fun q hq => hu q (List.mem_cons_of_mem _ hq)), findU]
    by_cases e : j = id <;> simp [e]
theorem look_aft {H : Heap} {nx : Nat} {h : Hp} {u : Upd} {nw : List (Option Go.Sx.Obj)} (hu : ∀ q ∈ u, q.1 < nx + h.new.length) (j : Nat) : Go.Sx.look H nx (aft nx h u nw) j = Go.Sx.look (Go.Sx.look H nx h) (nx + h.new.length) ⟨u, nw⟩ j := by
  have hs := look_setAll (H := H) u h hu j
  have hl := setAll_len nx u h
  rcases Nat.lt_or_ge j (nx + h.new.length) with hj | hj
  · have e1 : Go.Sx.look H nx (aft nx h u nw) j = Go.Sx.look H nx (setAll nx h u) j := by
      rcases Nat.lt_or_ge j nx with h1 | h1
      · simp [Go.Sx.look, aft, h1]
      · have h2 : ¬ j < nx := by omega
        simp only [Go.Sx.look, aft, h2, if_false]
        rw [List.getElem?_append_left (by rw [hl]; omega)]
    rw [e1, hs]
    simp only [Go.Sx.look, hj, if_true]
    cases findU u j <;> rfl
  · have h2 : ¬ j < nx := by omega
    have h3 : ¬ j < nx + h.new.length := by omega
    conv => lhs; unfold Go.Sx.look
    conv => rhs; unfold Go.Sx.look
    simp only [aft, h2, h3, if_false]
    rw [List.getElem?_append_right (by rw [hl]; omega), hl, show j - nx - h.new.length = j - (nx + h.new.length) by omega]
theorem aft_len {nx : Nat} {h : Hp} {u : Upd} {nw : List (Option Go.Sx.Obj)} : (aft nx h u nw).new.length = h.new.length + nw.length := by
  rw [aft, List.length_append, setAll_len]
theorem findU_none : ∀ (u : Upd) (j : Nat), (∀ q ∈ u, q.1 ≠ j) → findU u j = none
  | [], _, _ => rfl
  | (id, o) :: r, j, h => by
    rw [findU, if_neg (fun e => h _ List.mem_cons_self e.symm), findU_none r j fun q hq => h q (List.mem_cons_of_mem _ hq)]
theorem look_keep {H : Heap} {nx : Nat} {u : Upd} {nw : List (Option Go.Sx.Obj)} {j : Nat} (hj : j < nx) (hu : ∀ q ∈ u, q.1 ≠ j) : Go.Sx.look H nx ⟨u, nw⟩ j = H j := by
  simp [Go.Sx.look, hj, findU_none u j hu]

end Go.Proofs.YtjmnamichdegaaaGreatDoor
end

section
namespace Go.Proofs.YtjmnamichdegaaaGreatDoor
open Go Go.Sx
set_option linter.unusedSimpArgs false
set_option linter.unusedVariables false

/-- How many references an object has. -/
def idn (lk : Nat → Option Go.Sx.Obj) (i : Nat) : Nat := match lk i with
  | some o => o.ids.length
  | none => 0
def cost (lk : Nat → Option Go.Sx.Obj) : List Nat → List Nat → Nat
  | [], _ => 0
  | d :: D, seen => (if seen.contains d then 0 else idn lk d) + cost lk D seen
theorem cost_le (lk : Nat → Option Go.Sx.Obj) (id : Nat) : ∀ (D seen : List Nat), cost lk D (seen ++ [id]) ≤ cost lk D seen
  | [], _ => Nat.le_refl _
  | d :: D, seen => by
    have ih := cost_le lk id D seen
    simp only [cost]
    by_cases h : seen.contains d = true
    · have : (seen ++ [id]).contains d = true := by simp at h ⊢; exact .inl h
      rw [if_pos h, if_pos this]; omega
    · rw [if_neg h]; split <;> omega
theorem cost_lt (lk : Nat → Option Go.Sx.Obj) (id : Nat) : ∀ (D seen : List Nat), id ∈ D → id ∉ seen → cost lk D (seen ++ [id]) + idn lk id ≤ cost lk D seen
  | [], _, h, _ => by simp at h
  | d :: D, seen, h, hs => by
    simp only [cost]
    by_cases e : d = id
    · subst e
      have h1 : ¬ seen.contains d = true := by simpa using hs
      have h2 : (seen ++ [d]).contains d = true := by simp
      rw [if_neg h1, if_pos h2]
      have := cost_le lk d D seen
      omega
    · have hm : id ∈ D := by
        rcases List.mem_cons.1 h with e' | e'
        · exact absurd e'.symm e
        · exact e'
      have ih := cost_lt lk id D seen hm hs
      by_cases h1 : seen.contains d = true
      · have : (seen ++ [id]).contains d = true := by simp at h1 ⊢; exact .inl h1
        rw [if_pos h1, if_pos this]; omega
      · have : ¬ (seen ++ [id]).contains d = true := by simp at h1 ⊢; exact ⟨h1, e⟩
        rw [if_neg h1, if_neg this]; omega

structure Reached (lk : Nat → Option Go.Sx.Obj) (D todo seen S : List Nat) : Prop where
  sn : ∀ i ∈ seen, i ∈ S
  td : ∀ i ∈ todo, lk i ≠ none → i ∈ S
  from' : ∀ i ∈ S, i ∈ seen ∨ (i ∈ D ∧ lk i ≠ none)
  shut : ∀ i ∈ S, i ∈ seen ∨ ∀ o, lk i = some o → ∀ k ∈ o.ids, lk k ≠ none → k ∈ S
  nodup : seen.Nodup → S.Nodup

theorem reach_tot (lk : Nat → Option Go.Sx.Obj) (D : List Nat) (hD : ∀ i ∈ D, ∀ o, lk i = some o → ∀ k ∈ o.ids, lk k ≠ none → k ∈ D) : ∀ (n : Nat) (todo seen : List Nat), (∀ i ∈ todo, lk i ≠ none → i ∈ D) → todo.length + cost lk D seen ≤ n →
    ∃ S, reach lk n todo seen = some S ∧ Reached lk D todo seen S := by
  intro n
  induction n with
  | zero =>
    intro todo seen ht hn
    obtain rfl : todo = [] := List.eq_nil_of_length_eq_zero (by omega)
    exact ⟨seen, rfl, ⟨fun i h => h, fun i h => by simp at h, fun i h => .inl h, fun i h => .inl h, id⟩⟩
  | succ n ih =>
    intro todo seen ht hn
    match todo, ht, hn with
    | [], ht, hn => exact ⟨seen, rfl, ⟨fun i h => h, fun i h => by simp at h, fun i h => .inl h, fun i h => .inl h, id⟩⟩
    | id :: todo, ht, hn =>
      rw [List.length_cons] at hn
      simp only [reach]
      by_cases hs : seen.contains id = true
      · rw [if_pos hs]
        have hs' : id ∈ seen := by simpa using hs
        obtain ⟨S, h1, g⟩ := ih todo seen (fun i hi => ht i (List.mem_cons_of_mem _ hi)) (by omega)
        refine ⟨S, h1, ⟨g.sn, fun i hi hl => ?_, g.from', g.shut, g.nodup⟩⟩
        rcases List.mem_cons.1 hi with rfl | hi
        · exact g.sn _ hs'
        · exact g.td i hi hl
      · rw [if_neg hs]
        have hs' : id ∉ seen := by simpa using hs
        cases hl : lk id with
        | none =>
          obtain ⟨S, h1, g⟩ := ih todo seen (fun i hi => ht i (List.mem_cons_of_mem _ hi)) (by omega)
          refine ⟨S, h1, ⟨g.sn, fun i hi hl' => ?_, g.from', g.shut, g.nodup⟩⟩
          rcases List.mem_cons.1 hi with rfl | hi
          · exact absurd hl hl'
          · exact g.td i hi hl'
        | some o =>
          have hid : id ∈ D := ht id List.mem_cons_self (by rw [hl]; simp)
          have hc := cost_lt lk id D seen hid hs'
          have hi : idn lk id = o.ids.length := by simp [idn, hl]
          obtain ⟨S, h1, g⟩ := ih (o.ids ++ todo) (seen ++ [id]) (fun i hi hl' => by
            rcases List.mem_append.1 hi with h | h
            · exact hD id hid o hl i h hl'
            · exact ht i (List.mem_cons_of_mem _ h) hl') (by rw [List.length_append]; omega)
          refine ⟨S, h1, ⟨fun i hi => g.sn i (List.mem_append_left _ hi), fun i hi hl' => ?_, fun i hi => ?_, fun i hi => ?_, fun hn => g.nodup ?_⟩⟩
          · rcases List.mem_cons.1 hi with rfl | hi
            · exact g.sn _ (by simp)
            · exact g.td i (List.mem_append_right _ hi) hl'
          · rcases g.from' i hi with h | h
            · rcases List.mem_append.1 h with h | h
              · exact .inl h
              · obtain rfl : i = id := by simpa using h
                exact .inr ⟨hid, by rw [hl]; simp⟩
            · exact .inr h
          · rcases g.shut i hi with h | h
            · rcases List.mem_append.1 h with h | h
              · exact .inl h
              · obtain rfl : i = id := by simpa using h
                refine .inr fun o' ho' k hk hl' => ?_
                rw [hl] at ho'
                obtain rfl := Option.some.inj ho'
                exact g.td k (List.mem_append_left _ hk) hl'
            · exact .inr h
          · rw [List.nodup_append]
            exact ⟨hn, by simp, fun a ha b hb e => by simp at hb; subst hb; exact hs' (e ▸ ha)⟩

/- New names. -/
def rho (nx : Nat) (seen : List Nat) (i : Nat) : Nat := if i < nx then i else nx + seen.idxOf i
theorem renId_rho {nx : Nat} {seen : List Nat} {i : Nat} (h : i < nx ∨ i ∈ seen) : renId nx seen i = some (rho nx seen i) := by
  by_cases hi : i < nx
  · simp [renId, rho, hi]
  · have hm := h.resolve_left hi
    simp only [renId, rho, if_neg hi]
    have : seen.idxOf? i = some (seen.idxOf i) := by
      rw [List.idxOf?_eq_some_iff]
      have hlt := List.idxOf_lt_length_iff.2 hm
      refine ⟨hlt, by simp, fun j hj e => ?_⟩
      have := List.not_of_lt_findIdx (p := (· == i)) (xs := seen) (i := j) (by simpa [List.idxOf] using hj)
      simp at this e
      exact this e
    rw [this]
theorem rho_lt {nx : Nat} {seen : List Nat} {i : Nat} (h : i < nx) : rho nx seen i = i := by simp [rho, h]
theorem rho_get {nx : Nat} {seen : List Nat} {i : Nat} (hn : nx ≤ i) (hm : i ∈ seen) : nx ≤ rho nx seen i ∧ rho nx seen i < nx + seen.length ∧ seen[rho nx seen i - nx]? = some i := by
  have hlt := List.idxOf_lt_length_iff.2 hm
  have e : rho nx seen i = nx + seen.idxOf i := by simp [rho, show ¬ i < nx by omega]
  refine ⟨by omega, by omega, ?_⟩
  rw [e, Nat.add_sub_cancel_left, List.getElem?_eq_getElem hlt, List.getElem_idxOf]
theorem rho_inj {nx : Nat} {seen : List Nat} {i j : Nat} (hi : i < nx ∨ i ∈ seen) (hj : j < nx ∨ j ∈ seen) (h : rho nx seen i = rho nx seen j) : i = j := by
  rcases Nat.lt_or_ge i nx with h1 | h1 <;> rcases Nat.lt_or_ge j nx with h2 | h2
  · rwa [rho_lt h1, rho_lt h2] at h
  · have := (rho_get h2 (hj.resolve_left (by omega))).1
    rw [rho_lt h1] at h; omega
  · have := (rho_get h1 (hi.resolve_left (by omega))).1
    rw [rho_lt h2] at h; omega
  · have a := (rho_get h1 (hi.resolve_left (by omega))).2.2
    have b := (rho_get h2 (hj.resolve_left (by omega))).2.2
    rw [h, b] at a
    exact (Option.some.inj a).symm

def rnm (ρ : Nat → Nat) : LV → LV
  | .junk => .junk
  | .p x => .p x
  | .ref id off => .ref (ρ id) off
  | .arr id off len sz cp ex => .arr (ρ id) off len sz cp ex
  | .agg cs => .agg (go cs)
  | .tuple cs => .tuple (go cs)
  | .fn f a b => .fn f (go a) (go b)
  where go : List LV → List LV
  | [] => []
  | x :: r => rnm ρ x :: go r
theorem rnm_go (ρ : Nat → Nat) : ∀ l, rnm.go ρ l = l.map (rnm ρ)
  | [] => rfl
  | x :: r => by rw [rnm.go, rnm_go ρ r]; rfl
def rnmO (ρ : Nat → Nat) : Go.Sx.Obj → Go.Sx.Obj
  | .cells cs => .cells (cs.map (rnm ρ))
  | .iter s q => .iter s q

mutual
theorem ren_tot {nx : Nat} {seen : List Nat} : ∀ x : LV, (∀ i ∈ ids x, i < nx ∨ i ∈ seen) → ren nx seen x = some (rnm (rho nx seen) x)
  | .junk, _ => rfl
  | .p x, _ => rfl
  | .ref id off, h => by simp [ren, rnm, renId_rho (h id (by simp [ids]))]
  | .arr id off len sz cp ex, h => by simp [ren, rnm, renId_rho (h id (by simp [ids]))]
  | .agg cs, h => by rw [ren, ren_go_tot cs (by simpa [ids] using h)]; rfl
  | .tuple cs, h => by rw [ren, ren_go_tot cs (by simpa [ids] using h)]; rfl
  | .fn f a b, h => by
    rw [ren, ren_go_tot a (fun i hi => h i (by simp [ids, hi])), ren_go_tot b (fun i hi => h i (by simp [ids, hi]))]
    rfl
theorem ren_go_tot {nx : Nat} {seen : List Nat} : ∀ cs : List LV, (∀ i ∈ ids.idsL cs, i < nx ∨ i ∈ seen) → ren.go nx seen cs = some (rnm.go (rho nx seen) cs)
  | [], _ => rfl
  | x :: r, h => by
    rw [ren.go, ren_tot x (fun i hi => h i (by simp [ids.idsL, hi])), ren_go_tot r (fun i hi => h i (by simp [ids.idsL, hi]))]
    rfl
end
theorem renO_tot {nx : Nat} {seen : List Nat} (o : Option Go.Sx.Obj) (h : ∀ p, o = some p → ∀ i ∈ p.ids, i < nx ∨ i ∈ seen) : renO nx seen o = some (o.map (rnmO (rho nx seen))) := by
  match o with
  | none => rfl
  | some (.cells cs) => rw [renO, ren_go_tot cs (h _ rfl), rnm_go]; rfl
  | some (.iter _ _) => rfl
def rnmU (ρ : Nat → Nat) (u : Upd) : Upd := u.map fun p => (p.1, p.2.map (rnmO ρ))
theorem renU_tot {nx : Nat} {seen : List Nat} : ∀ u : Upd, (∀ i ∈ updIds u, i < nx ∨ i ∈ seen) → renU nx seen u = some (rnmU (rho nx seen) u)
  | [], _ => rfl
  | (id, none) :: r, h => by rw [renU, renU_tot r (by simpa [updIds] using h)]; rfl
  | (id, some o) :: r, h => by
    rw [renU, renU_tot r (fun i hi => h i (by simp [updIds, hi])), renO_tot (some o) (fun p e i hi => h i (by cases e; simp [updIds, hi]))]
    rfl
theorem findU_rnm (ρ : Nat → Nat) : ∀ (u : Upd) (i : Nat), findU (rnmU ρ u) i = (findU u i).map (Option.map (rnmO ρ))
  | [], _ => rfl
  | (id, o) :: r, i => by
    show findU ((id, o.map (rnmO ρ)) :: rnmU ρ r) i = _
    simp only [findU, findU_rnm ρ r i]
    split <;> rfl
theorem renN_tot {H : Heap} {nx : Nat} {h : Hp} {seen : List Nat} : ∀ l : List Nat, (∀ i ∈ l, ∀ o, Go.Sx.look H nx h i = some o → ∀ k ∈ o.ids, k < nx ∨ k ∈ seen) → renN H nx h seen l = some (l.map fun i => (Go.Sx.look H nx h i).map (rnmO (rho nx seen)))
  | [], _ => rfl
  | i :: r, g => by
    rw [renN, renO_tot _ (fun p e => g i List.mem_cons_self p e), renN_tot r (fun i hi => g i (List.mem_cons_of_mem _ hi))]
    rfl
mutual
theorem rnm_id (ρ : Nat → Nat) : ∀ x : LV, (∀ i ∈ ids x, ρ i = i) → rnm ρ x = x
  | .junk, _ => rfl
  | .p x, _ => rfl
  | .ref id off, h => by simp [rnm, h id (by simp [ids])]
  | .arr id off len sz cp ex, h => by simp [rnm, h id (by simp [ids])]
  | .agg cs, h => by rw [rnm, rnm_go_id ρ cs (by simpa [ids] using h)]
  | .tuple cs, h => by rw [rnm, rnm_go_id ρ cs (by simpa [ids] using h)]
  | .fn f a b, h => by rw [rnm, rnm_go_id ρ a (fun i hi => h i (by simp [ids, hi])), rnm_go_id ρ b (fun i hi => h i (by simp [ids, hi]))]
theorem rnm_go_id (ρ : Nat → Nat) : ∀ cs : List LV, (∀ i ∈ ids.idsL cs, ρ i = i) → rnm.go ρ cs = cs
  | [], _ => rfl
  | x :: r, h => by rw [rnm.go, rnm_id ρ x (fun i hi => h i (by simp [ids.idsL, hi])), rnm_go_id ρ r (fun i hi => h i (by simp [ids.idsL, hi]))]
end
theorem rnmO_id (ρ : Nat → Nat) (o : Go.Sx.Obj) (h : ∀ i ∈ o.ids, ρ i = i) : rnmO ρ o = o := by
  cases o with
  | cells cs => rw [rnmO, ← rnm_go, rnm_go_id ρ cs h]
  | iter s q => rfl

/-- What a call leaves: the new names, and what they stand for. -/
structure Left (H : Heap) (nx : Nat) (h : Hp) (u : Upd) (n : List (Option Go.Sx.Obj)) (ρ : Nat → Nat) (D : List Nat) : Prop where
  low : ∀ i, i < nx → ρ i = i
  top : ∀ i, i < nx ∨ i ∈ D → ρ i < nx + n.length
  ge : ∀ i ∈ D, nx ≤ ρ i
  inj : ∀ i j, (i < nx ∨ i ∈ D) → (j < nx ∨ j ∈ D) → ρ i = ρ j → i = j
  new : ∀ i ∈ D, Go.Sx.look H nx ⟨u, n⟩ (ρ i) = (Go.Sx.look H nx h i).map (rnmO ρ)
  old : ∀ i, i < nx → findU h.upd i = none → Go.Sx.look H nx ⟨u, n⟩ i = H i
  set : ∀ i o, i < nx → findU h.upd i = some o → Go.Sx.look H nx ⟨u, n⟩ i = o.map (rnmO ρ)
  keys : ∀ q ∈ u, ∃ p ∈ h.upd, q.1 = p.1

theorem finish_tot {own : Bool} {H : Heap} {nx : Nat} {r : LV} {h : Hp} (D : List Nat) (hr : own = true ∨ (frz nx h r = some r ∧ ids r = []))
    (hroot : ∀ i ∈ ids r ++ updIds h.upd, i < nx ∨ i ∈ D) (hD : ∀ i ∈ D, nx ≤ i ∧ ∃ o, Go.Sx.look H nx h i = some o ∧ ∀ k ∈ o.ids, k < nx ∨ k ∈ D)
    (hcost : (ids r).length + (updIds h.upd).length + cost (Go.Sx.look H nx h) D [] ≤ 1000) :
    ∃ (ρ : Nat → Nat) (u : Upd) (n : List (Option Go.Sx.Obj)) (S : List Nat), finish own H nx r h = some (rnm ρ r, u, n) ∧ Left H nx h u n ρ S ∧ (∀ i ∈ S, i ∈ D) ∧ (∀ i ∈ ids r ++ updIds h.upd, i < nx ∨ i ∈ S) ∧ (∀ i ∈ S, ∀ o, Go.Sx.look H nx h i = some o → ∀ k ∈ o.ids, k < nx ∨ k ∈ S) := by
  obtain ⟨lk, hlk⟩ : ∃ lk : Nat → Option Go.Sx.Obj, lk = fun id => if id < nx then none else Go.Sx.look H nx h id := ⟨_, rfl⟩
  have lk1 : ∀ i, i < nx → lk i = none := fun i hi => by simp [hlk, hi]
  have lk2 : ∀ i, nx ≤ i → lk i = Go.Sx.look H nx h i := fun i hi => by simp [hlk, show ¬ i < nx by omega]
  have hge : ∀ i, lk i ≠ none → nx ≤ i := fun i hi => by
    rcases Nat.lt_or_ge i nx with h' | h'
    · exact absurd (lk1 i h') hi
    · exact h'
  have hDl : ∀ i ∈ D, lk i ≠ none := fun i hi => by
    obtain ⟨h1, o, h2, _⟩ := hD i hi
    rw [lk2 i h1, h2]; simp
  have hcost' : cost lk D [] = cost (Go.Sx.look H nx h) D [] := by
    have : ∀ (E : List Nat), (∀ i ∈ E, nx ≤ i) → cost lk E [] = cost (Go.Sx.look H nx h) E [] := by
      intro E
      induction E with
      | nil => intro _; rfl
      | cons d E ih =>
        intro hE
        simp only [cost, ih fun i hi => hE i (List.mem_cons_of_mem _ hi), idn, lk2 d (hE d List.mem_cons_self)]
    exact this D fun i hi => (hD i hi).1
  obtain ⟨S, hS, g⟩ := reach_tot lk D (fun i hi o ho k hk hl => by
    obtain ⟨h1, o', h2, h3⟩ := hD i hi
    rw [lk2 i h1, h2] at ho
    obtain rfl := Option.some.inj ho
    exact (h3 k hk).resolve_left (fun h' => hl (lk1 k h'))) 1000 (ids r ++ updIds h.upd) [] (fun i hi hl => (hroot i hi).resolve_left (fun h' => hl (lk1 i h'))) (by rw [List.length_append]; omega)
  have hSD : ∀ i ∈ S, i ∈ D := fun i hi => ((g.from' i hi).resolve_left (by simp)).1
  have hroot' : ∀ i ∈ ids r ++ updIds h.upd, i < nx ∨ i ∈ S := fun i hi => by
    rcases hroot i hi with h' | h'
    · exact .inl h'
    · exact .inr (g.td i hi (hDl i h'))
  have hshut : ∀ i ∈ S, ∀ o, Go.Sx.look H nx h i = some o → ∀ k ∈ o.ids, k < nx ∨ k ∈ S := fun i hi o ho k hk => by
    obtain ⟨h1, o', h2, h3⟩ := hD i (hSD i hi)
    rw [h2] at ho
    obtain rfl := Option.some.inj ho
    rcases h3 k hk with h' | h'
    · exact .inl h'
    · exact .inr (((g.shut i hi).resolve_left (by simp)) _ (by rw [lk2 i h1, h2]) k hk (hDl k h'))
  have e1 : (if own then some r else frz nx h r) = some r := by
    rcases hr with h | h
    · simp [h]
    · simp [h.1]
  have e3 : (own || (ids r).all fun id => !S.contains id) = true := by
    rcases hr with h | h
    · simp [h]
    · simp [h.2]
  refine ⟨rho nx S, rnmU (rho nx S) h.upd, S.map fun i => (Go.Sx.look H nx h i).map (rnmO (rho nx S)), S, ?_, ?_, hSD, hroot', hshut⟩
  · simp only [finish, e1, ← hlk, hS, e3, if_true]
    rw [ren_tot r (fun i hi => hroot' i (List.mem_append_left _ hi)), renU_tot h.upd (fun i hi => hroot' i (List.mem_append_right _ hi)), renN_tot S hshut]
  · have hgeS : ∀ i ∈ S, nx ≤ i := fun i hi => (hD i (hSD i hi)).1
    refine ⟨fun i hi => rho_lt hi, fun i hi => ?_, fun i hi => (rho_get (hgeS i hi) hi).1, fun i j hi hj e => rho_inj hi hj e, fun i hi => ?_, fun i hi hf => ?_, fun i o hi hf => ?_, fun q hq => ?_⟩
    · rw [List.length_map]
      rcases Nat.lt_or_ge i nx with h' | h'
      · rw [rho_lt h']; omega
      · exact (rho_get h' (hi.resolve_left (by omega))).2.1
    · have q := rho_get (hgeS i hi) hi
      have : ¬ rho nx S i < nx := by omega
      conv => lhs; unfold Go.Sx.look
      simp only [this, if_false, List.getElem?_map, q.2.2, Option.map_some]
      rfl
    · conv => lhs; unfold Go.Sx.look
      simp only [hi, if_true, findU_rnm, hf, Option.map_none]
    · conv => lhs; unfold Go.Sx.look
      simp only [hi, if_true, findU_rnm, hf, Option.map_some]
    · obtain ⟨p, hp, rfl⟩ := List.mem_map.1 hq
      exact ⟨p, hp, rfl⟩
end Go.Proofs.YtjmnamichdegaaaGreatDoor
end
