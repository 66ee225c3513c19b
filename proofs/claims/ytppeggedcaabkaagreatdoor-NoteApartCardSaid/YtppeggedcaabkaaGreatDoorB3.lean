/- What the proof of the claim leans on, part 3 of 6: the value machine, the functions as it has them, their specifications. No condition. -/
import Derived.Test.YtppeggedcaabkaaGreatDoorB2
import Derived.ProofKit
import Derived.OpenShut
import Derived.Below
import Derived.Deep.Slices
import Derived.ChangeArms
set_option linter.all false
set_option linter.unnecessarySimpa false
set_option linter.unusedSimpArgs false
set_option linter.unusedVariables false
set_option linter.constructorNameAsVariable false
section
namespace Go.Proofs.YtppeggedcaabkaaGreatDoor
open Go Go.Sx
/-- kinfolk/kinfolklaw17.NoteApart -/
def ir3 : IRF := ⟨[0, 1, 2], (.seq (.region [⟨(some 3), (.box true (.t 0)), none⟩,
    ⟨(some 4), (.box false (.t 1)), none⟩,
    ⟨(some 6), (.mv (.c (.p (.s (.bool false))))), none⟩] none [2, 3, 4])
  (.seq (.seq (.region [⟨(some 19), (.call 7 []), none⟩,
    ⟨(some 20), (.un .not (.t 19)), none⟩] none [2, 3, 4, 20])
  (.cond (.t 20) (.seq (.region [⟨(some 6), (.mv (.c (.p (.s (.bool false))))), none⟩] none [6])
  .ret) .skip))
  (.seq (.seq (.region [⟨(some 21), (.mv (.t 2)), none⟩] none [2, 3, 4, 21])
  (.cond (.t 21) (.region [⟨(some 22), (.load 12 true (.t 3)), none⟩,
    ⟨none, (.store 12 (.t 4) (.t 22)), none⟩] none [2, 3, 4]) .skip))
  (.seq (.seq (.region [⟨(some 24), (.load 12 true (.t 3)), none⟩,
    ⟨(some 25), (.call 8 [(.t 24)]), none⟩,
    ⟨(some 23), (.mv (.t 25)), none⟩,
    ⟨(some 26), (.ext (.t 23) 0), none⟩,
    ⟨(some 27), (.ext (.t 23) 1), none⟩,
    ⟨(some 7), (.alloc false [(.s (.int .i64 0)), (.s (.int .i64 0)), (.s (.int .i64 0)), (.s (.int .u64 0)), (.s (.int .i64 0)), (.s (.bool false)), (.s (.int .u64 0)), (.s (.pointer none)), (.s (.slice none 0 0)), (.s (.int .u64 0)), (.s (.int .i64 0)), (.s (.int .i64 0)), (.s (.bool false)), (.s (.pointer none)), (.s (.int .u64 0))]), none⟩,
    ⟨(some 8), (.alloc false [(.s (.int .i64 0)), (.s (.int .i64 0)), (.s (.int .i64 0)), (.s (.int .u64 0)), (.s (.int .i64 0)), (.s (.bool false)), (.s (.pointer none)), (.s (.slice none 0 0)), (.s (.int .u64 0)), (.s (.int .i64 0)), (.s (.int .i64 0)), (.s (.pointer none)), (.s (.int .u64 0)), (.s (.slice none 0 0))]), none⟩,
    ⟨none, (.store 15 (.t 7) (.t 26)), none⟩,
    ⟨none, (.store 14 (.t 8) (.t 27)), none⟩] none [2, 4, 7, 8])
  (.tidy [2, 4] [7, 8]))
  (.seq (.seq (.region [⟨(some 29), (.load 12 true (.t 4)), none⟩,
    ⟨(some 30), (.call 8 [(.t 29)]), none⟩,
    ⟨(some 28), (.mv (.t 30)), none⟩,
    ⟨(some 31), (.ext (.t 28) 0), none⟩,
    ⟨(some 32), (.ext (.t 28) 1), none⟩,
    ⟨(some 9), (.alloc false [(.s (.int .i64 0)), (.s (.int .i64 0)), (.s (.int .i64 0)), (.s (.int .u64 0)), (.s (.int .i64 0)), (.s (.bool false)), (.s (.int .u64 0)), (.s (.pointer none)), (.s (.slice none 0 0)), (.s (.int .u64 0)), (.s (.int .i64 0)), (.s (.int .i64 0)), (.s (.bool false)), (.s (.pointer none)), (.s (.int .u64 0))]), none⟩,
    ⟨(some 10), (.alloc false [(.s (.int .i64 0)), (.s (.int .i64 0)), (.s (.int .i64 0)), (.s (.int .u64 0)), (.s (.int .i64 0)), (.s (.bool false)), (.s (.pointer none)), (.s (.slice none 0 0)), (.s (.int .u64 0)), (.s (.int .i64 0)), (.s (.int .i64 0)), (.s (.pointer none)), (.s (.int .u64 0)), (.s (.slice none 0 0))]), none⟩,
    ⟨none, (.store 15 (.t 9) (.t 31)), none⟩,
    ⟨none, (.store 14 (.t 10) (.t 32)), none⟩] none [2, 7, 8, 9, 10])
  (.tidy [2, 7, 8] [9, 10]))
  (.seq (.region [⟨(some 34), (.load 15 true (.t 7)), none⟩,
    ⟨(some 35), (.call 9 [(.t 34)]), none⟩,
    ⟨(some 33), (.mv (.t 35)), none⟩,
    ⟨(some 36), (.ext (.t 33) 0), none⟩,
    ⟨(some 37), (.ext (.t 33) 1), none⟩,
    ⟨(some 11), (.mv (.t 36)), none⟩,
    ⟨(some 12), (.mv (.t 37)), none⟩] none [2, 7, 8, 9, 10, 11, 12])
  (.seq (.region [⟨(some 39), (.load 15 true (.t 9)), none⟩,
    ⟨(some 40), (.call 9 [(.t 39)]), none⟩,
    ⟨(some 38), (.mv (.t 40)), none⟩,
    ⟨(some 41), (.ext (.t 38) 0), none⟩,
    ⟨(some 42), (.ext (.t 38) 1), none⟩,
    ⟨(some 13), (.mv (.t 41)), none⟩,
    ⟨(some 14), (.mv (.t 42)), none⟩] none [2, 7, 8, 9, 10, 11, 12, 13, 14])
  (.seq (.region [⟨(some 44), (.load 14 true (.t 8)), none⟩,
    ⟨(some 45), (.call 10 [(.t 44)]), none⟩,
    ⟨(some 43), (.mv (.t 45)), none⟩,
    ⟨(some 46), (.ext (.t 43) 0), none⟩,
    ⟨(some 47), (.ext (.t 43) 1), none⟩,
    ⟨(some 15), (.mv (.t 46)), none⟩,
    ⟨(some 16), (.mv (.t 47)), none⟩] none [2, 7, 9, 10, 11, 12, 13, 14, 15])
  (.seq (.region [⟨(some 49), (.load 14 true (.t 10)), none⟩,
    ⟨(some 50), (.call 10 [(.t 49)]), none⟩,
    ⟨(some 48), (.mv (.t 50)), none⟩,
    ⟨(some 51), (.ext (.t 48) 0), none⟩,
    ⟨(some 52), (.ext (.t 48) 1), none⟩,
    ⟨(some 17), (.mv (.t 51)), none⟩,
    ⟨(some 18), (.mv (.t 52)), none⟩] none [2, 7, 9, 11, 12, 13, 14, 15, 17])
  (.seq (.region [⟨(some 53), (.mv (.t 11)), none⟩,
    ⟨(some 54), (.mv (.t 13)), none⟩,
    ⟨(some 55), (.call 11 [(.t 53), (.t 54)]), none⟩,
    ⟨(some 56), (.mv (.t 15)), none⟩,
    ⟨(some 57), (.mv (.t 17)), none⟩,
    ⟨(some 58), (.call 11 [(.t 56), (.t 57)]), none⟩,
    ⟨(some 59), (.eq false .bool (.t 55) (.t 58)), none⟩,
    ⟨(some 60), (.mv (.t 59)), none⟩,
    ⟨(some 61), (.mv (.t 2)), (some (60, true))⟩,
    ⟨(some 62), (.un .not (.t 61)), (some (60, true))⟩,
    ⟨(some 63), (.mv (.t 62)), (some (60, true))⟩,
    ⟨(some 64), (.mv (.t 12)), (some (63, false))⟩,
    ⟨(some 65), (.mv (.t 14)), (some (63, false))⟩,
    ⟨(some 66), (.bin .eql (.t 64) (.t 65)), (some (63, false))⟩,
    ⟨(some 67), (.mv (.t 66)), (some (63, false))⟩,
    ⟨(some 68), (.mv (.t 11)), (some (67, true))⟩,
    ⟨(some 69), (.mv (.t 13)), (some (67, true))⟩,
    ⟨(some 70), (.call 11 [(.t 68), (.t 69)]), (some (67, true))⟩,
    ⟨(some 71), (.pick (.t 67) (.t 70) (.c (.p (.s (.bool false))))), (some (63, false))⟩,
    ⟨(some 72), (.pick (.t 63) (.c (.p (.s (.bool true)))) (.t 71)), (some (60, true))⟩,
    ⟨(some 73), (.pick (.t 60) (.t 72) (.c (.p (.s (.bool false))))), none⟩,
    ⟨(some 74), (.mv (.t 73)), none⟩,
    ⟨(some 75), (.mv (.t 12)), (some (74, true))⟩,
    ⟨(some 76), (.bin .neq (.t 75) (.c (.p (.s (.int .i64 0))))), (some (74, true))⟩,
    ⟨(some 77), (.mv (.t 76)), (some (74, true))⟩,
    ⟨(some 78), (.mv (.t 14)), (some (77, false))⟩,
    ⟨(some 79), (.bin .neq (.t 78) (.c (.p (.s (.int .i64 0))))), (some (77, false))⟩,
    ⟨(some 80), (.pick (.t 77) (.c (.p (.s (.bool true)))) (.t 79)), (some (74, true))⟩,
    ⟨(some 81), (.mv (.t 80)), (some (74, true))⟩,
    ⟨(some 82), (.mv (.t 11)), (some (81, false))⟩,
    ⟨(some 83), (.mv (.t 13)), (some (81, false))⟩,
    ⟨(some 84), (.call 11 [(.t 82), (.t 83)]), (some (81, false))⟩,
    ⟨(some 85), (.un .not (.t 84)), (some (81, false))⟩,
    ⟨(some 86), (.pick (.t 81) (.c (.p (.s (.bool true)))) (.t 85)), (some (74, true))⟩,
    ⟨(some 87), (.mv (.t 86)), (some (74, true))⟩,
    ⟨(some 88), (.fieldAddr 1 (.t 7)), (some (87, false))⟩,
    ⟨(some 89), (.load 1 false (.t 88)), (some (87, false))⟩,
    ⟨(some 90), (.fieldAddr 1 (.t 9)), (some (87, false))⟩,
    ⟨(some 91), (.load 1 false (.t 90)), (some (87, false))⟩,
    ⟨(some 92), (.bin .eql (.t 89) (.t 91)), (some (87, false))⟩,
    ⟨(some 93), (.mv (.t 92)), (some (87, false))⟩,
    ⟨(some 94), (.fieldAddr 2 (.t 7)), (some (93, true))⟩,
    ⟨(some 95), (.load 1 false (.t 94)), (some (93, true))⟩,
    ⟨(some 96), (.fieldAddr 2 (.t 9)), (some (93, true))⟩,
    ⟨(some 97), (.load 1 false (.t 96)), (some (93, true))⟩,
    ⟨(some 98), (.bin .eql (.t 95) (.t 97)), (some (93, true))⟩,
    ⟨(some 99), (.pick (.t 93) (.t 98) (.c (.p (.s (.bool false))))), (some (87, false))⟩,
    ⟨(some 100), (.mv (.t 99)), (some (87, false))⟩,
    ⟨(some 101), (.fieldAddr 0 (.t 7)), (some (100, true))⟩,
    ⟨(some 102), (.load 1 false (.t 101)), (some (100, true))⟩,
    ⟨(some 103), (.fieldAddr 0 (.t 9)), (some (100, true))⟩,
    ⟨(some 104), (.load 1 false (.t 103)), (some (100, true))⟩,
    ⟨(some 105), (.bin .eql (.t 102) (.t 104)), (some (100, true))⟩,
    ⟨(some 106), (.pick (.t 100) (.t 105) (.c (.p (.s (.bool false))))), (some (87, false))⟩,
    ⟨(some 107), (.pick (.t 87) (.c (.p (.s (.bool true)))) (.t 106)), (some (74, true))⟩,
    ⟨(some 108), (.pick (.t 74) (.t 107) (.c (.p (.s (.bool false))))), none⟩,
    ⟨(some 6), (.mv (.t 108)), none⟩] none [6])
  .ret)))))))))), [(6, none)], false⟩
/-- kinfolk/kinfolklaw17.awake -/
def ir7 : IRF := ⟨[], (.seq (.region [⟨(some 0), (.mv (.c (.p (.s (.bool false))))), none⟩] none [])
  (.seq (.region [⟨(some 4), (.build [(.s (.int .i64 0)), (.s (.int .i64 0)), (.s (.int .i64 0)), (.s (.int .u64 0)), (.s (.int .i64 0)), (.s (.bool false)), (.s (.int .u64 0)), (.s (.pointer none)), (.s (.slice none 0 0)), (.s (.int .u64 0)), (.s (.int .i64 0)), (.s (.int .i64 0)), (.s (.bool false)), (.s (.pointer none)), (.s (.int .u64 0))] [(0, 1, (.c (.p (.s (.int .i64 5))))), (1, 1, (.c (.p (.s (.int .i64 1)))))]), none⟩,
    ⟨(some 5), (.call 9 [(.t 4)]), none⟩,
    ⟨(some 3), (.mv (.t 5)), none⟩,
    ⟨(some 6), (.ext (.t 3) 0), none⟩,
    ⟨(some 7), (.ext (.t 3) 1), none⟩,
    ⟨(some 1), (.mv (.t 6)), none⟩,
    ⟨(some 2), (.mv (.t 7)), none⟩] none [1, 2])
  (.seq (.region [⟨(some 8), (.mv (.t 2)), none⟩,
    ⟨(some 9), (.bin .eql (.t 8) (.c (.p (.s (.int .i64 0))))), none⟩,
    ⟨(some 10), (.mv (.t 9)), none⟩,
    ⟨(some 11), (.mv (.t 1)), (some (10, true))⟩,
    ⟨(some 12), (.mkSl true 3 1 [(.s (.int .u8 0)), (.s (.int .u8 0)), (.s (.int .u8 0))] [(0, 1, (.c (.p (.s (.int .u8 5))))), (1, 1, (.c (.p (.s (.int .u8 1))))), (2, 1, (.c (.p (.s (.int .u8 0)))))]), (some (10, true))⟩,
    ⟨(some 13), (.call 17 [(.t 12)]), (some (10, true))⟩,
    ⟨(some 14), (.call 11 [(.t 11), (.t 13)]), (some (10, true))⟩,
    ⟨(some 15), (.pick (.t 10) (.t 14) (.c (.p (.s (.bool false))))), none⟩,
    ⟨(some 0), (.mv (.t 15)), none⟩] none [0])
  .ret))), [(0, none)], false⟩
/-- kinfolk/kinfolklaw17.made -/
def ir8_0 : IRC := (.seq (.tidy [1, 2, 3, 4, 5, 162, 163, 164] [])
  (.seq (.region [⟨(some 165), (.bin .lss (.t 164) (.t 163)), none⟩] none [1, 2, 3, 4, 5, 162, 163, 164, 165])
  (.seq (.cond (.t 165) .skip (.exit 0))
  (.seq (.block 1 (.seq (.region [⟨(some 166), (.mv (.t 164)), none⟩,
    ⟨(some 167), (.idxASl 1 (.t 162) (.t 164)), none⟩,
    ⟨(some 168), (.load 1 false (.t 167)), none⟩,
    ⟨(some 8), (.mv (.t 166)), none⟩,
    ⟨(some 9), (.mv (.t 168)), none⟩] none [1, 2, 3, 4, 5, 8, 9, 162, 163, 164])
  (.seq (.seq (.region [⟨(some 169), (.mv (.t 8)), none⟩,
    ⟨(some 170), (.bin .geq (.t 169) (.c (.p (.s (.int .i64 7))))), none⟩,
    ⟨(some 171), (.mv (.t 170)), none⟩,
    ⟨(some 172), (.mv (.t 8)), (some (171, false))⟩,
    ⟨(some 173), (.fieldAddr 10 (.t 1)), (some (171, false))⟩,
    ⟨(some 174), (.load 1 false (.t 173)), (some (171, false))⟩,
    ⟨(some 175), (.len false (.t 174)), (some (171, false))⟩,
    ⟨(some 176), (.bin .geq (.t 172) (.t 175)), (some (171, false))⟩,
    ⟨(some 177), (.pick (.t 171) (.c (.p (.s (.bool true)))) (.t 176)), none⟩] none [1, 2, 3, 4, 5, 8, 9, 162, 163, 164, 177])
  (.cond (.t 177) (.exit 0) .skip))
  (.seq (.seq (.region [⟨(some 178), (.mv (.t 9)), none⟩,
    ⟨(some 179), (.mv (.t 8)), none⟩,
    ⟨(some 180), (.bin .rem (.t 179) (.c (.p (.s (.int .i64 3))))), none⟩,
    ⟨(some 181), (.bin .eql (.t 180) (.c (.p (.s (.int .i64 2))))), none⟩,
    ⟨(some 182), (.call 23 [(.t 178), (.c (.p (.s (.string ⟨#[65, 110, 110]⟩)))), (.t 181)]), none⟩,
    ⟨(some 10), (.alloc false [(.s (.pointer none)), (.s (.slice none 0 0)), (.s (.bool false))]), none⟩,
    ⟨none, (.store 3 (.t 10) (.t 182)), none⟩] none [1, 2, 3, 4, 5, 8, 10, 162, 163, 164])
  (.tidy [1, 2, 3, 4, 5, 8, 162, 163, 164] [10]))
  (.seq (.region [⟨(some 11), (.mv (.c (.p (.s (.slice none 0 0))))), none⟩] none [1, 2, 3, 4, 5, 8, 10, 11, 162, 163, 164])
  (.seq (.seq (.region [⟨(some 183), (.fieldAddr 1 (.t 10)), none⟩,
    ⟨(some 184), (.load 1 false (.t 183)), none⟩,
    ⟨(some 185), (.len false (.t 184)), none⟩,
    ⟨(some 186), (.bin .gtr (.t 185) (.c (.p (.s (.int .i64 0))))), none⟩] none [1, 2, 3, 4, 5, 8, 10, 11, 162, 163, 164, 186])
  (.cond (.t 186) (.region [⟨(some 187), (.build [(.s (.int .i64 0)), (.s (.string ⟨#[]⟩)), (.s (.string ⟨#[]⟩))] [(0, 1, (.c (.p (.s (.int .i64 1))))), (2, 1, (.c (.p (.s (.string ⟨#[65, 110, 110]⟩)))))]), none⟩,
    ⟨(some 188), (.mkSl true 1 3 [(.s (.int .i64 0)), (.s (.string ⟨#[]⟩)), (.s (.string ⟨#[]⟩))] [(0, 3, (.t 187))]), none⟩,
    ⟨(some 11), (.mv (.t 188)), none⟩] none [1, 2, 3, 4, 5, 8, 10, 11, 162, 163, 164]) .skip))
  (.seq (.seq (.region [⟨(some 190), (.mv (.t 11)), none⟩,
    ⟨(some 191), (.call 24 [(.t 190)]), none⟩,
    ⟨(some 189), (.mv (.t 191)), none⟩,
    ⟨(some 192), (.ext (.t 189) 0), none⟩,
    ⟨(some 193), (.ext (.t 189) 1), none⟩,
    ⟨(some 12), (.alloc false [(.s (.slice none 0 0))]), none⟩,
    ⟨none, (.store 1 (.t 12) (.t 192)), none⟩,
    ⟨(some 13), (.mv (.t 193)), none⟩] none [1, 2, 3, 4, 5, 8, 10, 12, 162, 163, 164])
  (.tidy [1, 2, 3, 4, 5, 8, 10, 162, 163, 164] [12]))
  (.seq (.region [⟨(some 194), (.fieldAddr 8 (.t 5)), none⟩,
    ⟨(some 195), (.load 1 false (.t 194)), none⟩,
    ⟨(some 196), (.fieldAddr 10 (.t 1)), none⟩,
    ⟨(some 197), (.load 1 false (.t 196)), none⟩,
    ⟨(some 198), (.mv (.t 8)), none⟩,
    ⟨(some 199), (.idxASl 1 (.t 197) (.t 198)), none⟩,
    ⟨(some 200), (.load 1 false (.t 199)), none⟩,
    ⟨(some 201), (.fieldAddr 0 (.t 10)), none⟩,
    ⟨(some 202), (.load 1 false (.t 201)), none⟩,
    ⟨(some 203), (.call 20 [(.t 202)]), none⟩,
    ⟨(some 204), (.load 1 true (.t 12)), none⟩,
    ⟨(some 205), (.fieldAddr 2 (.t 10)), none⟩,
    ⟨(some 206), (.load 1 false (.t 205)), none⟩,
    ⟨(some 207), (.build [(.s (.int .u64 0)), (.s (.pointer none)), (.s (.slice none 0 0)), (.s (.bool false))] [(0, 2, (.t 203)), (2, 1, (.t 204)), (3, 1, (.t 206))]), none⟩,
    ⟨(some 208), (.build [(.s (.int .u32 0)), (.s (.int .u64 0)), (.s (.pointer none)), (.s (.slice none 0 0)), (.s (.bool false))] [(0, 1, (.t 200)), (1, 4, (.t 207))]), none⟩,
    ⟨(some 209), (.mkSl true 1 5 [(.s (.int .u32 0)), (.s (.int .u64 0)), (.s (.pointer none)), (.s (.slice none 0 0)), (.s (.bool false))] [(0, 5, (.t 208))]), none⟩,
    ⟨(some 210), (.app 5 56 (.t 195) (.t 209)), none⟩,
    ⟨(some 211), (.fieldAddr 8 (.t 5)), none⟩,
    ⟨none, (.store 1 (.t 211) (.t 210)), none⟩] (some [0, 1, 0, 4, 0, 28, 60, 0, 128, 384, 0, 0, 2048, 8064, 16380, 32764, 65535, 131071, 262143]) [1, 2, 3, 4, 5, 8, 10, 162, 163, 164])
  (.region [⟨(some 212), (.fieldAddr 7 (.t 4)), none⟩,
    ⟨(some 213), (.load 1 false (.t 212)), none⟩,
    ⟨(some 214), (.fieldAddr 10 (.t 1)), none⟩,
    ⟨(some 215), (.load 1 false (.t 214)), none⟩,
    ⟨(some 216), (.mv (.t 8)), none⟩,
    ⟨(some 217), (.idxASl 1 (.t 215) (.t 216)), none⟩,
    ⟨(some 218), (.load 1 false (.t 217)), none⟩,
    ⟨(some 219), (.load 3 true (.t 10)), none⟩,
    ⟨(some 220), (.build [(.s (.int .u32 0)), (.s (.pointer none)), (.s (.slice none 0 0)), (.s (.bool false))] [(0, 1, (.t 218)), (1, 3, (.t 219))]), none⟩,
    ⟨(some 221), (.mkSl true 1 4 [(.s (.int .u32 0)), (.s (.pointer none)), (.s (.slice none 0 0)), (.s (.bool false))] [(0, 4, (.t 220))]), none⟩,
    ⟨(some 222), (.app 4 48 (.t 213) (.t 221)), none⟩,
    ⟨(some 223), (.fieldAddr 7 (.t 4)), none⟩,
    ⟨none, (.store 1 (.t 223) (.t 222)), none⟩] (some [0, 1, 0, 4, 0, 28, 60, 0, 252, 508, 1023, 2047, 4095]) [1, 2, 3, 4, 5, 162, 163, 164])))))))))
  (.region [⟨(some 224), (.bin .add (.t 164) (.c (.p (.s (.int .i64 1))))), none⟩,
    ⟨(some 164), (.mv (.t 224)), none⟩] none [1, 2, 3, 4, 5, 162, 163, 164])))))
def ir8 : IRF := ⟨[0], (.seq (.region [⟨(some 1), (.box false (.t 0)), none⟩,
    ⟨(some 2), (.alloc false [(.s (.int .i64 0)), (.s (.int .i64 0)), (.s (.int .i64 0)), (.s (.int .u64 0)), (.s (.int .i64 0)), (.s (.bool false)), (.s (.int .u64 0)), (.s (.pointer none)), (.s (.slice none 0 0)), (.s (.int .u64 0)), (.s (.int .i64 0)), (.s (.int .i64 0)), (.s (.bool false)), (.s (.pointer none)), (.s (.int .u64 0))]), none⟩,
    ⟨(some 3), (.alloc false [(.s (.int .i64 0)), (.s (.int .i64 0)), (.s (.int .i64 0)), (.s (.int .u64 0)), (.s (.int .i64 0)), (.s (.bool false)), (.s (.pointer none)), (.s (.slice none 0 0)), (.s (.int .u64 0)), (.s (.int .i64 0)), (.s (.int .i64 0)), (.s (.pointer none)), (.s (.int .u64 0)), (.s (.slice none 0 0))]), none⟩] none [1, 2, 3])
  (.seq (.seq (.region [⟨(some 14), (.fieldAddr 7 (.t 1)), none⟩,
    ⟨(some 15), (.load 1 false (.t 14)), none⟩] none [1, 2, 3, 15])
  (.cond (.t 15) (.seq (.seq (.region [⟨(some 16), (.fieldAddr 0 (.t 1)), none⟩,
    ⟨(some 17), (.load 1 false (.t 16)), none⟩,
    ⟨(some 18), (.bin .gtr (.t 17) (.c (.p (.s (.int .i64 4))))), none⟩,
    ⟨(some 19), (.mv (.t 18)), none⟩,
    ⟨(some 20), (.fieldAddr 0 (.t 1)), (some (19, false))⟩,
    ⟨(some 21), (.load 1 false (.t 20)), (some (19, false))⟩,
    ⟨(some 22), (.bin .lss (.t 21) (.c (.p (.s (.int .i64 1))))), (some (19, false))⟩,
    ⟨(some 23), (.pick (.t 19) (.c (.p (.s (.bool true)))) (.t 22)), none⟩] none [1, 2, 3, 23])
  (.cond (.t 23) (.region [⟨(some 24), (.fieldAddr 3 (.t 1)), none⟩,
    ⟨none, (.store 1 (.t 24) (.c (.p (.s (.int .u64 0))))), none⟩] none [1, 2, 3]) .skip))
  (.seq (.seq (.region [⟨(some 25), (.fieldAddr 0 (.t 1)), none⟩,
    ⟨(some 26), (.load 1 false (.t 25)), none⟩,
    ⟨(some 27), (.bin .neq (.t 26) (.c (.p (.s (.int .i64 3))))), none⟩,
    ⟨(some 28), (.mv (.t 27)), none⟩,
    ⟨(some 29), (.fieldAddr 0 (.t 1)), (some (28, true))⟩,
    ⟨(some 30), (.load 1 false (.t 29)), (some (28, true))⟩,
    ⟨(some 31), (.bin .neq (.t 30) (.c (.p (.s (.int .i64 4))))), (some (28, true))⟩,
    ⟨(some 32), (.pick (.t 28) (.t 31) (.c (.p (.s (.bool false))))), none⟩] none [1, 2, 3, 32])
  (.cond (.t 32) (.region [⟨(some 33), (.fieldAddr 5 (.t 1)), none⟩,
    ⟨none, (.store 1 (.t 33) (.c (.p (.s (.int .i64 0))))), none⟩] none [1, 2, 3]) .skip))
  (.seq (.region [⟨(some 34), (.fieldAddr 6 (.t 1)), none⟩,
    ⟨(some 35), (.load 1 false (.t 34)), none⟩,
    ⟨(some 36), (.mv (.t 35)), none⟩,
    ⟨(some 37), (.fieldAddr 0 (.t 1)), (some (36, true))⟩,
    ⟨(some 38), (.load 1 false (.t 37)), (some (36, true))⟩,
    ⟨(some 39), (.bin .eql (.t 38) (.c (.p (.s (.int .i64 3))))), (some (36, true))⟩,
    ⟨(some 40), (.pick (.t 36) (.t 39) (.c (.p (.s (.bool false))))), none⟩,
    ⟨(some 41), (.fieldAddr 6 (.t 1)), none⟩,
    ⟨none, (.store 1 (.t 41) (.t 40)), none⟩] none [1, 2, 3])
  (.seq (.seq (.region [⟨(some 42), (.fieldAddr 0 (.t 1)), none⟩,
    ⟨(some 43), (.load 1 false (.t 42)), none⟩,
    ⟨(some 44), (.bin .eql (.t 43) (.c (.p (.s (.int .i64 4))))), none⟩,
    ⟨(some 45), (.mv (.t 44)), none⟩,
    ⟨(some 46), (.fieldAddr 0 (.t 1)), (some (45, false))⟩,
    ⟨(some 47), (.load 1 false (.t 46)), (some (45, false))⟩,
    ⟨(some 48), (.bin .eql (.t 47) (.c (.p (.s (.int .i64 5))))), (some (45, false))⟩,
    ⟨(some 49), (.pick (.t 45) (.c (.p (.s (.bool true)))) (.t 48)), none⟩,
    ⟨(some 50), (.mv (.t 49)), none⟩,
    ⟨(some 51), (.fieldAddr 0 (.t 1)), (some (50, false))⟩,
    ⟨(some 52), (.load 1 false (.t 51)), (some (50, false))⟩,
    ⟨(some 53), (.bin .eql (.t 52) (.c (.p (.s (.int .i64 7))))), (some (50, false))⟩,
    ⟨(some 54), (.pick (.t 50) (.c (.p (.s (.bool true)))) (.t 53)), none⟩] none [1, 2, 3, 54])
  (.cond (.t 54) (.region [⟨(some 55), (.fieldAddr 8 (.t 1)), none⟩,
    ⟨none, (.store 1 (.t 55) (.c (.p (.s (.slice none 0 0))))), none⟩] none [1, 2, 3]) .skip))
  (.seq (.region [⟨(some 56), (.fieldAddr 0 (.t 1)), none⟩,
    ⟨(some 57), (.load 1 false (.t 56)), none⟩,
    ⟨(some 58), (.bin .neq (.t 57) (.c (.p (.s (.int .i64 3))))), none⟩,
    ⟨(some 59), (.mv (.t 58)), none⟩,
    ⟨(some 60), (.fieldAddr 0 (.t 1)), (some (59, true))⟩,
    ⟨(some 61), (.load 1 false (.t 60)), (some (59, true))⟩,
    ⟨(some 62), (.bin .neq (.t 61) (.c (.p (.s (.int .i64 6))))), (some (59, true))⟩,
    ⟨(some 63), (.pick (.t 59) (.t 62) (.c (.p (.s (.bool false))))), none⟩] none [1, 2, 3, 63])
  (.cond (.t 63) (.region [⟨(some 64), (.fieldAddr 11 (.t 1)), none⟩,
    ⟨none, (.store 1 (.t 64) (.c (.p (.s (.slice none 0 0))))), none⟩] none [1, 2, 3]) .skip)))))) .skip))
  (.seq (.region [⟨(some 65), (.fieldAddr 0 (.t 1)), none⟩,
    ⟨(some 66), (.load 1 false (.t 65)), none⟩,
    ⟨(some 67), (.fieldAddr 1 (.t 1)), none⟩,
    ⟨(some 68), (.load 1 false (.t 67)), none⟩,
    ⟨(some 69), (.fieldAddr 2 (.t 1)), none⟩,
    ⟨(some 70), (.load 1 false (.t 69)), none⟩,
    ⟨(some 71), (.call 18 [(.t 66), (.t 68), (.t 70)]), none⟩,
    ⟨(some 4), (.alloc false [(.s (.int .i64 0)), (.s (.int .i64 0)), (.s (.int .i64 0)), (.s (.int .u64 0)), (.s (.int .i64 0)), (.s (.bool false)), (.s (.pointer none)), (.s (.slice none 0 0)), (.s (.int .u64 0)), (.s (.int .i64 0)), (.s (.int .i64 0)), (.s (.pointer none)), (.s (.int .u64 0)), (.s (.slice none 0 0))]), none⟩,
    ⟨none, (.store 14 (.t 4) (.t 71)), none⟩] none [1, 2, 3, 4])
  (.seq (.region [⟨(some 72), (.fieldAddr 3 (.t 1)), none⟩,
    ⟨(some 73), (.load 1 false (.t 72)), none⟩,
    ⟨(some 74), (.fieldAddr 5 (.t 1)), none⟩,
    ⟨(some 75), (.load 1 false (.t 74)), none⟩,
    ⟨(some 76), (.fieldAddr 6 (.t 1)), none⟩,
    ⟨(some 77), (.load 1 false (.t 76)), none⟩,
    ⟨(some 78), (.fieldAddr 3 (.t 4)), none⟩,
    ⟨none, (.store 1 (.t 78) (.t 73)), none⟩,
    ⟨(some 79), (.fieldAddr 4 (.t 4)), none⟩,
    ⟨none, (.store 1 (.t 79) (.t 75)), none⟩,
    ⟨(some 80), (.fieldAddr 5 (.t 4)), none⟩,
    ⟨none, (.store 1 (.t 80) (.t 77)), none⟩] (some [0, 1, 0, 4, 0, 16, 3, 67, 207, 463, 1023, 2047]) [1, 2, 3, 4])
  (.seq (.region [⟨(some 82), (.fieldAddr 8 (.t 1)), none⟩,
    ⟨(some 83), (.load 1 false (.t 82)), none⟩,
    ⟨(some 84), (.fieldAddr 8 (.t 1)), none⟩,
    ⟨(some 85), (.load 1 false (.t 84)), none⟩,
    ⟨(some 86), (.len false (.t 85)), none⟩,
    ⟨(some 87), (.minmax false [(.t 86), (.c (.p (.s (.int .i64 30))))]), none⟩,
    ⟨(some 88), (.slSl 1 (.t 83) none (some (.t 87)) none), none⟩,
    ⟨(some 89), (.call 19 [(.t 88), (.c (.p (.s (.int .i64 4))))]), none⟩,
    ⟨(some 81), (.mv (.t 89)), none⟩,
    ⟨(some 90), (.ext (.t 81) 0), none⟩,
    ⟨(some 91), (.ext (.t 81) 1), none⟩,
    ⟨(some 92), (.fieldAddr 6 (.t 4)), none⟩,
    ⟨none, (.store 1 (.t 92) (.t 90)), none⟩] none [1, 2, 3, 4])
  (.seq (.region [⟨(some 93), (.fieldAddr 0 (.t 1)), none⟩,
    ⟨(some 94), (.load 1 false (.t 93)), none⟩,
    ⟨(some 95), (.fieldAddr 1 (.t 1)), none⟩,
    ⟨(some 96), (.load 1 false (.t 95)), none⟩,
    ⟨(some 97), (.fieldAddr 2 (.t 1)), none⟩,
    ⟨(some 98), (.load 1 false (.t 97)), none⟩,
    ⟨(some 99), (.fieldAddr 3 (.t 1)), none⟩,
    ⟨(some 100), (.load 1 false (.t 99)), none⟩,
    ⟨(some 101), (.fieldAddr 5 (.t 1)), none⟩,
    ⟨(some 102), (.load 1 false (.t 101)), none⟩,
    ⟨(some 103), (.fieldAddr 6 (.t 1)), none⟩,
    ⟨(some 104), (.load 1 false (.t 103)), none⟩,
    ⟨(some 105), (.fieldAddr 6 (.t 4)), none⟩,
    ⟨(some 106), (.load 1 false (.t 105)), none⟩,
    ⟨(some 107), (.call 20 [(.t 106)]), none⟩,
    ⟨(some 108), (.build [(.s (.int .i64 0)), (.s (.int .i64 0)), (.s (.int .i64 0)), (.s (.int .u64 0)), (.s (.int .i64 0)), (.s (.bool false)), (.s (.int .u64 0)), (.s (.pointer none)), (.s (.slice none 0 0)), (.s (.int .u64 0)), (.s (.int .i64 0)), (.s (.int .i64 0)), (.s (.bool false)), (.s (.pointer none)), (.s (.int .u64 0))] [(0, 1, (.t 94)), (1, 1, (.t 96)), (2, 1, (.t 98)), (3, 1, (.t 100)), (4, 1, (.t 102)), (5, 1, (.t 104)), (6, 2, (.t 107))]), none⟩,
    ⟨(some 5), (.alloc false [(.s (.int .i64 0)), (.s (.int .i64 0)), (.s (.int .i64 0)), (.s (.int .u64 0)), (.s (.int .i64 0)), (.s (.bool false)), (.s (.int .u64 0)), (.s (.pointer none)), (.s (.slice none 0 0)), (.s (.int .u64 0)), (.s (.int .i64 0)), (.s (.int .i64 0)), (.s (.bool false)), (.s (.pointer none)), (.s (.int .u64 0))]), none⟩,
    ⟨none, (.store 15 (.t 5) (.t 108)), none⟩] (some [0, 1, 0, 4, 0, 16, 0, 64, 0, 256, 0, 1024, 0, 4096, 12288, 32767, 0, 131071]) [1, 2, 3, 4, 5])
  (.seq (.seq (.region [⟨(some 109), (.fieldAddr 7 (.t 1)), none⟩,
    ⟨(some 110), (.load 1 false (.t 109)), none⟩,
    ⟨(some 111), (.un .not (.t 110)), none⟩,
    ⟨(some 112), (.mv (.t 111)), none⟩,
    ⟨(some 113), (.fieldAddr 0 (.t 1)), (some (112, false))⟩,
    ⟨(some 114), (.load 1 false (.t 113)), (some (112, false))⟩,
    ⟨(some 115), (.bin .eql (.t 114) (.c (.p (.s (.int .i64 7))))), (some (112, false))⟩,
    ⟨(some 116), (.pick (.t 112) (.c (.p (.s (.bool true)))) (.t 115)), none⟩] none [1, 2, 3, 4, 5, 116])
  (.cond (.t 116) (.region [⟨(some 117), (.fieldAddr 4 (.t 1)), none⟩,
    ⟨(some 118), (.load 1 false (.t 117)), none⟩,
    ⟨(some 119), (.fieldAddr 4 (.t 1)), none⟩,
    ⟨(some 120), (.load 1 false (.t 119)), none⟩,
    ⟨(some 121), (.fieldAddr 12 (.t 4)), none⟩,
    ⟨none, (.store 1 (.t 121) (.t 118)), none⟩,
    ⟨(some 122), (.fieldAddr 14 (.t 5)), none⟩,
    ⟨none, (.store 1 (.t 122) (.t 120)), none⟩] (some [0, 1, 0, 4, 3, 19, 63, 127]) [1, 2, 3, 4, 5]) .skip))
  (.seq (.seq (.region [⟨(some 123), (.fieldAddr 7 (.t 1)), none⟩,
    ⟨(some 124), (.load 1 false (.t 123)), none⟩,
    ⟨(some 125), (.un .not (.t 124)), none⟩,
    ⟨(some 126), (.mv (.t 125)), none⟩,
    ⟨(some 127), (.fieldAddr 0 (.t 1)), (some (126, false))⟩,
    ⟨(some 128), (.load 1 false (.t 127)), (some (126, false))⟩,
    ⟨(some 129), (.bin .eql (.t 128) (.c (.p (.s (.int .i64 6))))), (some (126, false))⟩,
    ⟨(some 130), (.pick (.t 126) (.c (.p (.s (.bool true)))) (.t 129)), none⟩] none [1, 2, 3, 4, 5, 130])
  (.cond (.t 130) (.seq (.region [⟨(some 132), (.fieldAddr 9 (.t 1)), none⟩,
    ⟨(some 133), (.load 1 false (.t 132)), none⟩,
    ⟨(some 134), (.fieldAddr 9 (.t 1)), none⟩,
    ⟨(some 135), (.load 1 false (.t 134)), none⟩,
    ⟨(some 136), (.len false (.t 135)), none⟩,
    ⟨(some 137), (.minmax false [(.t 136), (.c (.p (.s (.int .i64 20))))]), none⟩,
    ⟨(some 138), (.slSl 1 (.t 133) none (some (.t 137)) none), none⟩,
    ⟨(some 139), (.call 21 [(.t 138), (.c (.p (.s (.int .i64 4))))]), none⟩,
    ⟨(some 131), (.mv (.t 139)), none⟩,
    ⟨(some 140), (.ext (.t 131) 0), none⟩,
    ⟨(some 141), (.ext (.t 131) 1), none⟩,
    ⟨(some 6), (.mv (.t 140)), none⟩,
    ⟨(some 7), (.mv (.t 141)), none⟩] none [1, 2, 3, 4, 5, 6])
  (.seq (.region [⟨(some 142), (.fieldAddr 4 (.t 1)), none⟩,
    ⟨(some 143), (.load 1 false (.t 142)), none⟩,
    ⟨(some 144), (.fieldAddr 1 (.t 1)), none⟩,
    ⟨(some 145), (.load 1 false (.t 144)), none⟩,
    ⟨(some 146), (.fieldAddr 2 (.t 1)), none⟩,
    ⟨(some 147), (.load 1 false (.t 146)), none⟩,
    ⟨(some 148), (.mv (.t 6)), none⟩,
    ⟨(some 149), (.build [(.s (.int .u64 0)), (.s (.int .i64 0)), (.s (.int .i64 0)), (.s (.pointer none))] [(0, 1, (.t 143)), (1, 1, (.t 145)), (2, 1, (.t 147)), (3, 1, (.t 148))]), none⟩,
    ⟨(some 150), (.fieldAddr 8 (.t 4)), none⟩,
    ⟨none, (.store 4 (.t 150) (.t 149)), none⟩] none [1, 2, 3, 4, 5, 6])
  (.region [⟨(some 151), (.fieldAddr 4 (.t 1)), none⟩,
    ⟨(some 152), (.load 1 false (.t 151)), none⟩,
    ⟨(some 153), (.fieldAddr 1 (.t 1)), none⟩,
    ⟨(some 154), (.load 1 false (.t 153)), none⟩,
    ⟨(some 155), (.fieldAddr 2 (.t 1)), none⟩,
    ⟨(some 156), (.load 1 false (.t 155)), none⟩,
    ⟨(some 157), (.mv (.t 6)), none⟩,
    ⟨(some 158), (.call 22 [(.t 157)]), none⟩,
    ⟨(some 159), (.build [(.s (.int .u64 0)), (.s (.int .i64 0)), (.s (.int .i64 0)), (.s (.bool false)), (.s (.pointer none))] [(0, 1, (.t 152)), (1, 1, (.t 154)), (2, 1, (.t 156)), (3, 2, (.t 158))]), none⟩,
    ⟨(some 160), (.fieldAddr 9 (.t 5)), none⟩,
    ⟨none, (.store 5 (.t 160) (.t 159)), none⟩] (some [0, 1, 0, 4, 0, 16, 0, 64, 255, 511, 1023]) [1, 2, 3, 4, 5]))) .skip))
  (.seq (.seq (.region [⟨(some 161), (.fieldAddr 11 (.t 1)), none⟩,
    ⟨(some 162), (.load 1 false (.t 161)), none⟩,
    ⟨(some 163), (.len false (.t 162)), none⟩,
    ⟨(some 164), (.mv (.c (.p (.s (.int .i64 0))))), none⟩] none [1, 2, 3, 4, 5, 162, 163, 164])
  (.block 0 (.loop ir8_0)))
  (.seq (.region [⟨(some 225), (.load 15 true (.t 5)), none⟩,
    ⟨(some 226), (.load 14 true (.t 4)), none⟩,
    ⟨none, (.store 15 (.t 2) (.t 225)), none⟩,
    ⟨none, (.store 14 (.t 3) (.t 226)), none⟩] (some [0, 0, 1, 7]) [2, 3])
  .ret)))))))))), [(2, some (15, true)), (3, some (14, true))], false⟩
/-- (kinfolk/note.Note).Bytes -/
def ir9 : IRF := ⟨[0], (.seq (.region [⟨(some 1), (.box true (.t 0)), none⟩,
    ⟨(some 2), (.mv (.c (.p (.s (.slice none 0 0))))), none⟩,
    ⟨(some 3), (.mv (.c (.p (.s (.int .i64 0))))), none⟩] none [1])
  (.seq (.seq (.region [⟨(some 7), (.load 15 true (.t 1)), none⟩,
    ⟨(some 8), (.call 12 [(.t 7)]), none⟩,
    ⟨(some 9), (.un .not (.t 8)), none⟩] none [1, 9])
  (.cond (.t 9) (.seq (.region [⟨(some 2), (.mv (.c (.p (.s (.slice none 0 0))))), none⟩,
    ⟨(some 3), (.mv (.c (.p (.s (.int .i64 1))))), none⟩] none [2, 3])
  .ret) .skip))
  (.seq (.region [⟨(some 10), (.fieldAddr 0 (.t 1)), none⟩,
    ⟨(some 11), (.load 1 false (.t 10)), none⟩,
    ⟨(some 12), (.call 25 [(.t 11)]), none⟩,
    ⟨(some 4), (.mv (.t 12)), none⟩] none [1, 4])
  (.seq (.region [⟨(some 13), (.fieldAddr 0 (.t 1)), none⟩,
    ⟨(some 14), (.load 1 false (.t 13)), none⟩,
    ⟨(some 15), (.cvt .u8 (.t 14)), none⟩,
    ⟨(some 16), (.fieldAddr 1 (.t 1)), none⟩,
    ⟨(some 17), (.load 1 false (.t 16)), none⟩,
    ⟨(some 18), (.cvt .u8 (.t 17)), none⟩,
    ⟨(some 19), (.fieldAddr 2 (.t 1)), none⟩,
    ⟨(some 20), (.load 1 false (.t 19)), none⟩,
    ⟨(some 21), (.cvt .u8 (.t 20)), none⟩,
    ⟨(some 22), (.mkSl false 3 1 [(.s (.int .u8 0)), (.s (.int .u8 0)), (.s (.int .u8 0))] [(0, 1, (.t 15)), (1, 1, (.t 18)), (2, 1, (.t 21))]), none⟩,
    ⟨(some 5), (.mv (.t 22)), none⟩] none [1, 4, 5])
  (.seq (.seq (.region [⟨(some 23), (.mv (.t 4)), none⟩,
    ⟨(some 24), (.bin .and (.t 23) (.c (.p (.s (.int .i64 1))))), none⟩,
    ⟨(some 25), (.bin .gtr (.t 24) (.c (.p (.s (.int .i64 0))))), none⟩] none [1, 4, 5, 25])
  (.cond (.t 25) (.region [⟨(some 26), (.mv (.t 5)), none⟩,
    ⟨(some 27), (.fieldAddr 3 (.t 1)), none⟩,
    ⟨(some 28), (.load 1 false (.t 27)), none⟩,
    ⟨(some 29), (.call 26 [(.t 26), (.t 28)]), none⟩,
    ⟨(some 5), (.mv (.t 29)), none⟩] none [1, 4, 5]) .skip))
  (.seq (.seq (.region [⟨(some 30), (.mv (.t 4)), none⟩,
    ⟨(some 31), (.bin .and (.t 30) (.c (.p (.s (.int .i64 2))))), none⟩,
    ⟨(some 32), (.bin .gtr (.t 31) (.c (.p (.s (.int .i64 0))))), none⟩] none [1, 4, 5, 32])
  (.cond (.t 32) (.region [⟨(some 33), (.mv (.t 5)), none⟩,
    ⟨(some 34), (.fieldAddr 4 (.t 1)), none⟩,
    ⟨(some 35), (.load 1 false (.t 34)), none⟩,
    ⟨(some 36), (.cvt .u8 (.t 35)), none⟩,
    ⟨(some 37), (.mkSl true 1 1 [(.s (.int .u8 0))] [(0, 1, (.t 36))]), none⟩,
    ⟨(some 38), (.app 1 1 (.t 33) (.t 37)), none⟩,
    ⟨(some 5), (.mv (.t 38)), none⟩] none [1, 4, 5]) .skip))
  (.seq (.seq (.region [⟨(some 39), (.mv (.t 4)), none⟩,
    ⟨(some 40), (.bin .and (.t 39) (.c (.p (.s (.int .i64 16))))), none⟩,
    ⟨(some 41), (.bin .gtr (.t 40) (.c (.p (.s (.int .i64 0))))), none⟩] none [1, 4, 5, 41])
  (.cond (.t 41) (.seq (.region [⟨(some 6), (.mv (.c (.p (.s (.int .u8 0))))), none⟩] none [1, 4, 5, 6])
  (.seq (.seq (.region [⟨(some 42), (.fieldAddr 5 (.t 1)), none⟩,
    ⟨(some 43), (.load 1 false (.t 42)), none⟩] none [1, 4, 5, 6, 43])
  (.cond (.t 43) (.region [⟨(some 6), (.mv (.c (.p (.s (.int .u8 1))))), none⟩] none [1, 4, 5, 6]) .skip))
  (.region [⟨(some 44), (.mv (.t 5)), none⟩,
    ⟨(some 45), (.mv (.t 6)), none⟩,
    ⟨(some 46), (.mkSl true 1 1 [(.s (.int .u8 0))] [(0, 1, (.t 45))]), none⟩,
    ⟨(some 47), (.app 1 1 (.t 44) (.t 46)), none⟩,
    ⟨(some 5), (.mv (.t 47)), none⟩] none [1, 4, 5]))) .skip))
  (.seq (.seq (.region [⟨(some 48), (.mv (.t 4)), none⟩,
    ⟨(some 49), (.bin .and (.t 48) (.c (.p (.s (.int .i64 32))))), none⟩,
    ⟨(some 50), (.bin .gtr (.t 49) (.c (.p (.s (.int .i64 0))))), none⟩] none [1, 4, 5, 50])
  (.cond (.t 50) (.region [⟨(some 51), (.mv (.t 5)), none⟩,
    ⟨(some 52), (.fieldAddr 9 (.t 1)), none⟩,
    ⟨(some 53), (.load 5 true (.t 52)), none⟩,
    ⟨(some 54), (.call 27 [(.t 51), (.t 53)]), none⟩,
    ⟨(some 5), (.mv (.t 54)), none⟩] none [1, 4, 5]) .skip))
  (.seq (.seq (.region [⟨(some 55), (.mv (.t 4)), none⟩,
    ⟨(some 56), (.bin .and (.t 55) (.c (.p (.s (.int .i64 8))))), none⟩,
    ⟨(some 57), (.bin .gtr (.t 56) (.c (.p (.s (.int .i64 0))))), none⟩] none [1, 4, 5, 57])
  (.cond (.t 57) (.region [⟨(some 58), (.mv (.t 5)), none⟩,
    ⟨(some 59), (.fieldAddr 6 (.t 1)), none⟩,
    ⟨(some 60), (.load 2 true (.t 59)), none⟩,
    ⟨(some 61), (.call 29 [(.t 60)]), none⟩,
    ⟨(some 62), (.b2s (.t 61)), none⟩,
    ⟨(some 63), (.call 28 [(.t 58), (.t 62)]), none⟩,
    ⟨(some 5), (.mv (.t 63)), none⟩] none [1, 4, 5]) .skip))
  (.seq (.seq (.region [⟨(some 64), (.mv (.t 4)), none⟩,
    ⟨(some 65), (.bin .and (.t 64) (.c (.p (.s (.int .i64 4))))), none⟩,
    ⟨(some 66), (.bin .gtr (.t 65) (.c (.p (.s (.int .i64 0))))), none⟩] none [1, 4, 5, 66])
  (.cond (.t 66) (.region [⟨(some 67), (.mv (.t 5)), none⟩,
    ⟨(some 68), (.fieldAddr 8 (.t 1)), none⟩,
    ⟨(some 69), (.load 1 false (.t 68)), none⟩,
    ⟨(some 70), (.call 30 [(.t 67), (.t 69)]), none⟩,
    ⟨(some 5), (.mv (.t 70)), none⟩] none [1, 4, 5]) .skip))
  (.seq (.seq (.region [⟨(some 71), (.mv (.t 4)), none⟩,
    ⟨(some 72), (.bin .and (.t 71) (.c (.p (.s (.int .i64 64))))), none⟩,
    ⟨(some 73), (.bin .gtr (.t 72) (.c (.p (.s (.int .i64 0))))), none⟩] none [1, 5, 73])
  (.cond (.t 73) (.region [⟨(some 74), (.mv (.t 5)), none⟩,
    ⟨(some 75), (.fieldAddr 14 (.t 1)), none⟩,
    ⟨(some 76), (.load 1 false (.t 75)), none⟩,
    ⟨(some 77), (.call 26 [(.t 74), (.t 76)]), none⟩,
    ⟨(some 5), (.mv (.t 77)), none⟩] none [5]) .skip))
  (.seq (.seq (.region [⟨(some 78), (.mv (.t 5)), none⟩,
    ⟨(some 79), (.len false (.t 78)), none⟩,
    ⟨(some 80), (.bin .gtr (.t 79) (.c (.p (.s (.int .i64 1048576))))), none⟩] none [5, 80])
  (.cond (.t 80) (.seq (.region [⟨(some 2), (.mv (.c (.p (.s (.slice none 0 0))))), none⟩,
    ⟨(some 3), (.mv (.c (.p (.s (.int .i64 9))))), none⟩] none [2, 3])
  .ret) .skip))
  (.seq (.region [⟨(some 81), (.mv (.t 5)), none⟩,
    ⟨(some 82), (.call 31 [(.t 81)]), none⟩,
    ⟨(some 2), (.mv (.t 82)), none⟩,
    ⟨(some 3), (.mv (.c (.p (.s (.int .i64 0))))), none⟩] none [2, 3])
  .ret))))))))))))), [(2, none), (3, none)], false⟩
/-- kinfolk/kinfolkref17.Bytes -/
def ir10 : IRF := ⟨[0], (.seq (.region [⟨(some 1), (.box true (.t 0)), none⟩,
    ⟨(some 2), (.mv (.c (.p (.s (.slice none 0 0))))), none⟩,
    ⟨(some 3), (.mv (.c (.p (.s (.int .i64 0))))), none⟩] none [1])
  (.seq (.seq (.region [⟨(some 8), (.load 14 true (.t 1)), none⟩,
    ⟨(some 9), (.call 13 [(.t 8)]), none⟩,
    ⟨(some 10), (.un .not (.t 9)), none⟩] none [1, 10])
  (.cond (.t 10) (.seq (.region [⟨(some 2), (.mv (.c (.p (.s (.slice none 0 0))))), none⟩,
    ⟨(some 3), (.mv (.c (.p (.s (.int .i64 1))))), none⟩] none [2, 3])
  .ret) .skip))
  (.seq (.region [⟨(some 11), (.fieldAddr 0 (.t 1)), none⟩,
    ⟨(some 12), (.load 1 false (.t 11)), none⟩,
    ⟨(some 13), (.cvt .u8 (.t 12)), none⟩,
    ⟨(some 14), (.fieldAddr 1 (.t 1)), none⟩,
    ⟨(some 15), (.load 1 false (.t 14)), none⟩,
    ⟨(some 16), (.cvt .u8 (.t 15)), none⟩,
    ⟨(some 17), (.fieldAddr 2 (.t 1)), none⟩,
    ⟨(some 18), (.load 1 false (.t 17)), none⟩,
    ⟨(some 19), (.cvt .u8 (.t 18)), none⟩,
    ⟨(some 20), (.mkSl true 3 1 [(.s (.int .u8 0)), (.s (.int .u8 0)), (.s (.int .u8 0))] [(0, 1, (.t 13)), (1, 1, (.t 16)), (2, 1, (.t 19))]), none⟩,
    ⟨(some 4), (.mv (.t 20)), none⟩] none [1, 4])
  (.seq (.seq (.region [⟨(some 21), (.fieldAddr 3 (.t 1)), none⟩,
    ⟨(some 22), (.load 1 false (.t 21)), none⟩,
    ⟨(some 23), (.call 32 [(.t 22)]), none⟩,
    ⟨(some 5), (.mv (.t 23)), none⟩] none [1, 4, 5])
  (.tidy [1, 4] [5]))
  (.seq (.seq (.region [⟨(some 24), (.fieldAddr 6 (.t 1)), none⟩,
    ⟨(some 25), (.load 1 false (.t 24)), none⟩,
    ⟨(some 26), (.call 35 [(.c (.p (.s (.slice none 0 0)))), (.t 25)]), none⟩,
    ⟨(some 27), (.call 34 [(.t 26)]), none⟩,
    ⟨(some 28), (.b2s (.t 27)), none⟩,
    ⟨(some 29), (.call 33 [(.t 28)]), none⟩,
    ⟨(some 6), (.mv (.t 29)), none⟩] none [1, 4, 5, 6])
  (.tidy [1, 4, 5] [6]))
  (.seq (.seq (.region [⟨(some 30), (.fieldAddr 0 (.t 1)), none⟩,
    ⟨(some 31), (.load 1 false (.t 30)), none⟩] none [1, 4, 5, 6, 31])
  (.block 0 (.seq (.seq (.region [⟨(some 33), (.bin .eql (.t 31) (.c (.p (.s (.int .i64 1))))), none⟩,
    ⟨(some 32), (.mv (.t 33)), none⟩] none [1, 4, 5, 6, 31, 32])
  (.cond (.t 32) .skip (.region [⟨(some 34), (.bin .eql (.t 31) (.c (.p (.s (.int .i64 2))))), none⟩,
    ⟨(some 32), (.mv (.t 34)), none⟩] none [1, 4, 5, 6, 31, 32])))
  (.cond (.t 32) (.region [⟨(some 35), (.mv (.t 4)), none⟩,
    ⟨(some 36), (.mv (.t 5)), none⟩,
    ⟨(some 37), (.mv (.t 6)), none⟩,
    ⟨(some 38), (.mkSl false 3 1 [(.s (.slice none 0 0)), (.s (.slice none 0 0)), (.s (.slice none 0 0))] [(0, 1, (.t 35)), (1, 1, (.t 36)), (2, 1, (.t 37))]), none⟩,
    ⟨(some 39), (.call 36 [(.t 38)]), none⟩,
    ⟨(some 4), (.mv (.t 39)), none⟩] none [4]) (.seq (.region [⟨(some 41), (.bin .eql (.t 31) (.c (.p (.s (.int .i64 3))))), none⟩,
    ⟨(some 40), (.mv (.t 41)), none⟩] none [1, 4, 5, 6, 31, 40])
  (.cond (.t 40) (.seq (.region [⟨(some 7), (.mv (.c (.p (.s (.int .u8 0))))), none⟩] none [1, 4, 5, 6, 7])
  (.seq (.seq (.region [⟨(some 42), (.fieldAddr 5 (.t 1)), none⟩,
    ⟨(some 43), (.load 1 false (.t 42)), none⟩] none [1, 4, 5, 6, 7, 43])
  (.cond (.t 43) (.region [⟨(some 7), (.mv (.c (.p (.s (.int .u8 1))))), none⟩] none [1, 4, 5, 6, 7]) .skip))
  (.region [⟨(some 44), (.mv (.t 4)), none⟩,
    ⟨(some 45), (.mv (.t 5)), none⟩,
    ⟨(some 46), (.fieldAddr 4 (.t 1)), none⟩,
    ⟨(some 47), (.load 1 false (.t 46)), none⟩,
    ⟨(some 48), (.cvt .u8 (.t 47)), none⟩,
    ⟨(some 49), (.mv (.t 7)), none⟩,
    ⟨(some 50), (.mkSl true 2 1 [(.s (.int .u8 0)), (.s (.int .u8 0))] [(0, 1, (.t 48)), (1, 1, (.t 49))]), none⟩,
    ⟨(some 51), (.mv (.t 6)), none⟩,
    ⟨(some 52), (.fieldAddr 7 (.t 1)), none⟩,
    ⟨(some 53), (.load 1 false (.t 52)), none⟩,
    ⟨(some 54), (.call 37 [(.t 53)]), none⟩,
    ⟨(some 55), (.mkSl false 5 1 [(.s (.slice none 0 0)), (.s (.slice none 0 0)), (.s (.slice none 0 0)), (.s (.slice none 0 0)), (.s (.slice none 0 0))] [(0, 1, (.t 44)), (1, 1, (.t 45)), (2, 1, (.t 50)), (3, 1, (.t 51)), (4, 1, (.t 54))]), none⟩,
    ⟨(some 56), (.call 36 [(.t 55)]), none⟩,
    ⟨(some 4), (.mv (.t 56)), none⟩] (some [0, 0, 0, 4, 12, 0, 60, 0, 0, 256, 768, 2047, 4095, 8191]) [4]))) (.seq (.region [⟨(some 58), (.bin .eql (.t 31) (.c (.p (.s (.int .i64 4))))), none⟩,
    ⟨(some 57), (.mv (.t 58)), none⟩] none [1, 4, 5, 6, 31, 57])
  (.cond (.t 57) (.region [⟨(some 59), (.mv (.t 4)), none⟩,
    ⟨(some 60), (.mv (.t 5)), none⟩,
    ⟨(some 61), (.fieldAddr 4 (.t 1)), none⟩,
    ⟨(some 62), (.load 1 false (.t 61)), none⟩,
    ⟨(some 63), (.cvt .u8 (.t 62)), none⟩,
    ⟨(some 64), (.mkSl true 1 1 [(.s (.int .u8 0))] [(0, 1, (.t 63))]), none⟩,
    ⟨(some 65), (.mkSl false 3 1 [(.s (.slice none 0 0)), (.s (.slice none 0 0)), (.s (.slice none 0 0))] [(0, 1, (.t 59)), (1, 1, (.t 60)), (2, 1, (.t 64))]), none⟩,
    ⟨(some 66), (.call 36 [(.t 65)]), none⟩,
    ⟨(some 4), (.mv (.t 66)), none⟩] none [4]) (.seq (.region [⟨(some 68), (.bin .eql (.t 31) (.c (.p (.s (.int .i64 6))))), none⟩,
    ⟨(some 67), (.mv (.t 68)), none⟩] none [1, 4, 6, 31, 67])
  (.cond (.t 67) (.region [⟨(some 69), (.mv (.t 4)), none⟩,
    ⟨(some 70), (.fieldAddr 8 (.t 1)), none⟩,
    ⟨(some 71), (.load 4 true (.t 70)), none⟩,
    ⟨(some 72), (.call 38 [(.t 71)]), none⟩,
    ⟨(some 73), (.mv (.t 6)), none⟩,
    ⟨(some 74), (.fieldAddr 7 (.t 1)), none⟩,
    ⟨(some 75), (.load 1 false (.t 74)), none⟩,
    ⟨(some 76), (.call 37 [(.t 75)]), none⟩,
    ⟨(some 77), (.mkSl false 4 1 [(.s (.slice none 0 0)), (.s (.slice none 0 0)), (.s (.slice none 0 0)), (.s (.slice none 0 0))] [(0, 1, (.t 69)), (1, 1, (.t 72)), (2, 1, (.t 73)), (3, 1, (.t 76))]), none⟩,
    ⟨(some 78), (.call 36 [(.t 77)]), none⟩,
    ⟨(some 4), (.mv (.t 78)), none⟩] (some [0, 0, 2, 6, 0, 0, 32, 110, 255, 511, 1023]) [4]) (.seq (.region [⟨(some 80), (.bin .eql (.t 31) (.c (.p (.s (.int .i64 7))))), none⟩,
    ⟨(some 79), (.mv (.t 80)), none⟩] none [1, 4, 79])
  (.cond (.t 79) (.region [⟨(some 81), (.mv (.t 4)), none⟩,
    ⟨(some 82), (.fieldAddr 12 (.t 1)), none⟩,
    ⟨(some 83), (.load 1 false (.t 82)), none⟩,
    ⟨(some 84), (.call 32 [(.t 83)]), none⟩,
    ⟨(some 85), (.mkSl false 2 1 [(.s (.slice none 0 0)), (.s (.slice none 0 0))] [(0, 1, (.t 81)), (1, 1, (.t 84))]), none⟩,
    ⟨(some 86), (.call 36 [(.t 85)]), none⟩,
    ⟨(some 4), (.mv (.t 86)), none⟩] none [4]) .skip))))))))))))
  (.seq (.seq (.region [⟨(some 87), (.mv (.t 4)), none⟩,
    ⟨(some 88), (.len false (.t 87)), none⟩,
    ⟨(some 89), (.bin .gtr (.t 88) (.c (.p (.s (.int .i64 1048576))))), none⟩] none [4, 89])
  (.cond (.t 89) (.seq (.region [⟨(some 2), (.mv (.c (.p (.s (.slice none 0 0))))), none⟩,
    ⟨(some 3), (.mv (.c (.p (.s (.int .i64 9))))), none⟩] none [2, 3])
  .ret) .skip))
  (.seq (.region [⟨(some 90), (.mv (.t 4)), none⟩,
    ⟨(some 91), (.call 17 [(.t 90)]), none⟩,
    ⟨(some 2), (.mv (.t 91)), none⟩,
    ⟨(some 3), (.mv (.c (.p (.s (.int .i64 0))))), none⟩] none [2, 3])
  .ret)))))))), [(2, none), (3, none)], false⟩
/-- kinfolk/kinfolkref06.Same -/
def ir11_0 : IRC := (.seq (.region [⟨(some 14), (.bin .lss (.t 13) (.t 12)), none⟩] none [0, 1, 12, 13, 14])
  (.seq (.cond (.t 14) .skip (.exit 0))
  (.seq (.block 1 (.seq (.region [⟨(some 15), (.mv (.t 13)), none⟩,
    ⟨(some 5), (.mv (.t 15)), none⟩] none [0, 1, 5, 12, 13])
  (.seq (.region [⟨(some 16), (.mv (.t 0)), none⟩,
    ⟨(some 17), (.mv (.t 5)), none⟩,
    ⟨(some 18), (.idxASl 1 (.t 16) (.t 17)), none⟩,
    ⟨(some 19), (.load 1 false (.t 18)), none⟩,
    ⟨(some 20), (.mv (.t 1)), none⟩,
    ⟨(some 21), (.mv (.t 5)), none⟩,
    ⟨(some 22), (.idxASl 1 (.t 20) (.t 21)), none⟩,
    ⟨(some 23), (.load 1 false (.t 22)), none⟩,
    ⟨(some 24), (.bin .neq (.t 19) (.t 23)), none⟩] (some [0, 0, 3, 7, 0, 0, 48, 112, 255]) [0, 1, 12, 13, 24])
  (.cond (.t 24) (.seq (.region [⟨(some 4), (.mv (.c (.p (.s (.bool false))))), none⟩] none [4])
  .ret) .skip))))
  (.region [⟨(some 25), (.bin .add (.t 13) (.c (.p (.s (.int .i64 1))))), none⟩,
    ⟨(some 13), (.mv (.t 25)), none⟩] none [0, 1, 12, 13]))))
def ir11 : IRF := ⟨[0, 1], (.seq (.region [⟨(some 4), (.mv (.c (.p (.s (.bool false))))), none⟩] none [0, 1])
  (.seq (.seq (.region [⟨(some 6), (.mv (.t 0)), none⟩,
    ⟨(some 7), (.len false (.t 6)), none⟩,
    ⟨(some 8), (.mv (.t 1)), none⟩,
    ⟨(some 9), (.len false (.t 8)), none⟩,
    ⟨(some 10), (.bin .neq (.t 7) (.t 9)), none⟩] none [0, 1, 10])
  (.cond (.t 10) (.seq (.region [⟨(some 4), (.mv (.c (.p (.s (.bool false))))), none⟩] none [4])
  .ret) .skip))
  (.seq (.seq (.region [⟨(some 11), (.mv (.t 0)), none⟩,
    ⟨(some 12), (.len false (.t 11)), none⟩,
    ⟨(some 13), (.mv (.c (.p (.s (.int .i64 0))))), none⟩] none [0, 1, 12, 13])
  (.block 0 (.loop ir11_0)))
  (.seq (.region [⟨(some 4), (.mv (.c (.p (.s (.bool true))))), none⟩] none [4])
  .ret)))), [(4, none)], false⟩
/-- (kinfolk/note.Note).Right -/
def ir12 : IRF := ⟨[0], (.seq (.region [⟨(some 1), (.box true (.t 0)), none⟩,
    ⟨(some 2), (.mv (.c (.p (.s (.bool false))))), none⟩] none [1])
  (.seq (.block 0 (.seq (.region [⟨(some 4), (.fieldAddr 0 (.t 1)), none⟩,
    ⟨(some 5), (.load 1 false (.t 4)), none⟩,
    ⟨(some 6), (.call 25 [(.t 5)]), none⟩,
    ⟨(some 7), (.bin .lss (.t 6) (.c (.p (.s (.int .i64 0))))), none⟩,
    ⟨(some 8), (.mv (.t 7)), none⟩,
    ⟨(some 9), (.fieldAddr 1 (.t 1)), (some (8, false))⟩,
    ⟨(some 10), (.load 1 false (.t 9)), (some (8, false))⟩,
    ⟨(some 11), (.call 39 [(.t 10)]), (some (8, false))⟩,
    ⟨(some 12), (.un .not (.t 11)), (some (8, false))⟩,
    ⟨(some 13), (.pick (.t 8) (.c (.p (.s (.bool true)))) (.t 12)), none⟩,
    ⟨(some 14), (.mv (.t 13)), none⟩,
    ⟨(some 15), (.fieldAddr 2 (.t 1)), (some (14, false))⟩,
    ⟨(some 16), (.load 1 false (.t 15)), (some (14, false))⟩,
    ⟨(some 17), (.call 39 [(.t 16)]), (some (14, false))⟩,
    ⟨(some 18), (.un .not (.t 17)), (some (14, false))⟩,
    ⟨(some 19), (.pick (.t 14) (.c (.p (.s (.bool true)))) (.t 18)), none⟩,
    ⟨(some 20), (.mv (.t 19)), none⟩,
    ⟨(some 21), (.fieldAddr 1 (.t 1)), (some (20, false))⟩,
    ⟨(some 22), (.load 1 false (.t 21)), (some (20, false))⟩,
    ⟨(some 23), (.fieldAddr 2 (.t 1)), (some (20, false))⟩,
    ⟨(some 24), (.load 1 false (.t 23)), (some (20, false))⟩,
    ⟨(some 25), (.bin .eql (.t 22) (.t 24)), (some (20, false))⟩,
    ⟨(some 26), (.pick (.t 20) (.c (.p (.s (.bool true)))) (.t 25)), none⟩,
    ⟨(some 3), (.mv (.t 26)), none⟩] none [1, 3])
  (.cond (.t 3) (.seq (.region [⟨(some 2), (.mv (.c (.p (.s (.bool false))))), none⟩] none [2])
  .ret) (.seq (.region [⟨(some 28), (.load 15 true (.t 1)), none⟩,
    ⟨(some 29), (.call 40 [(.t 28)]), none⟩,
    ⟨(some 30), (.un .not (.t 29)), none⟩,
    ⟨(some 31), (.mv (.t 30)), none⟩,
    ⟨(some 32), (.fieldAddr 4 (.t 1)), (some (31, false))⟩,
    ⟨(some 33), (.load 1 false (.t 32)), (some (31, false))⟩,
    ⟨(some 34), (.bin .lss (.t 33) (.c (.p (.s (.int .i64 0))))), (some (31, false))⟩,
    ⟨(some 35), (.pick (.t 31) (.c (.p (.s (.bool true)))) (.t 34)), none⟩,
    ⟨(some 36), (.mv (.t 35)), none⟩,
    ⟨(some 37), (.fieldAddr 4 (.t 1)), (some (36, false))⟩,
    ⟨(some 38), (.load 1 false (.t 37)), (some (36, false))⟩,
    ⟨(some 39), (.bin .geq (.t 38) (.c (.p (.s (.int .i64 256))))), (some (36, false))⟩,
    ⟨(some 40), (.pick (.t 36) (.c (.p (.s (.bool true)))) (.t 39)), none⟩,
    ⟨(some 41), (.mv (.t 40)), none⟩,
    ⟨(some 42), (.load 15 true (.t 1)), (some (41, false))⟩,
    ⟨(some 43), (.call 41 [(.t 42)]), (some (41, false))⟩,
    ⟨(some 44), (.un .not (.t 43)), (some (41, false))⟩,
    ⟨(some 45), (.pick (.t 41) (.c (.p (.s (.bool true)))) (.t 44)), none⟩,
    ⟨(some 27), (.mv (.t 45)), none⟩] none [1, 27])
  (.cond (.t 27) (.seq (.region [⟨(some 2), (.mv (.c (.p (.s (.bool false))))), none⟩] none [2])
  .ret) (.seq (.region [⟨(some 47), (.fieldAddr 0 (.t 1)), none⟩,
    ⟨(some 48), (.load 1 false (.t 47)), none⟩,
    ⟨(some 49), (.bin .eql (.t 48) (.c (.p (.s (.int .i64 3))))), none⟩,
    ⟨(some 46), (.mv (.t 49)), none⟩] none [1, 46])
  (.cond (.t 46) (.seq (.region [⟨(some 50), (.fieldAddr 8 (.t 1)), none⟩,
    ⟨(some 51), (.load 1 false (.t 50)), none⟩,
    ⟨(some 52), (.len false (.t 51)), none⟩,
    ⟨(some 53), (.bin .leq (.t 52) (.c (.p (.s (.int .i64 4))))), none⟩,
    ⟨(some 2), (.mv (.t 53)), none⟩] none [2])
  .ret) (.seq (.region [⟨(some 55), (.fieldAddr 0 (.t 1)), none⟩,
    ⟨(some 56), (.load 1 false (.t 55)), none⟩,
    ⟨(some 57), (.bin .eql (.t 56) (.c (.p (.s (.int .i64 6))))), none⟩,
    ⟨(some 54), (.mv (.t 57)), none⟩] none [1, 54])
  (.cond (.t 54) (.seq (.region [⟨(some 58), (.fieldAddr 9 (.t 1)), none⟩,
    ⟨(some 59), (.load 5 true (.t 58)), none⟩,
    ⟨(some 60), (.call 42 [(.t 59)]), none⟩,
    ⟨(some 61), (.mv (.t 60)), none⟩,
    ⟨(some 62), (.fieldAddr 9 (.t 1)), (some (61, true))⟩,
    ⟨(some 63), (.fieldAddr 1 (.t 62)), (some (61, true))⟩,
    ⟨(some 64), (.load 1 false (.t 63)), (some (61, true))⟩,
    ⟨(some 65), (.fieldAddr 1 (.t 1)), (some (61, true))⟩,
    ⟨(some 66), (.load 1 false (.t 65)), (some (61, true))⟩,
    ⟨(some 67), (.bin .eql (.t 64) (.t 66)), (some (61, true))⟩,
    ⟨(some 68), (.pick (.t 61) (.t 67) (.c (.p (.s (.bool false))))), none⟩,
    ⟨(some 69), (.mv (.t 68)), none⟩,
    ⟨(some 70), (.fieldAddr 9 (.t 1)), (some (69, true))⟩,
    ⟨(some 71), (.fieldAddr 2 (.t 70)), (some (69, true))⟩,
    ⟨(some 72), (.load 1 false (.t 71)), (some (69, true))⟩,
    ⟨(some 73), (.fieldAddr 2 (.t 1)), (some (69, true))⟩,
    ⟨(some 74), (.load 1 false (.t 73)), (some (69, true))⟩,
    ⟨(some 75), (.bin .eql (.t 72) (.t 74)), (some (69, true))⟩,
    ⟨(some 76), (.pick (.t 69) (.t 75) (.c (.p (.s (.bool false))))), none⟩,
    ⟨(some 2), (.mv (.t 76)), none⟩] none [2])
  .ret) .skip)))))))))
  (.seq (.region [⟨(some 2), (.mv (.c (.p (.s (.bool true))))), none⟩] none [2])
  .ret))), [(2, none)], false⟩
/-- kinfolk/kinfolkref17.Right -/
def ir13_0 : IRC := (.seq (.tidy [1, 3, 181, 182, 183] [])
  (.seq (.region [⟨(some 184), (.bin .lss (.t 183) (.t 182)), none⟩] none [1, 3, 181, 182, 183, 184])
  (.seq (.cond (.t 184) .skip (.exit 0))
  (.seq (.block 1 (.seq (.seq (.region [⟨(some 185), (.idxASl 4 (.t 181) (.t 183)), none⟩,
    ⟨(some 186), (.load 4 true (.t 185)), none⟩,
    ⟨(some 6), (.alloc false [(.s (.int .u32 0)), (.s (.pointer none)), (.s (.slice none 0 0)), (.s (.bool false))]), none⟩,
    ⟨none, (.store 4 (.t 6) (.t 186)), none⟩] none [1, 3, 6, 181, 182, 183])
  (.tidy [1, 3, 181, 182, 183] [6]))
  (.seq (.region [⟨(some 187), (.fieldAddr 1 (.t 6)), none⟩,
    ⟨(some 188), (.fieldAddr 2 (.t 187)), none⟩,
    ⟨(some 189), (.load 1 false (.t 188)), none⟩,
    ⟨(some 190), (.mv (.t 189)), none⟩,
    ⟨(some 191), (.fieldAddr 1 (.t 6)), (some (190, true))⟩,
    ⟨(some 192), (.fieldAddr 1 (.t 191)), (some (190, true))⟩,
    ⟨(some 193), (.load 1 false (.t 192)), (some (190, true))⟩,
    ⟨(some 194), (.len false (.t 193)), (some (190, true))⟩,
    ⟨(some 195), (.bin .gtr (.t 194) (.c (.p (.s (.int .i64 0))))), (some (190, true))⟩,
    ⟨(some 196), (.pick (.t 190) (.t 195) (.c (.p (.s (.bool false))))), none⟩,
    ⟨(some 197), (.mv (.t 196)), none⟩,
    ⟨(some 198), (.fieldAddr 1 (.t 6)), (some (197, false))⟩,
    ⟨(some 199), (.fieldAddr 0 (.t 198)), (some (197, false))⟩,
    ⟨(some 200), (.load 1 false (.t 199)), (some (197, false))⟩,
    ⟨(some 201), (.fieldAddr 6 (.t 1)), (some (197, false))⟩,
    ⟨(some 202), (.load 1 false (.t 201)), (some (197, false))⟩,
    ⟨(some 203), (.call 44 [(.t 200), (.t 202)]), (some (197, false))⟩,
    ⟨(some 204), (.un .not (.t 203)), (some (197, false))⟩,
    ⟨(some 205), (.pick (.t 197) (.c (.p (.s (.bool true)))) (.t 204)), none⟩] none [1, 3, 181, 182, 183, 205])
  (.cond (.t 205) (.seq (.region [⟨(some 2), (.mv (.c (.p (.s (.bool false))))), none⟩] none [2])
  .ret) .skip))))
  (.region [⟨(some 206), (.bin .add (.t 183) (.c (.p (.s (.int .i64 1))))), none⟩,
    ⟨(some 183), (.mv (.t 206)), none⟩] none [1, 3, 181, 182, 183])))))
def ir13 : IRF := ⟨[0], (.seq (.region [⟨(some 1), (.box true (.t 0)), none⟩,
    ⟨(some 2), (.mv (.c (.p (.s (.bool false))))), none⟩] none [1])
  (.seq (.seq (.region [⟨(some 7), (.fieldAddr 0 (.t 1)), none⟩,
    ⟨(some 8), (.load 1 false (.t 7)), none⟩,
    ⟨(some 9), (.bin .lss (.t 8) (.c (.p (.s (.int .i64 1))))), none⟩,
    ⟨(some 10), (.mv (.t 9)), none⟩,
    ⟨(some 11), (.fieldAddr 0 (.t 1)), (some (10, false))⟩,
    ⟨(some 12), (.load 1 false (.t 11)), (some (10, false))⟩,
    ⟨(some 13), (.bin .gtr (.t 12) (.c (.p (.s (.int .i64 7))))), (some (10, false))⟩,
    ⟨(some 14), (.pick (.t 10) (.c (.p (.s (.bool true)))) (.t 13)), none⟩,
    ⟨(some 15), (.mv (.t 14)), none⟩,
    ⟨(some 16), (.fieldAddr 1 (.t 1)), (some (15, false))⟩,
    ⟨(some 17), (.load 1 false (.t 16)), (some (15, false))⟩,
    ⟨(some 18), (.bin .lss (.t 17) (.c (.p (.s (.int .i64 0))))), (some (15, false))⟩,
    ⟨(some 19), (.pick (.t 15) (.c (.p (.s (.bool true)))) (.t 18)), none⟩,
    ⟨(some 20), (.mv (.t 19)), none⟩,
    ⟨(some 21), (.fieldAddr 1 (.t 1)), (some (20, false))⟩,
    ⟨(some 22), (.load 1 false (.t 21)), (some (20, false))⟩,
    ⟨(some 23), (.bin .gtr (.t 22) (.c (.p (.s (.int .i64 11))))), (some (20, false))⟩,
    ⟨(some 24), (.pick (.t 20) (.c (.p (.s (.bool true)))) (.t 23)), none⟩,
    ⟨(some 25), (.mv (.t 24)), none⟩,
    ⟨(some 26), (.fieldAddr 2 (.t 1)), (some (25, false))⟩,
    ⟨(some 27), (.load 1 false (.t 26)), (some (25, false))⟩,
    ⟨(some 28), (.bin .lss (.t 27) (.c (.p (.s (.int .i64 0))))), (some (25, false))⟩,
    ⟨(some 29), (.pick (.t 25) (.c (.p (.s (.bool true)))) (.t 28)), none⟩,
    ⟨(some 30), (.mv (.t 29)), none⟩,
    ⟨(some 31), (.fieldAddr 2 (.t 1)), (some (30, false))⟩,
    ⟨(some 32), (.load 1 false (.t 31)), (some (30, false))⟩,
    ⟨(some 33), (.bin .gtr (.t 32) (.c (.p (.s (.int .i64 11))))), (some (30, false))⟩,
    ⟨(some 34), (.pick (.t 30) (.c (.p (.s (.bool true)))) (.t 33)), none⟩,
    ⟨(some 35), (.mv (.t 34)), none⟩,
    ⟨(some 36), (.fieldAddr 1 (.t 1)), (some (35, false))⟩,
    ⟨(some 37), (.load 1 false (.t 36)), (some (35, false))⟩,
    ⟨(some 38), (.fieldAddr 2 (.t 1)), (some (35, false))⟩,
    ⟨(some 39), (.load 1 false (.t 38)), (some (35, false))⟩,
    ⟨(some 40), (.bin .eql (.t 37) (.t 39)), (some (35, false))⟩,
    ⟨(some 41), (.pick (.t 35) (.c (.p (.s (.bool true)))) (.t 40)), none⟩,
    ⟨(some 42), (.mv (.t 41)), none⟩,
    ⟨(some 43), (.fieldAddr 4 (.t 1)), (some (42, false))⟩,
    ⟨(some 44), (.load 1 false (.t 43)), (some (42, false))⟩,
    ⟨(some 45), (.bin .lss (.t 44) (.c (.p (.s (.int .i64 0))))), (some (42, false))⟩,
    ⟨(some 46), (.pick (.t 42) (.c (.p (.s (.bool true)))) (.t 45)), none⟩,
    ⟨(some 47), (.mv (.t 46)), none⟩,
    ⟨(some 48), (.fieldAddr 4 (.t 1)), (some (47, false))⟩,
    ⟨(some 49), (.load 1 false (.t 48)), (some (47, false))⟩,
    ⟨(some 50), (.bin .gtr (.t 49) (.c (.p (.s (.int .i64 255))))), (some (47, false))⟩,
    ⟨(some 51), (.pick (.t 47) (.c (.p (.s (.bool true)))) (.t 50)), none⟩] none [1, 51])
  (.cond (.t 51) (.seq (.region [⟨(some 2), (.mv (.c (.p (.s (.bool false))))), none⟩] none [2])
  .ret) .skip))
  (.seq (.region [⟨(some 52), (.fieldAddr 0 (.t 1)), none⟩,
    ⟨(some 53), (.load 1 false (.t 52)), none⟩,
    ⟨(some 3), (.mv (.t 53)), none⟩] none [1, 3])
  (.seq (.seq (.region [⟨(some 54), (.fieldAddr 3 (.t 1)), none⟩,
    ⟨(some 55), (.load 1 false (.t 54)), none⟩,
    ⟨(some 56), (.bin .neq (.t 55) (.c (.p (.s (.int .u64 0))))), none⟩,
    ⟨(some 57), (.mv (.t 56)), none⟩,
    ⟨(some 58), (.mv (.t 3)), (some (57, true))⟩,
    ⟨(some 59), (.bin .gtr (.t 58) (.c (.p (.s (.int .i64 4))))), (some (57, true))⟩,
    ⟨(some 60), (.pick (.t 57) (.t 59) (.c (.p (.s (.bool false))))), none⟩,
    ⟨(some 61), (.mv (.t 60)), none⟩,
    ⟨(some 62), (.fieldAddr 4 (.t 1)), (some (61, false))⟩,
    ⟨(some 63), (.load 1 false (.t 62)), (some (61, false))⟩,
    ⟨(some 64), (.bin .neq (.t 63) (.c (.p (.s (.int .i64 0))))), (some (61, false))⟩,
    ⟨(some 65), (.mv (.t 64)), (some (61, false))⟩,
    ⟨(some 66), (.mv (.t 3)), (some (65, true))⟩,
    ⟨(some 67), (.bin .neq (.t 66) (.c (.p (.s (.int .i64 3))))), (some (65, true))⟩,
    ⟨(some 68), (.pick (.t 65) (.t 67) (.c (.p (.s (.bool false))))), (some (61, false))⟩,
    ⟨(some 69), (.mv (.t 68)), (some (61, false))⟩,
    ⟨(some 70), (.mv (.t 3)), (some (69, true))⟩,
    ⟨(some 71), (.bin .neq (.t 70) (.c (.p (.s (.int .i64 4))))), (some (69, true))⟩,
    ⟨(some 72), (.pick (.t 69) (.t 71) (.c (.p (.s (.bool false))))), (some (61, false))⟩,
    ⟨(some 73), (.pick (.t 61) (.c (.p (.s (.bool true)))) (.t 72)), none⟩,
    ⟨(some 74), (.mv (.t 73)), none⟩,
    ⟨(some 75), (.fieldAddr 5 (.t 1)), (some (74, false))⟩,
    ⟨(some 76), (.load 1 false (.t 75)), (some (74, false))⟩,
    ⟨(some 77), (.mv (.t 76)), (some (74, false))⟩,
    ⟨(some 78), (.mv (.t 3)), (some (77, true))⟩,
    ⟨(some 79), (.bin .neq (.t 78) (.c (.p (.s (.int .i64 3))))), (some (77, true))⟩,
    ⟨(some 80), (.pick (.t 77) (.t 79) (.c (.p (.s (.bool false))))), (some (74, false))⟩,
    ⟨(some 81), (.pick (.t 74) (.c (.p (.s (.bool true)))) (.t 80)), none⟩,
    ⟨(some 82), (.mv (.t 81)), none⟩,
    ⟨(some 83), (.fieldAddr 12 (.t 1)), (some (82, false))⟩,
    ⟨(some 84), (.load 1 false (.t 83)), (some (82, false))⟩,
    ⟨(some 85), (.bin .neq (.t 84) (.c (.p (.s (.int .u64 0))))), (some (82, false))⟩,
    ⟨(some 86), (.mv (.t 85)), (some (82, false))⟩,
    ⟨(some 87), (.mv (.t 3)), (some (86, true))⟩,
    ⟨(some 88), (.bin .neq (.t 87) (.c (.p (.s (.int .i64 7))))), (some (86, true))⟩,
    ⟨(some 89), (.pick (.t 86) (.t 88) (.c (.p (.s (.bool false))))), (some (82, false))⟩,
    ⟨(some 90), (.pick (.t 82) (.c (.p (.s (.bool true)))) (.t 89)), none⟩] none [1, 3, 90])
  (.cond (.t 90) (.seq (.region [⟨(some 2), (.mv (.c (.p (.s (.bool false))))), none⟩] none [2])
  .ret) .skip))
  (.seq (.region [⟨(some 91), (.fieldAddr 6 (.t 1)), none⟩,
    ⟨(some 92), (.load 1 false (.t 91)), none⟩,
    ⟨(some 93), (.nilCk (.t 92)), none⟩,
    ⟨(some 94), (.fieldAddr 1 (.t 93)), none⟩,
    ⟨(some 95), (.load 1 false (.t 94)), none⟩,
    ⟨(some 96), (.eq false .ptr (.t 95) (.c (.p (.s (.pointer none))))), none⟩,
    ⟨(some 97), (.mv (.t 96)), none⟩,
    ⟨(some 98), (.fieldAddr 6 (.t 1)), (some (97, true))⟩,
    ⟨(some 99), (.load 1 false (.t 98)), (some (97, true))⟩,
    ⟨(some 100), (.nilCk (.t 99)), (some (97, true))⟩,
    ⟨(some 101), (.fieldAddr 0 (.t 100)), (some (97, true))⟩,
    ⟨(some 102), (.load 1 false (.t 101)), (some (97, true))⟩,
    ⟨(some 103), (.bin .eql (.t 102) (.c (.p (.s (.int .u64 0))))), (some (97, true))⟩,
    ⟨(some 104), (.pick (.t 97) (.t 103) (.c (.p (.s (.bool false))))), none⟩,
    ⟨(some 4), (.mv (.t 104)), none⟩] none [1, 3, 4])
  (.seq (.seq (.region [⟨(some 105), (.mv (.t 4)), none⟩,
    ⟨(some 106), (.un .not (.t 105)), none⟩,
    ⟨(some 107), (.mv (.t 106)), none⟩,
    ⟨(some 108), (.mv (.t 3)), (some (107, true))⟩,
    ⟨(some 109), (.bin .eql (.t 108) (.c (.p (.s (.int .i64 4))))), (some (107, true))⟩,
    ⟨(some 110), (.mv (.t 109)), (some (107, true))⟩,
    ⟨(some 111), (.mv (.t 3)), (some (110, false))⟩,
    ⟨(some 112), (.bin .eql (.t 111) (.c (.p (.s (.int .i64 5))))), (some (110, false))⟩,
    ⟨(some 113), (.pick (.t 110) (.c (.p (.s (.bool true)))) (.t 112)), (some (107, true))⟩,
    ⟨(some 114), (.mv (.t 113)), (some (107, true))⟩,
    ⟨(some 115), (.mv (.t 3)), (some (114, false))⟩,
    ⟨(some 116), (.bin .eql (.t 115) (.c (.p (.s (.int .i64 7))))), (some (114, false))⟩,
    ⟨(some 117), (.pick (.t 114) (.c (.p (.s (.bool true)))) (.t 116)), (some (107, true))⟩,
    ⟨(some 118), (.pick (.t 107) (.t 117) (.c (.p (.s (.bool false))))), none⟩,
    ⟨(some 119), (.mv (.t 118)), none⟩,
    ⟨(some 120), (.fieldAddr 7 (.t 1)), (some (119, false))⟩,
    ⟨(some 121), (.load 1 false (.t 120)), (some (119, false))⟩,
    ⟨(some 122), (.len false (.t 121)), (some (119, false))⟩,
    ⟨(some 123), (.bin .gtr (.t 122) (.c (.p (.s (.int .i64 0))))), (some (119, false))⟩,
    ⟨(some 124), (.mv (.t 123)), (some (119, false))⟩,
    ⟨(some 125), (.mv (.t 3)), (some (124, true))⟩,
    ⟨(some 126), (.bin .neq (.t 125) (.c (.p (.s (.int .i64 3))))), (some (124, true))⟩,
    ⟨(some 127), (.pick (.t 124) (.t 126) (.c (.p (.s (.bool false))))), (some (119, false))⟩,
    ⟨(some 128), (.mv (.t 127)), (some (119, false))⟩,
    ⟨(some 129), (.mv (.t 3)), (some (128, true))⟩,
    ⟨(some 130), (.bin .neq (.t 129) (.c (.p (.s (.int .i64 6))))), (some (128, true))⟩,
    ⟨(some 131), (.pick (.t 128) (.t 130) (.c (.p (.s (.bool false))))), (some (119, false))⟩,
    ⟨(some 132), (.pick (.t 119) (.c (.p (.s (.bool true)))) (.t 131)), none⟩] none [1, 3, 132])
  (.cond (.t 132) (.seq (.region [⟨(some 2), (.mv (.c (.p (.s (.bool false))))), none⟩] none [2])
  .ret) .skip))
  (.seq (.seq (.region [⟨(some 133), (.mv (.t 3)), none⟩,
    ⟨(some 134), (.bin .eql (.t 133) (.c (.p (.s (.int .i64 6))))), none⟩] none [1, 3, 134])
  (.cond (.t 134) (.seq (.region [⟨(some 135), (.fieldAddr 8 (.t 1)), none⟩,
    ⟨(some 136), (.load 4 true (.t 135)), none⟩,
    ⟨(some 137), (.call 43 [(.t 136)]), none⟩,
    ⟨(some 138), (.un .not (.t 137)), none⟩,
    ⟨(some 139), (.mv (.t 138)), none⟩,
    ⟨(some 140), (.fieldAddr 8 (.t 1)), (some (139, false))⟩,
    ⟨(some 141), (.fieldAddr 1 (.t 140)), (some (139, false))⟩,
    ⟨(some 142), (.load 1 false (.t 141)), (some (139, false))⟩,
    ⟨(some 143), (.fieldAddr 1 (.t 1)), (some (139, false))⟩,
    ⟨(some 144), (.load 1 false (.t 143)), (some (139, false))⟩,
    ⟨(some 145), (.bin .neq (.t 142) (.t 144)), (some (139, false))⟩,
    ⟨(some 146), (.pick (.t 139) (.c (.p (.s (.bool true)))) (.t 145)), none⟩,
    ⟨(some 147), (.mv (.t 146)), none⟩,
    ⟨(some 148), (.fieldAddr 8 (.t 1)), (some (147, false))⟩,
    ⟨(some 149), (.fieldAddr 2 (.t 148)), (some (147, false))⟩,
    ⟨(some 150), (.load 1 false (.t 149)), (some (147, false))⟩,
    ⟨(some 151), (.fieldAddr 2 (.t 1)), (some (147, false))⟩,
    ⟨(some 152), (.load 1 false (.t 151)), (some (147, false))⟩,
    ⟨(some 153), (.bin .neq (.t 150) (.t 152)), (some (147, false))⟩,
    ⟨(some 154), (.pick (.t 147) (.c (.p (.s (.bool true)))) (.t 153)), none⟩] none [1, 3, 154])
  (.cond (.t 154) (.seq (.region [⟨(some 2), (.mv (.c (.p (.s (.bool false))))), none⟩] none [2])
  .ret) .skip)) (.seq (.region [⟨(some 155), (.fieldAddr 8 (.t 1)), none⟩,
    ⟨(some 156), (.fieldAddr 0 (.t 155)), none⟩,
    ⟨(some 157), (.load 1 false (.t 156)), none⟩,
    ⟨(some 158), (.bin .neq (.t 157) (.c (.p (.s (.int .u64 0))))), none⟩,
    ⟨(some 159), (.mv (.t 158)), none⟩,
    ⟨(some 160), (.fieldAddr 8 (.t 1)), (some (159, false))⟩,
    ⟨(some 161), (.fieldAddr 1 (.t 160)), (some (159, false))⟩,
    ⟨(some 162), (.load 1 false (.t 161)), (some (159, false))⟩,
    ⟨(some 163), (.bin .neq (.t 162) (.c (.p (.s (.int .i64 0))))), (some (159, false))⟩,
    ⟨(some 164), (.pick (.t 159) (.c (.p (.s (.bool true)))) (.t 163)), none⟩,
    ⟨(some 165), (.mv (.t 164)), none⟩,
    ⟨(some 166), (.fieldAddr 8 (.t 1)), (some (165, false))⟩,
    ⟨(some 167), (.fieldAddr 2 (.t 166)), (some (165, false))⟩,
    ⟨(some 168), (.load 1 false (.t 167)), (some (165, false))⟩,
    ⟨(some 169), (.bin .neq (.t 168) (.c (.p (.s (.int .i64 0))))), (some (165, false))⟩,
    ⟨(some 170), (.pick (.t 165) (.c (.p (.s (.bool true)))) (.t 169)), none⟩,
    ⟨(some 171), (.mv (.t 170)), none⟩,
    ⟨(some 172), (.fieldAddr 8 (.t 1)), (some (171, false))⟩,
    ⟨(some 173), (.fieldAddr 3 (.t 172)), (some (171, false))⟩,
    ⟨(some 174), (.load 1 false (.t 173)), (some (171, false))⟩,
    ⟨(some 175), (.nilCk (.t 174)), (some (171, false))⟩,
    ⟨(some 176), (.fieldAddr 0 (.t 175)), (some (171, false))⟩,
    ⟨(some 177), (.load 1 false (.t 176)), (some (171, false))⟩,
    ⟨(some 178), (.bin .neq (.t 177) (.c (.p (.s (.int .i64 0))))), (some (171, false))⟩,
    ⟨(some 179), (.pick (.t 171) (.c (.p (.s (.bool true)))) (.t 178)), none⟩] none [1, 3, 179])
  (.cond (.t 179) (.seq (.region [⟨(some 2), (.mv (.c (.p (.s (.bool false))))), none⟩] none [2])
  .ret) .skip))))
  (.seq (.seq (.region [⟨(some 180), (.fieldAddr 7 (.t 1)), none⟩,
    ⟨(some 181), (.load 1 false (.t 180)), none⟩,
    ⟨(some 182), (.len false (.t 181)), none⟩,
    ⟨(some 183), (.mv (.c (.p (.s (.int .i64 0))))), none⟩] none [1, 3, 181, 182, 183])
  (.block 0 (.loop ir13_0)))
  (.seq (.region [⟨(some 207), (.mv (.t 3)), none⟩,
    ⟨(some 208), (.bin .neq (.t 207) (.c (.p (.s (.int .i64 3))))), none⟩,
    ⟨(some 209), (.mv (.t 208)), none⟩,
    ⟨(some 210), (.fieldAddr 7 (.t 1)), (some (209, false))⟩,
    ⟨(some 211), (.load 1 false (.t 210)), (some (209, false))⟩,
    ⟨(some 212), (.len false (.t 211)), (some (209, false))⟩,
    ⟨(some 213), (.bin .leq (.t 212) (.c (.p (.s (.int .i64 4))))), (some (209, false))⟩,
    ⟨(some 214), (.pick (.t 209) (.c (.p (.s (.bool true)))) (.t 213)), none⟩,
    ⟨(some 2), (.mv (.t 214)), none⟩] none [2])
  .ret))))))))), [(2, none)], false⟩
/-- kinfolk/kinfolkref06.Frame -/
def ir17 : IRF := ⟨[0], (.seq (.region [⟨(some 2), (.mv (.c (.p (.s (.slice none 0 0))))), none⟩] none [0])
  (.seq (.region [⟨(some 4), (.mv (.t 0)), none⟩,
    ⟨(some 5), (.len false (.t 4)), none⟩,
    ⟨(some 6), (.cvt .u32 (.t 5)), none⟩,
    ⟨(some 7), (.call 57 [(.t 6)]), none⟩,
    ⟨(some 3), (.mv (.t 7)), none⟩] none [0, 3])
  (.seq (.region [⟨(some 8), (.mv (.t 3)), none⟩,
    ⟨(some 9), (.mv (.t 3)), none⟩,
    ⟨(some 10), (.mv (.t 0)), none⟩,
    ⟨(some 11), (.mkSl false 2 1 [(.s (.slice none 0 0)), (.s (.slice none 0 0))] [(0, 1, (.t 9)), (1, 1, (.t 10))]), none⟩,
    ⟨(some 12), (.call 36 [(.t 11)]), none⟩,
    ⟨(some 13), (.call 58 [(.t 12)]), none⟩,
    ⟨(some 14), (.call 57 [(.t 13)]), none⟩,
    ⟨(some 15), (.mv (.t 0)), none⟩,
    ⟨(some 16), (.mkSl false 3 1 [(.s (.slice none 0 0)), (.s (.slice none 0 0)), (.s (.slice none 0 0))] [(0, 1, (.t 8)), (1, 1, (.t 14)), (2, 1, (.t 15))]), none⟩,
    ⟨(some 17), (.call 36 [(.t 16)]), none⟩,
    ⟨(some 2), (.mv (.t 17)), none⟩] none [2])
  .ret))), [(2, none)], false⟩
/-- kinfolk/kinfolkref17.New -/
def ir18 : IRF := ⟨[0, 1, 2], (.seq (.region [⟨(some 6), (.alloc false [(.s (.int .i64 0)), (.s (.int .i64 0)), (.s (.int .i64 0)), (.s (.int .u64 0)), (.s (.int .i64 0)), (.s (.bool false)), (.s (.pointer none)), (.s (.slice none 0 0)), (.s (.int .u64 0)), (.s (.int .i64 0)), (.s (.int .i64 0)), (.s (.pointer none)), (.s (.int .u64 0)), (.s (.slice none 0 0))]), none⟩] none [0, 1, 2, 6])
  (.seq (.region [⟨(some 7), (.mv (.t 0)), none⟩,
    ⟨(some 8), (.mv (.t 1)), none⟩,
    ⟨(some 9), (.mv (.t 2)), none⟩,
    ⟨(some 10), (.call 59 [(.c (.p (.s (.int .u64 0))))]), none⟩,
    ⟨(some 11), (.call 60 []), none⟩,
    ⟨(some 12), (.build [(.s (.int .u64 0)), (.s (.int .i64 0)), (.s (.int .i64 0)), (.s (.pointer none))] [(3, 1, (.t 11))]), none⟩,
    ⟨(some 13), (.build [(.s (.int .i64 0)), (.s (.int .i64 0)), (.s (.int .i64 0)), (.s (.int .u64 0)), (.s (.int .i64 0)), (.s (.bool false)), (.s (.pointer none)), (.s (.slice none 0 0)), (.s (.int .u64 0)), (.s (.int .i64 0)), (.s (.int .i64 0)), (.s (.pointer none)), (.s (.int .u64 0)), (.s (.slice none 0 0))] [(0, 1, (.t 7)), (1, 1, (.t 8)), (2, 1, (.t 9)), (6, 1, (.t 10)), (8, 4, (.t 12))]), none⟩,
    ⟨none, (.store 14 (.t 6) (.t 13)), none⟩] none [6])
  .ret)), [(6, some (14, true))], false⟩
/-- kinfolk/kinfolkref02.Make -/
def ir19 : IRF := ⟨[0, 1], (.seq (.region [⟨(some 4), (.mv (.c (.p (.s (.pointer none))))), none⟩,
    ⟨(some 5), (.mv (.c (.p (.s (.slice none 0 0))))), none⟩] none [0, 1])
  (.seq (.seq (.region [⟨(some 9), (.mv (.t 0)), none⟩,
    ⟨(some 10), (.len false (.t 9)), none⟩,
    ⟨(some 11), (.bin .eql (.t 10) (.c (.p (.s (.int .i64 0))))), none⟩] none [0, 1, 11])
  (.cond (.t 11) (.seq (.region [⟨(some 12), (.call 59 [(.c (.p (.s (.int .u64 0))))]), none⟩,
    ⟨(some 4), (.mv (.t 12)), none⟩,
    ⟨(some 5), (.mv (.c (.p (.s (.slice none 0 0))))), none⟩] none [4, 5])
  .ret) .skip))
  (.seq (.region [⟨(some 13), (.mv (.t 0)), none⟩,
    ⟨(some 14), (.idxASl 1 (.t 13) (.c (.p (.s (.int .i64 0))))), none⟩,
    ⟨(some 15), (.load 1 false (.t 14)), none⟩,
    ⟨(some 6), (.mv (.t 15)), none⟩] none [0, 1, 6])
  (.seq (.region [⟨(some 16), (.mv (.t 0)), none⟩,
    ⟨(some 17), (.slSl 1 (.t 16) (some (.c (.p (.s (.int .i64 1))))) none none), none⟩,
    ⟨(some 0), (.mv (.t 17)), none⟩] none [0, 1, 6])
  (.seq (.seq (.region [⟨(some 18), (.mv (.t 1)), none⟩,
    ⟨(some 19), (.bin .eql (.t 18) (.c (.p (.s (.int .i64 0))))), none⟩,
    ⟨(some 20), (.mv (.t 19)), none⟩,
    ⟨(some 21), (.mv (.t 6)), (some (20, false))⟩,
    ⟨(some 22), (.bin .rem (.t 21) (.c (.p (.s (.int .u8 4))))), (some (20, false))⟩,
    ⟨(some 23), (.bin .lss (.t 22) (.c (.p (.s (.int .u8 2))))), (some (20, false))⟩,
    ⟨(some 24), (.pick (.t 20) (.c (.p (.s (.bool true)))) (.t 23)), none⟩] none [0, 1, 6, 24])
  (.cond (.t 24) (.seq (.region [⟨(some 25), (.mv (.t 6)), none⟩,
    ⟨(some 26), (.bin .quo (.t 25) (.c (.p (.s (.int .u8 4))))), none⟩,
    ⟨(some 27), (.bin .rem (.t 26) (.c (.p (.s (.int .u8 8))))), none⟩,
    ⟨(some 28), (.cvt .u64 (.t 27)), none⟩,
    ⟨(some 29), (.call 59 [(.t 28)]), none⟩,
    ⟨(some 30), (.mv (.t 0)), none⟩,
    ⟨(some 4), (.mv (.t 29)), none⟩,
    ⟨(some 5), (.mv (.t 30)), none⟩] none [4, 5])
  .ret) .skip))
  (.seq (.region [⟨(some 32), (.mv (.t 0)), none⟩,
    ⟨(some 33), (.mv (.t 1)), none⟩,
    ⟨(some 34), (.bin .sub (.t 33) (.c (.p (.s (.int .i64 1))))), none⟩,
    ⟨(some 35), (.call 19 [(.t 32), (.t 34)]), none⟩,
    ⟨(some 31), (.mv (.t 35)), none⟩,
    ⟨(some 36), (.ext (.t 31) 0), none⟩,
    ⟨(some 37), (.ext (.t 31) 1), none⟩,
    ⟨(some 7), (.mv (.t 36)), none⟩,
    ⟨(some 0), (.mv (.t 37)), none⟩] none [0, 1, 6, 7])
  (.seq (.region [⟨(some 39), (.mv (.t 0)), none⟩,
    ⟨(some 40), (.mv (.t 1)), none⟩,
    ⟨(some 41), (.bin .sub (.t 40) (.c (.p (.s (.int .i64 1))))), none⟩,
    ⟨(some 42), (.call 19 [(.t 39), (.t 41)]), none⟩,
    ⟨(some 38), (.mv (.t 42)), none⟩,
    ⟨(some 43), (.ext (.t 38) 0), none⟩,
    ⟨(some 44), (.ext (.t 38) 1), none⟩,
    ⟨(some 8), (.mv (.t 43)), none⟩,
    ⟨(some 0), (.mv (.t 44)), none⟩] none [0, 6, 7, 8])
  (.seq (.region [⟨(some 45), (.mv (.t 6)), none⟩,
    ⟨(some 46), (.bin .quo (.t 45) (.c (.p (.s (.int .u8 4))))), none⟩,
    ⟨(some 47), (.bin .rem (.t 46) (.c (.p (.s (.int .u8 4))))), none⟩,
    ⟨(some 48), (.cvt .u64 (.t 47)), none⟩,
    ⟨(some 49), (.mv (.t 7)), none⟩,
    ⟨(some 50), (.mv (.t 8)), none⟩,
    ⟨(some 51), (.call 61 [(.t 48), (.t 49), (.t 50)]), none⟩,
    ⟨(some 52), (.mv (.t 0)), none⟩,
    ⟨(some 4), (.mv (.t 51)), none⟩,
    ⟨(some 5), (.mv (.t 52)), none⟩] none [4, 5])
  .ret)))))))), [(4, none), (5, none)], false⟩
/-- kinfolk/kinfolklaw17.tree -/
def ir20 : IRF := ⟨[0], (.seq (.region [⟨(some 2), (.alloc false [(.s (.int .u64 0)), (.s (.pointer none))]), none⟩] none [0, 2])
  (.seq (.seq (.region [⟨(some 7), (.mv (.t 0)), none⟩,
    ⟨(some 8), (.nilCk (.t 7)), none⟩,
    ⟨(some 9), (.fieldAddr 1 (.t 8)), none⟩,
    ⟨(some 10), (.load 1 false (.t 9)), none⟩,
    ⟨(some 11), (.eq false .ptr (.t 10) (.c (.p (.s (.pointer none))))), none⟩] none [0, 2, 11])
  (.cond (.t 11) (.seq (.region [⟨(some 13), (.mv (.t 0)), none⟩,
    ⟨(some 14), (.nilCk (.t 13)), none⟩,
    ⟨(some 15), (.fieldAddr 0 (.t 14)), none⟩,
    ⟨(some 16), (.load 1 false (.t 15)), none⟩,
    ⟨(some 17), (.call 62 [(.t 16)]), none⟩,
    ⟨(some 12), (.mv (.t 17)), none⟩,
    ⟨(some 18), (.ext (.t 12) 0), none⟩,
    ⟨(some 19), (.ext (.t 12) 1), none⟩,
    ⟨(some 3), (.alloc false [(.s (.int .u64 0)), (.s (.pointer none))]), none⟩,
    ⟨none, (.store 2 (.t 3) (.t 18)), none⟩,
    ⟨(some 4), (.mv (.t 19)), none⟩] none [2, 3])
  (.seq (.region [⟨(some 20), (.load 2 true (.t 3)), none⟩,
    ⟨none, (.store 2 (.t 2) (.t 20)), none⟩] none [2])
  .ret)) .skip))
  (.seq (.region [⟨(some 22), (.mv (.t 0)), none⟩,
    ⟨(some 23), (.nilCk (.t 22)), none⟩,
    ⟨(some 24), (.fieldAddr 0 (.t 23)), none⟩,
    ⟨(some 25), (.load 1 false (.t 24)), none⟩,
    ⟨(some 26), (.mv (.t 0)), none⟩,
    ⟨(some 27), (.nilCk (.t 26)), none⟩,
    ⟨(some 28), (.fieldAddr 1 (.t 27)), none⟩,
    ⟨(some 29), (.load 1 false (.t 28)), none⟩,
    ⟨(some 30), (.call 20 [(.t 29)]), none⟩,
    ⟨(some 31), (.mv (.t 0)), none⟩,
    ⟨(some 32), (.nilCk (.t 31)), none⟩,
    ⟨(some 33), (.fieldAddr 2 (.t 32)), none⟩,
    ⟨(some 34), (.load 1 false (.t 33)), none⟩,
    ⟨(some 35), (.call 20 [(.t 34)]), none⟩,
    ⟨(some 36), (.call 63 [(.t 25), (.t 30), (.t 35)]), none⟩,
    ⟨(some 21), (.mv (.t 36)), none⟩,
    ⟨(some 37), (.ext (.t 21) 0), none⟩,
    ⟨(some 38), (.ext (.t 21) 1), none⟩,
    ⟨(some 5), (.alloc false [(.s (.int .u64 0)), (.s (.pointer none))]), none⟩,
    ⟨none, (.store 2 (.t 5) (.t 37)), none⟩,
    ⟨(some 6), (.mv (.t 38)), none⟩] (some [0, 1, 3, 7, 0, 16, 48, 112, 240, 0, 512, 1536, 3584, 8176, 16383, 32767, 65535, 65535, 0, 393215, 1048575]) [2, 5])
  (.seq (.region [⟨(some 39), (.load 2 true (.t 5)), none⟩,
    ⟨none, (.store 2 (.t 2) (.t 39)), none⟩] none [2])
  .ret)))), [(2, some (2, true))], false⟩
/-- kinfolk/kinfolkref01.Make -/
def ir21 : IRF := ⟨[0, 1], (.seq (.region [⟨(some 4), (.mv (.c (.p (.s (.pointer none))))), none⟩,
    ⟨(some 5), (.mv (.c (.p (.s (.slice none 0 0))))), none⟩] none [0, 1])
  (.seq (.seq (.region [⟨(some 9), (.mv (.t 0)), none⟩,
    ⟨(some 10), (.len false (.t 9)), none⟩,
    ⟨(some 11), (.bin .eql (.t 10) (.c (.p (.s (.int .i64 0))))), none⟩] none [0, 1, 11])
  (.cond (.t 11) (.seq (.region [⟨(some 12), (.call 60 []), none⟩,
    ⟨(some 4), (.mv (.t 12)), none⟩,
    ⟨(some 5), (.mv (.c (.p (.s (.slice none 0 0))))), none⟩] none [4, 5])
  .ret) .skip))
  (.seq (.region [⟨(some 13), (.mv (.t 0)), none⟩,
    ⟨(some 14), (.idxASl 1 (.t 13) (.c (.p (.s (.int .i64 0))))), none⟩,
    ⟨(some 15), (.load 1 false (.t 14)), none⟩,
    ⟨(some 6), (.mv (.t 15)), none⟩] none [0, 1, 6])
  (.seq (.region [⟨(some 16), (.mv (.t 0)), none⟩,
    ⟨(some 17), (.slSl 1 (.t 16) (some (.c (.p (.s (.int .i64 1))))) none none), none⟩,
    ⟨(some 0), (.mv (.t 17)), none⟩] none [0, 1, 6])
  (.seq (.seq (.region [⟨(some 18), (.mv (.t 1)), none⟩,
    ⟨(some 19), (.bin .eql (.t 18) (.c (.p (.s (.int .i64 0))))), none⟩,
    ⟨(some 20), (.mv (.t 19)), none⟩,
    ⟨(some 21), (.mv (.t 6)), (some (20, false))⟩,
    ⟨(some 22), (.bin .rem (.t 21) (.c (.p (.s (.int .u8 4))))), (some (20, false))⟩,
    ⟨(some 23), (.bin .lss (.t 22) (.c (.p (.s (.int .u8 2))))), (some (20, false))⟩,
    ⟨(some 24), (.pick (.t 20) (.c (.p (.s (.bool true)))) (.t 23)), none⟩] none [0, 1, 6, 24])
  (.cond (.t 24) (.seq (.region [⟨(some 25), (.mv (.t 6)), none⟩,
    ⟨(some 26), (.bin .rem (.t 25) (.c (.p (.s (.int .u8 2))))), none⟩,
    ⟨(some 27), (.cvt .i64 (.t 26)), none⟩,
    ⟨(some 28), (.build [(.s (.int .i64 0)), (.s (.pointer none)), (.s (.pointer none))] [(0, 1, (.t 27))]), none⟩,
    ⟨(some 29), (.box true (.t 28)), none⟩,
    ⟨(some 30), (.mv (.t 0)), none⟩,
    ⟨(some 4), (.mv (.t 29)), none⟩,
    ⟨(some 5), (.mv (.t 30)), none⟩] none [4, 5])
  .ret) .skip))
  (.seq (.region [⟨(some 32), (.mv (.t 0)), none⟩,
    ⟨(some 33), (.mv (.t 1)), none⟩,
    ⟨(some 34), (.bin .sub (.t 33) (.c (.p (.s (.int .i64 1))))), none⟩,
    ⟨(some 35), (.call 21 [(.t 32), (.t 34)]), none⟩,
    ⟨(some 31), (.mv (.t 35)), none⟩,
    ⟨(some 36), (.ext (.t 31) 0), none⟩,
    ⟨(some 37), (.ext (.t 31) 1), none⟩,
    ⟨(some 7), (.mv (.t 36)), none⟩,
    ⟨(some 0), (.mv (.t 37)), none⟩] none [0, 1, 7])
  (.seq (.region [⟨(some 39), (.mv (.t 0)), none⟩,
    ⟨(some 40), (.mv (.t 1)), none⟩,
    ⟨(some 41), (.bin .sub (.t 40) (.c (.p (.s (.int .i64 1))))), none⟩,
    ⟨(some 42), (.call 21 [(.t 39), (.t 41)]), none⟩,
    ⟨(some 38), (.mv (.t 42)), none⟩,
    ⟨(some 43), (.ext (.t 38) 0), none⟩,
    ⟨(some 44), (.ext (.t 38) 1), none⟩,
    ⟨(some 8), (.mv (.t 43)), none⟩,
    ⟨(some 0), (.mv (.t 44)), none⟩] none [0, 7, 8])
  (.seq (.region [⟨(some 45), (.mv (.t 7)), none⟩,
    ⟨(some 46), (.mv (.t 8)), none⟩,
    ⟨(some 47), (.call 64 [(.t 45), (.t 46)]), none⟩,
    ⟨(some 48), (.mv (.t 0)), none⟩,
    ⟨(some 4), (.mv (.t 47)), none⟩,
    ⟨(some 5), (.mv (.t 48)), none⟩] none [4, 5])
  .ret)))))))), [(4, none), (5, none)], false⟩
/-- kinfolk/kinfolklaw17.share -/
def ir22 : IRF := ⟨[0], (.seq (.region [⟨(some 2), (.alloc false [(.s (.bool false)), (.s (.pointer none))]), none⟩] none [0, 2])
  (.seq (.seq (.region [⟨(some 5), (.mv (.t 0)), none⟩,
    ⟨(some 6), (.nilCk (.t 5)), none⟩,
    ⟨(some 7), (.fieldAddr 0 (.t 6)), none⟩,
    ⟨(some 8), (.load 1 false (.t 7)), none⟩] none [0, 2, 8])
  (.block 0 (.seq (.region [⟨(some 10), (.bin .eql (.t 8) (.c (.p (.s (.int .i64 0))))), none⟩,
    ⟨(some 9), (.mv (.t 10)), none⟩] none [0, 2, 8, 9])
  (.cond (.t 9) (.seq (.region [⟨(some 11), (.call 65 []), none⟩,
    ⟨none, (.store 2 (.t 2) (.t 11)), none⟩] none [2])
  .ret) (.seq (.region [⟨(some 13), (.bin .eql (.t 8) (.c (.p (.s (.int .i64 1))))), none⟩,
    ⟨(some 12), (.mv (.t 13)), none⟩] none [0, 2, 12])
  (.cond (.t 12) (.seq (.region [⟨(some 14), (.call 66 []), none⟩,
    ⟨none, (.store 2 (.t 2) (.t 14)), none⟩] none [2])
  .ret) .skip))))))
  (.seq (.region [⟨(some 16), (.mv (.t 0)), none⟩,
    ⟨(some 17), (.nilCk (.t 16)), none⟩,
    ⟨(some 18), (.fieldAddr 1 (.t 17)), none⟩,
    ⟨(some 19), (.load 1 false (.t 18)), none⟩,
    ⟨(some 20), (.call 22 [(.t 19)]), none⟩,
    ⟨(some 21), (.mv (.t 0)), none⟩,
    ⟨(some 22), (.nilCk (.t 21)), none⟩,
    ⟨(some 23), (.fieldAddr 2 (.t 22)), none⟩,
    ⟨(some 24), (.load 1 false (.t 23)), none⟩,
    ⟨(some 25), (.call 22 [(.t 24)]), none⟩,
    ⟨(some 26), (.call 67 [(.t 20), (.t 25)]), none⟩,
    ⟨(some 15), (.mv (.t 26)), none⟩,
    ⟨(some 27), (.ext (.t 15) 0), none⟩,
    ⟨(some 28), (.ext (.t 15) 1), none⟩,
    ⟨(some 3), (.alloc false [(.s (.bool false)), (.s (.pointer none))]), none⟩,
    ⟨none, (.store 2 (.t 3) (.t 27)), none⟩,
    ⟨(some 4), (.mv (.t 28)), none⟩] (some [0, 1, 3, 7, 15, 0, 32, 96, 224, 511, 1023, 2047, 4095, 4095, 0, 24575, 65535]) [2, 3])
  (.seq (.region [⟨(some 29), (.load 2 true (.t 3)), none⟩,
    ⟨none, (.store 2 (.t 2) (.t 29)), none⟩] none [2])
  .ret)))), [(2, some (2, true))], false⟩
/-- kinfolk/kinfolkref13.Make -/
def ir23 : IRF := ⟨[0, 1, 2], (.seq (.region [⟨(some 6), (.alloc false [(.s (.pointer none)), (.s (.slice none 0 0)), (.s (.bool false))]), none⟩] none [0, 1, 2, 6])
  (.seq (.seq (.region [⟨(some 11), (.mv (.t 0)), none⟩,
    ⟨(some 12), (.len false (.t 11)), none⟩,
    ⟨(some 13), (.bin .gtr (.t 12) (.c (.p (.s (.int .i64 40))))), none⟩] none [0, 1, 2, 6, 13])
  (.cond (.t 13) (.region [⟨(some 14), (.mv (.t 0)), none⟩,
    ⟨(some 15), (.slSl 1 (.t 14) none (some (.c (.p (.s (.int .i64 40))))) none), none⟩,
    ⟨(some 0), (.mv (.t 15)), none⟩] none [0, 1, 2, 6]) .skip))
  (.seq (.region [⟨(some 17), (.mv (.t 0)), none⟩,
    ⟨(some 18), (.call 19 [(.t 17), (.c (.p (.s (.int .i64 4))))]), none⟩,
    ⟨(some 16), (.mv (.t 18)), none⟩,
    ⟨(some 19), (.ext (.t 16) 0), none⟩,
    ⟨(some 20), (.ext (.t 16) 1), none⟩,
    ⟨(some 7), (.mv (.t 19)), none⟩,
    ⟨(some 8), (.mv (.t 20)), none⟩] none [1, 2, 6, 7])
  (.seq (.region [⟨(some 21), (.mv (.t 7)), none⟩,
    ⟨(some 22), (.mv (.t 2)), none⟩,
    ⟨(some 23), (.build [(.s (.pointer none)), (.s (.slice none 0 0)), (.s (.bool false))] [(0, 1, (.t 21)), (2, 1, (.t 22))]), none⟩,
    ⟨(some 9), (.alloc false [(.s (.pointer none)), (.s (.slice none 0 0)), (.s (.bool false))]), none⟩,
    ⟨none, (.store 3 (.t 9) (.t 23)), none⟩] none [1, 2, 6, 9])
  (.seq (.seq (.region [⟨(some 24), (.mv (.t 1)), none⟩,
    ⟨(some 25), (.build [(.s (.int .i64 0)), (.s (.string ⟨#[]⟩)), (.s (.string ⟨#[]⟩))] [(0, 1, (.c (.p (.s (.int .i64 1))))), (2, 1, (.t 24))]), none⟩,
    ⟨(some 10), (.alloc false [(.s (.int .i64 0)), (.s (.string ⟨#[]⟩)), (.s (.string ⟨#[]⟩))]), none⟩,
    ⟨none, (.store 3 (.t 10) (.t 25)), none⟩] none [2, 6, 9, 10])
  (.tidy [2, 6, 9] [10]))
  (.seq (.seq (.region [⟨(some 26), (.mv (.t 2)), none⟩,
    ⟨(some 27), (.un .not (.t 26)), none⟩,
    ⟨(some 28), (.mv (.t 27)), none⟩,
    ⟨(some 29), (.load 3 true (.t 10)), (some (28, true))⟩,
    ⟨(some 30), (.call 68 [(.t 29)]), (some (28, true))⟩,
    ⟨(some 31), (.bin .eql (.t 30) (.c (.p (.s (.int .i64 0))))), (some (28, true))⟩,
    ⟨(some 32), (.pick (.t 28) (.t 31) (.c (.p (.s (.bool false))))), none⟩] none [6, 9, 10, 32])
  (.cond (.t 32) (.region [⟨(some 33), (.load 3 true (.t 10)), none⟩,
    ⟨(some 34), (.mkSl true 1 3 [(.s (.int .i64 0)), (.s (.string ⟨#[]⟩)), (.s (.string ⟨#[]⟩))] [(0, 3, (.t 33))]), none⟩,
    ⟨(some 35), (.fieldAddr 1 (.t 9)), none⟩,
    ⟨none, (.store 1 (.t 35) (.t 34)), none⟩] none [6, 9]) .skip))
  (.seq (.region [⟨(some 36), (.load 3 true (.t 9)), none⟩,
    ⟨none, (.store 3 (.t 6) (.t 36)), none⟩] none [6])
  .ret))))))), [(6, some (3, true))], false⟩
/-- kinfolk/card.Make -/
def ir24_0 : IRC := (.seq (.tidy [0, 2, 8, 9, 10] [])
  (.seq (.region [⟨(some 11), (.bin .lss (.t 10) (.t 9)), none⟩] none [0, 2, 8, 9, 10, 11])
  (.seq (.cond (.t 11) .skip (.exit 0))
  (.seq (.block 1 (.seq (.seq (.region [⟨(some 12), (.idxASl 3 (.t 8) (.t 10)), none⟩,
    ⟨(some 13), (.load 3 true (.t 12)), none⟩,
    ⟨(some 5), (.alloc false [(.s (.int .i64 0)), (.s (.string ⟨#[]⟩)), (.s (.string ⟨#[]⟩))]), none⟩,
    ⟨none, (.store 3 (.t 5) (.t 13)), none⟩] none [0, 2, 5, 8, 9, 10])
  (.tidy [0, 2, 8, 9, 10] [5]))
  (.seq (.region [⟨(some 14), (.load 3 true (.t 5)), none⟩,
    ⟨(some 15), (.call 69 [(.t 14)]), none⟩,
    ⟨(some 6), (.mv (.t 15)), none⟩] none [0, 2, 6, 8, 9, 10])
  (.seq (.region [⟨(some 16), (.mv (.t 6)), none⟩,
    ⟨(some 17), (.bin .neq (.t 16) (.c (.p (.s (.int .i64 0))))), none⟩] none [0, 2, 6, 8, 9, 10, 17])
  (.cond (.t 17) (.seq (.region [⟨(some 18), (.build [(.s (.slice none 0 0))] []), none⟩,
    ⟨(some 19), (.mv (.t 6)), none⟩,
    ⟨none, (.store 1 (.t 2) (.t 18)), none⟩,
    ⟨(some 3), (.mv (.t 19)), none⟩] none [2, 3])
  .ret) .skip)))))
  (.region [⟨(some 20), (.bin .add (.t 10) (.c (.p (.s (.int .i64 1))))), none⟩,
    ⟨(some 10), (.mv (.t 20)), none⟩] none [0, 2, 8, 9, 10])))))
def ir24 : IRF := ⟨[0], (.seq (.region [⟨(some 2), (.alloc false [(.s (.slice none 0 0))]), none⟩,
    ⟨(some 3), (.mv (.c (.p (.s (.int .i64 0))))), none⟩] none [0, 2])
  (.seq (.seq (.region [⟨(some 8), (.mv (.t 0)), none⟩,
    ⟨(some 9), (.len false (.t 8)), none⟩,
    ⟨(some 10), (.mv (.c (.p (.s (.int .i64 0))))), none⟩] none [0, 2, 8, 9, 10])
  (.block 0 (.loop ir24_0)))
  (.seq (.seq (.region [⟨(some 21), (.mv (.t 0)), none⟩,
    ⟨(some 22), (.call 70 [(.t 21)]), none⟩,
    ⟨(some 7), (.alloc false [(.s (.slice none 0 0))]), none⟩,
    ⟨none, (.store 1 (.t 7) (.t 22)), none⟩] none [2, 7])
  (.tidy [2] [7]))
  (.seq (.seq (.region [⟨(some 23), (.load 1 true (.t 7)), none⟩,
    ⟨(some 24), (.call 71 [(.t 23)]), none⟩,
    ⟨(some 25), (.bin .gtr (.t 24) (.c (.p (.s (.int .i64 8))))), none⟩] none [2, 7, 25])
  (.cond (.t 25) (.seq (.region [⟨(some 26), (.build [(.s (.slice none 0 0))] []), none⟩,
    ⟨none, (.store 1 (.t 2) (.t 26)), none⟩,
    ⟨(some 3), (.mv (.c (.p (.s (.int .i64 8))))), none⟩] none [2, 3])
  .ret) .skip))
  (.seq (.region [⟨(some 27), (.load 1 true (.t 7)), none⟩,
    ⟨none, (.store 1 (.t 2) (.t 27)), none⟩,
    ⟨(some 3), (.mv (.c (.p (.s (.int .i64 0))))), none⟩] none [2, 3])
  .ret))))), [(2, some (1, true)), (3, none)], false⟩
/-- kinfolk/note.has -/
def ir25 : IRF := ⟨[0], (.seq (.region [⟨(some 2), (.mv (.c (.p (.s (.int .i64 0))))), none⟩] none [0])
  (.seq (.seq (.region [⟨(some 3), (.mv (.t 0)), none⟩] none [3])
  (.block 0 (.seq (.seq (.region [⟨(some 5), (.bin .eql (.t 3) (.c (.p (.s (.int .i64 1))))), none⟩,
    ⟨(some 4), (.mv (.t 5)), none⟩] none [3, 4])
  (.cond (.t 4) .skip (.region [⟨(some 6), (.bin .eql (.t 3) (.c (.p (.s (.int .i64 2))))), none⟩,
    ⟨(some 4), (.mv (.t 6)), none⟩] none [3, 4])))
  (.cond (.t 4) (.seq (.region [⟨(some 2), (.mv (.c (.p (.s (.int .i64 9))))), none⟩] none [2])
  .ret) (.seq (.region [⟨(some 8), (.bin .eql (.t 3) (.c (.p (.s (.int .i64 3))))), none⟩,
    ⟨(some 7), (.mv (.t 8)), none⟩] none [3, 7])
  (.cond (.t 7) (.seq (.region [⟨(some 2), (.mv (.c (.p (.s (.int .i64 31))))), none⟩] none [2])
  .ret) (.seq (.region [⟨(some 10), (.bin .eql (.t 3) (.c (.p (.s (.int .i64 4))))), none⟩,
    ⟨(some 9), (.mv (.t 10)), none⟩] none [3, 9])
  (.cond (.t 9) (.seq (.region [⟨(some 2), (.mv (.c (.p (.s (.int .i64 3))))), none⟩] none [2])
  .ret) (.seq (.region [⟨(some 12), (.bin .eql (.t 3) (.c (.p (.s (.int .i64 5))))), none⟩,
    ⟨(some 11), (.mv (.t 12)), none⟩] none [3, 11])
  (.cond (.t 11) (.seq (.region [⟨(some 2), (.mv (.c (.p (.s (.int .i64 0))))), none⟩] none [2])
  .ret) (.seq (.region [⟨(some 14), (.bin .eql (.t 3) (.c (.p (.s (.int .i64 6))))), none⟩,
    ⟨(some 13), (.mv (.t 14)), none⟩] none [3, 13])
  (.cond (.t 13) (.seq (.region [⟨(some 2), (.mv (.c (.p (.s (.int .i64 44))))), none⟩] none [2])
  .ret) (.seq (.region [⟨(some 16), (.bin .eql (.t 3) (.c (.p (.s (.int .i64 7))))), none⟩,
    ⟨(some 15), (.mv (.t 16)), none⟩] none [15])
  (.cond (.t 15) (.seq (.region [⟨(some 2), (.mv (.c (.p (.s (.int .i64 64))))), none⟩] none [2])
  .ret) .skip))))))))))))))
  (.seq (.region [⟨(some 2), (.mv (.c (.p (.s (.int .i64 (-1)))))), none⟩] none [2])
  .ret))), [(2, none)], false⟩
/-- kinfolk/wire.Num -/
def ir26_0 : IRC := (.seq (.seq (.region [⟨(some 11), (.mv (.t 1)), none⟩,
    ⟨(some 12), (.bin .geq (.t 11) (.c (.p (.s (.int .u64 128))))), none⟩] none [0, 1, 12])
  (.cond (.t 12) .skip (.exit 0)))
  (.seq (.block 1 (.region [⟨(some 15), (.mv (.t 0)), none⟩,
    ⟨(some 16), (.mv (.t 1)), none⟩,
    ⟨(some 17), (.cvt .u8 (.t 16)), none⟩,
    ⟨(some 18), (.bin .or (.t 17) (.c (.p (.s (.int .u8 128))))), none⟩,
    ⟨(some 19), (.mkSl false 1 1 [(.s (.int .u8 0))] [(0, 1, (.t 18))]), none⟩,
    ⟨(some 20), (.app 1 1 (.t 15) (.t 19)), none⟩,
    ⟨(some 0), (.mv (.t 20)), none⟩] none [0, 1]))
  (.region [⟨(some 13), (.mv (.t 1)), none⟩,
    ⟨(some 14), (.bin .shr (.t 13) (.c (.p (.s (.int .u64 7))))), none⟩,
    ⟨(some 1), (.mv (.t 14)), none⟩] none [0, 1])))
def ir26 : IRF := ⟨[0, 1], (.seq (.region [⟨(some 4), (.mv (.c (.p (.s (.slice none 0 0))))), none⟩] none [0, 1])
  (.seq (.region [⟨(some 5), (.mv (.t 0)), none⟩,
    ⟨(some 6), (.mv (.t 0)), none⟩,
    ⟨(some 7), (.len false (.t 6)), none⟩,
    ⟨(some 8), (.mv (.t 0)), none⟩,
    ⟨(some 9), (.len false (.t 8)), none⟩,
    ⟨(some 10), (.slSl 1 (.t 5) none (some (.t 7)) (some (.t 9))), none⟩,
    ⟨(some 0), (.mv (.t 10)), none⟩] none [0, 1])
  (.seq (.block 0 (.loop ir26_0))
  (.seq (.region [⟨(some 21), (.mv (.t 0)), none⟩,
    ⟨(some 22), (.mv (.t 1)), none⟩,
    ⟨(some 23), (.cvt .u8 (.t 22)), none⟩,
    ⟨(some 24), (.mkSl false 1 1 [(.s (.int .u8 0))] [(0, 1, (.t 23))]), none⟩,
    ⟨(some 25), (.app 1 1 (.t 21) (.t 24)), none⟩,
    ⟨(some 4), (.mv (.t 25)), none⟩] none [4])
  .ret)))), [(4, none)], true⟩
/-- kinfolk/deed.PutGift -/
def ir27 : IRF := ⟨[0, 1], (.seq (.region [⟨(some 3), (.box false (.t 1)), none⟩,
    ⟨(some 4), (.mv (.c (.p (.s (.slice none 0 0))))), none⟩] none [0, 3])
  (.seq (.region [⟨(some 5), (.mv (.t 0)), none⟩,
    ⟨(some 6), (.fieldAddr 0 (.t 3)), none⟩,
    ⟨(some 7), (.load 1 false (.t 6)), none⟩,
    ⟨(some 8), (.call 26 [(.t 5), (.t 7)]), none⟩,
    ⟨(some 9), (.fieldAddr 1 (.t 3)), none⟩,
    ⟨(some 10), (.load 1 false (.t 9)), none⟩,
    ⟨(some 11), (.cvt .u64 (.t 10)), none⟩,
    ⟨(some 12), (.call 26 [(.t 8), (.t 11)]), none⟩,
    ⟨(some 13), (.fieldAddr 2 (.t 3)), none⟩,
    ⟨(some 14), (.load 1 false (.t 13)), none⟩,
    ⟨(some 15), (.cvt .u64 (.t 14)), none⟩,
    ⟨(some 16), (.call 26 [(.t 12), (.t 15)]), none⟩,
    ⟨(some 0), (.mv (.t 16)), none⟩] (some [0, 0, 2, 7, 0, 16, 48, 127, 0, 256, 768, 2047, 4095]) [0, 3])
  (.seq (.region [⟨(some 17), (.mv (.t 0)), none⟩,
    ⟨(some 18), (.fieldAddr 3 (.t 3)), none⟩,
    ⟨(some 19), (.load 2 true (.t 18)), none⟩,
    ⟨(some 20), (.call 72 [(.t 19)]), none⟩,
    ⟨(some 21), (.b2s (.t 20)), none⟩,
    ⟨(some 22), (.call 28 [(.t 17), (.t 21)]), none⟩,
    ⟨(some 4), (.mv (.t 22)), none⟩] none [4])
  .ret))), [(4, none)], false⟩
/-- kinfolk/wire.Text -/
def ir28 : IRF := ⟨[0, 1], (.seq (.region [⟨(some 4), (.mv (.c (.p (.s (.slice none 0 0))))), none⟩] none [0, 1])
  (.seq (.region [⟨(some 5), (.mv (.t 0)), none⟩,
    ⟨(some 6), (.mv (.t 1)), none⟩,
    ⟨(some 7), (.len true (.t 6)), none⟩,
    ⟨(some 8), (.cvt .u64 (.t 7)), none⟩,
    ⟨(some 9), (.call 26 [(.t 5), (.t 8)]), none⟩,
    ⟨(some 10), (.mv (.t 1)), none⟩,
    ⟨(some 11), (.app 1 1 (.t 9) (.t 10)), none⟩,
    ⟨(some 4), (.mv (.t 11)), none⟩] none [4])
  .ret)), [(4, none)], true⟩
/-- kinfolk/code.Event -/
def ir29 : IRF := ⟨[0], (.seq (.region [⟨(some 1), (.box false (.t 0)), none⟩,
    ⟨(some 2), (.mv (.c (.p (.s (.slice none 0 0))))), none⟩] none [1])
  (.seq (.region [⟨(some 4), (.call 73 []), none⟩,
    ⟨(some 3), (.mv (.t 4)), none⟩] none [1, 3])
  (.seq (.region [⟨(some 5), (.mv (.t 3)), none⟩,
    ⟨(some 6), (.load 2 true (.t 1)), none⟩,
    ⟨(some 7), (.call 74 [(.t 5), (.t 6)]), none⟩] none [3])
  (.seq (.region [⟨(some 8), (.mv (.t 3)), none⟩,
    ⟨(some 9), (.call 75 [(.t 8)]), none⟩,
    ⟨(some 2), (.mv (.t 9)), none⟩] none [2])
  .ret)))), [(2, none)], false⟩
/-- kinfolk/book.PutEntries -/
def ir30_0 : IRC := (.seq (.region [⟨(some 15), (.bin .lss (.t 14) (.t 13)), none⟩] none [0, 12, 13, 14, 15])
  (.seq (.cond (.t 15) .skip (.exit 0))
  (.seq (.block 1 (.seq (.region [⟨(some 16), (.idxASl 5 (.t 12) (.t 14)), none⟩,
    ⟨(some 17), (.load 5 true (.t 16)), none⟩,
    ⟨(some 6), (.alloc false [(.s (.int .u32 0)), (.s (.int .u64 0)), (.s (.pointer none)), (.s (.slice none 0 0)), (.s (.bool false))]), none⟩,
    ⟨none, (.store 5 (.t 6) (.t 17)), none⟩] none [0, 6, 12, 13, 14])
  (.region [⟨(some 18), (.mv (.t 0)), none⟩,
    ⟨(some 19), (.fieldAddr 0 (.t 6)), none⟩,
    ⟨(some 20), (.load 1 false (.t 19)), none⟩,
    ⟨(some 21), (.cvt .u64 (.t 20)), none⟩,
    ⟨(some 22), (.call 26 [(.t 18), (.t 21)]), none⟩,
    ⟨(some 23), (.fieldAddr 1 (.t 6)), none⟩,
    ⟨(some 24), (.load 4 true (.t 23)), none⟩,
    ⟨(some 25), (.call 76 [(.t 24)]), none⟩,
    ⟨(some 26), (.b2s (.t 25)), none⟩,
    ⟨(some 27), (.call 28 [(.t 22), (.t 26)]), none⟩,
    ⟨(some 0), (.mv (.t 27)), none⟩] (some [0, 0, 2, 6, 15, 0, 32, 127, 255, 511, 1023]) [0, 12, 13, 14])))
  (.region [⟨(some 28), (.bin .add (.t 14) (.c (.p (.s (.int .i64 1))))), none⟩,
    ⟨(some 14), (.mv (.t 28)), none⟩] none [0, 12, 13, 14]))))
def ir30 : IRF := ⟨[0, 1], (.seq (.region [⟨(some 4), (.mv (.c (.p (.s (.slice none 0 0))))), none⟩] none [0, 1])
  (.seq (.region [⟨(some 7), (.mv (.t 0)), none⟩,
    ⟨(some 8), (.mv (.t 1)), none⟩,
    ⟨(some 9), (.len false (.t 8)), none⟩,
    ⟨(some 10), (.cvt .u64 (.t 9)), none⟩,
    ⟨(some 11), (.call 26 [(.t 7), (.t 10)]), none⟩,
    ⟨(some 0), (.mv (.t 11)), none⟩] none [0, 1])
  (.seq (.seq (.region [⟨(some 12), (.mv (.t 1)), none⟩,
    ⟨(some 13), (.len false (.t 12)), none⟩,
    ⟨(some 14), (.mv (.c (.p (.s (.int .i64 0))))), none⟩] none [0, 12, 13, 14])
  (.block 0 (.loop ir30_0)))
  (.seq (.region [⟨(some 29), (.mv (.t 0)), none⟩,
    ⟨(some 4), (.mv (.t 29)), none⟩] none [4])
  .ret)))), [(4, none)], false⟩
/-- kinfolk/wire.Frame -/
def ir31 : IRF := ⟨[0], (.seq (.region [⟨(some 2), (.mv (.c (.p (.s (.slice none 0 0))))), none⟩] none [0])
  (.seq (.region [⟨(some 5), (.mv (.t 0)), none⟩,
    ⟨(some 6), (.len false (.t 5)), none⟩,
    ⟨(some 7), (.cvt .u32 (.t 6)), none⟩,
    ⟨(some 8), (.call 77 [(.c (.p (.s (.slice none 0 0)))), (.t 7)]), none⟩,
    ⟨(some 3), (.mv (.t 8)), none⟩] none [0, 3])
  (.seq (.region [⟨(some 9), (.mv (.t 3)), none⟩,
    ⟨(some 10), (.slSl 1 (.t 9) none (some (.c (.p (.s (.int .i64 4))))) (some (.c (.p (.s (.int .i64 4)))))), none⟩,
    ⟨(some 11), (.mv (.t 3)), none⟩,
    ⟨(some 12), (.slSl 1 (.t 11) none (some (.c (.p (.s (.int .i64 4))))) (some (.c (.p (.s (.int .i64 4)))))), none⟩,
    ⟨(some 13), (.mv (.t 0)), none⟩,
    ⟨(some 14), (.app 1 1 (.t 12) (.t 13)), none⟩,
    ⟨(some 15), (.call 78 [(.t 14)]), none⟩,
    ⟨(some 16), (.call 77 [(.t 10), (.t 15)]), none⟩,
    ⟨(some 4), (.mv (.t 16)), none⟩] (some [0, 1, 0, 4, 0, 28, 60, 127, 255]) [0, 4])
  (.seq (.region [⟨(some 17), (.mv (.t 4)), none⟩,
    ⟨(some 18), (.mv (.t 0)), none⟩,
    ⟨(some 19), (.app 1 1 (.t 17) (.t 18)), none⟩,
    ⟨(some 2), (.mv (.t 19)), none⟩] none [2])
  .ret)))), [(2, none)], true⟩
/-- kinfolk/kinfolkref06.Num -/
def ir32 : IRF := ⟨[0], (.seq (.region [⟨(some 2), (.mv (.c (.p (.s (.slice none 0 0))))), none⟩] none [0])
  (.seq (.seq (.region [⟨(some 3), (.mv (.t 0)), none⟩,
    ⟨(some 4), (.bin .lss (.t 3) (.c (.p (.s (.int .u64 128))))), none⟩] none [0, 4])
  (.cond (.t 4) (.seq (.region [⟨(some 5), (.mv (.t 0)), none⟩,
    ⟨(some 6), (.cvt .u8 (.t 5)), none⟩,
    ⟨(some 7), (.mkSl false 1 1 [(.s (.int .u8 0))] [(0, 1, (.t 6))]), none⟩,
    ⟨(some 2), (.mv (.t 7)), none⟩] none [2])
  .ret) .skip))
  (.seq (.region [⟨(some 8), (.mv (.t 0)), none⟩,
    ⟨(some 9), (.bin .rem (.t 8) (.c (.p (.s (.int .u64 128))))), none⟩,
    ⟨(some 10), (.bin .add (.t 9) (.c (.p (.s (.int .u64 128))))), none⟩,
    ⟨(some 11), (.cvt .u8 (.t 10)), none⟩,
    ⟨(some 12), (.mkSl false 1 1 [(.s (.int .u8 0))] [(0, 1, (.t 11))]), none⟩,
    ⟨(some 13), (.mv (.t 0)), none⟩,
    ⟨(some 14), (.bin .quo (.t 13) (.c (.p (.s (.int .u64 128))))), none⟩,
    ⟨(some 15), (.call 32 [(.t 14)]), none⟩,
    ⟨(some 16), (.app 1 1 (.t 12) (.t 15)), none⟩,
    ⟨(some 2), (.mv (.t 16)), none⟩] none [2])
  .ret))), [(2, none)], true⟩
/-- kinfolk/kinfolkref06.Text -/
def ir33 : IRF := ⟨[0], (.seq (.region [⟨(some 2), (.mv (.c (.p (.s (.slice none 0 0))))), none⟩] none [0])
  (.seq (.region [⟨(some 3), (.mv (.t 0)), none⟩,
    ⟨(some 4), (.len true (.t 3)), none⟩,
    ⟨(some 5), (.cvt .u64 (.t 4)), none⟩,
    ⟨(some 6), (.call 32 [(.t 5)]), none⟩,
    ⟨(some 7), (.mv (.t 0)), none⟩,
    ⟨(some 8), (.s2b false (.t 7)), none⟩,
    ⟨(some 9), (.app 1 1 (.t 6) (.t 8)), none⟩,
    ⟨(some 2), (.mv (.t 9)), none⟩] none [2])
  .ret)), [(2, none)], true⟩
/-- kinfolk/kinfolkref05.Bytes -/
def ir34_0 : IRC := (.seq (.seq (.region [⟨(some 13), (.mv (.t 6)), none⟩,
    ⟨(some 14), (.bin .lss (.t 13) (.c (.p (.s (.int .i64 8))))), none⟩] none [0, 3, 4, 5, 6, 14])
  (.cond (.t 14) .skip (.exit 2)))
  (.seq (.block 3 (.seq (.region [⟨(some 17), (.mv (.t 5)), none⟩,
    ⟨(some 18), (.bin .mul (.t 17) (.c (.p (.s (.int .u8 2))))), none⟩,
    ⟨(some 5), (.mv (.t 18)), none⟩] none [0, 3, 4, 5, 6])
  (.seq (.region [⟨(some 19), (.mv (.t 4)), none⟩,
    ⟨(some 20), (.mv (.t 6)), none⟩,
    ⟨(some 21), (.bin .add (.t 19) (.t 20)), none⟩,
    ⟨(some 22), (.mv (.t 0)), none⟩,
    ⟨(some 23), (.len false (.t 22)), none⟩,
    ⟨(some 24), (.bin .lss (.t 21) (.t 23)), none⟩,
    ⟨(some 25), (.mv (.t 24)), none⟩,
    ⟨(some 26), (.mv (.t 0)), (some (25, true))⟩,
    ⟨(some 27), (.mv (.t 4)), (some (25, true))⟩,
    ⟨(some 28), (.mv (.t 6)), (some (25, true))⟩,
    ⟨(some 29), (.bin .add (.t 27) (.t 28)), (some (25, true))⟩,
    ⟨(some 30), (.idxASl 1 (.t 26) (.t 29)), (some (25, true))⟩,
    ⟨(some 31), (.load 1 false (.t 30)), (some (25, true))⟩,
    ⟨(some 32), (.pick (.t 25) (.t 31) (.c (.p (.s (.bool false))))), none⟩] none [0, 3, 4, 5, 6, 32])
  (.cond (.t 32) (.region [⟨(some 33), (.mv (.t 5)), none⟩,
    ⟨(some 34), (.bin .add (.t 33) (.c (.p (.s (.int .u8 1))))), none⟩,
    ⟨(some 5), (.mv (.t 34)), none⟩] none [0, 3, 4, 5, 6]) .skip))))
  (.region [⟨(some 15), (.mv (.t 6)), none⟩,
    ⟨(some 16), (.bin .add (.t 15) (.c (.p (.s (.int .i64 1))))), none⟩,
    ⟨(some 6), (.mv (.t 16)), none⟩] none [0, 3, 4, 5, 6])))
def ir34_1 : IRC := (.seq (.seq (.region [⟨(some 7), (.mv (.t 4)), none⟩,
    ⟨(some 8), (.mv (.t 0)), none⟩,
    ⟨(some 9), (.len false (.t 8)), none⟩,
    ⟨(some 10), (.bin .lss (.t 7) (.t 9)), none⟩] none [0, 3, 4, 10])
  (.cond (.t 10) .skip (.exit 0)))
  (.seq (.block 1 (.seq (.region [⟨(some 5), (.mv (.c (.p (.s (.int .u8 0))))), none⟩] none [0, 3, 4, 5])
  (.seq (.seq (.region [⟨(some 6), (.mv (.c (.p (.s (.int .i64 0))))), none⟩] none [0, 3, 4, 5, 6])
  (.block 2 (.loop ir34_0)))
  (.region [⟨(some 35), (.mv (.t 3)), none⟩,
    ⟨(some 36), (.mv (.t 5)), none⟩,
    ⟨(some 37), (.mkSl false 1 1 [(.s (.int .u8 0))] [(0, 1, (.t 36))]), none⟩,
    ⟨(some 38), (.app 1 1 (.t 35) (.t 37)), none⟩,
    ⟨(some 3), (.mv (.t 38)), none⟩] none [0, 3, 4]))))
  (.region [⟨(some 11), (.mv (.t 4)), none⟩,
    ⟨(some 12), (.bin .add (.t 11) (.c (.p (.s (.int .i64 8))))), none⟩,
    ⟨(some 4), (.mv (.t 12)), none⟩] none [0, 3, 4])))
def ir34 : IRF := ⟨[0], (.seq (.region [⟨(some 2), (.mv (.c (.p (.s (.slice none 0 0))))), none⟩] none [0])
  (.seq (.region [⟨(some 3), (.mv (.c (.p (.s (.slice none 0 0))))), none⟩] none [0, 3])
  (.seq (.seq (.region [⟨(some 4), (.mv (.c (.p (.s (.int .i64 0))))), none⟩] none [0, 3, 4])
  (.block 0 (.loop ir34_1)))
  (.seq (.region [⟨(some 39), (.mv (.t 3)), none⟩,
    ⟨(some 2), (.mv (.t 39)), none⟩] none [2])
  .ret)))), [(2, none)], false⟩
/-- kinfolk/kinfolkref07.Event -/
def ir35 : IRF := ⟨[0, 1], (.seq (.region [⟨(some 4), (.mv (.c (.p (.s (.slice none 0 0))))), none⟩] none [0, 1])
  (.seq (.seq (.region [⟨(some 5), (.mv (.t 1)), none⟩,
    ⟨(some 6), (.nilCk (.t 5)), none⟩,
    ⟨(some 7), (.fieldAddr 1 (.t 6)), none⟩,
    ⟨(some 8), (.load 1 false (.t 7)), none⟩,
    ⟨(some 9), (.eq false .ptr (.t 8) (.c (.p (.s (.pointer none))))), none⟩] none [0, 1, 9])
  (.cond (.t 9) (.seq (.region [⟨(some 10), (.mv (.t 0)), none⟩,
    ⟨(some 11), (.call 80 [(.t 10), (.c (.p (.s (.int .u64 1)))), (.c (.p (.s (.int .i64 1))))]), none⟩,
    ⟨(some 12), (.mv (.t 1)), none⟩,
    ⟨(some 13), (.nilCk (.t 12)), none⟩,
    ⟨(some 14), (.fieldAddr 0 (.t 13)), none⟩,
    ⟨(some 15), (.load 1 false (.t 14)), none⟩,
    ⟨(some 16), (.call 79 [(.t 11), (.t 15)]), none⟩,
    ⟨(some 4), (.mv (.t 16)), none⟩] (some [0, 1, 0, 4, 12, 28, 63, 127]) [4])
  .ret) .skip))
  (.seq (.region [⟨(some 17), (.mv (.t 0)), none⟩,
    ⟨(some 18), (.call 80 [(.t 17), (.c (.p (.s (.int .u64 0)))), (.c (.p (.s (.int .i64 1))))]), none⟩,
    ⟨(some 0), (.mv (.t 18)), none⟩] none [0, 1])
  (.seq (.seq (.region [⟨(some 19), (.mv (.t 1)), none⟩,
    ⟨(some 20), (.nilCk (.t 19)), none⟩,
    ⟨(some 21), (.fieldAddr 0 (.t 20)), none⟩,
    ⟨(some 22), (.load 1 false (.t 21)), none⟩,
    ⟨(some 23), (.bin .eql (.t 22) (.c (.p (.s (.int .u64 0))))), none⟩] none [0, 1, 23])
  (.cond (.t 23) (.seq (.seq (.region [⟨(some 24), (.mv (.t 1)), none⟩,
    ⟨(some 25), (.nilCk (.t 24)), none⟩,
    ⟨(some 26), (.fieldAddr 1 (.t 25)), none⟩,
    ⟨(some 27), (.load 1 false (.t 26)), none⟩,
    ⟨(some 28), (.call 81 [(.t 27)]), none⟩] none [0, 1, 28])
  (.cond (.t 28) (.seq (.region [⟨(some 29), (.mv (.t 0)), none⟩,
    ⟨(some 30), (.call 80 [(.t 29), (.c (.p (.s (.int .u64 0)))), (.c (.p (.s (.int .i64 2))))]), none⟩,
    ⟨(some 31), (.mv (.t 1)), none⟩,
    ⟨(some 32), (.nilCk (.t 31)), none⟩,
    ⟨(some 33), (.fieldAddr 2 (.t 32)), none⟩,
    ⟨(some 34), (.load 1 false (.t 33)), none⟩,
    ⟨(some 35), (.call 35 [(.t 30), (.t 34)]), none⟩,
    ⟨(some 4), (.mv (.t 35)), none⟩] (some [0, 1, 0, 4, 12, 28, 63, 127]) [4])
  .ret) .skip))
  (.seq (.seq (.region [⟨(some 36), (.mv (.t 1)), none⟩,
    ⟨(some 37), (.nilCk (.t 36)), none⟩,
    ⟨(some 38), (.fieldAddr 2 (.t 37)), none⟩,
    ⟨(some 39), (.load 1 false (.t 38)), none⟩,
    ⟨(some 40), (.call 81 [(.t 39)]), none⟩] none [0, 1, 40])
  (.cond (.t 40) (.seq (.region [⟨(some 41), (.mv (.t 0)), none⟩,
    ⟨(some 42), (.call 80 [(.t 41), (.c (.p (.s (.int .u64 1)))), (.c (.p (.s (.int .i64 2))))]), none⟩,
    ⟨(some 43), (.mv (.t 1)), none⟩,
    ⟨(some 44), (.nilCk (.t 43)), none⟩,
    ⟨(some 45), (.fieldAddr 1 (.t 44)), none⟩,
    ⟨(some 46), (.load 1 false (.t 45)), none⟩,
    ⟨(some 47), (.call 35 [(.t 42), (.t 46)]), none⟩,
    ⟨(some 4), (.mv (.t 47)), none⟩] (some [0, 1, 0, 4, 12, 28, 63, 127]) [4])
  .ret) .skip))
  (.seq (.region [⟨(some 48), (.mv (.t 0)), none⟩,
    ⟨(some 49), (.call 80 [(.t 48), (.c (.p (.s (.int .u64 2)))), (.c (.p (.s (.int .i64 2))))]), none⟩,
    ⟨(some 50), (.mv (.t 1)), none⟩,
    ⟨(some 51), (.nilCk (.t 50)), none⟩,
    ⟨(some 52), (.fieldAddr 1 (.t 51)), none⟩,
    ⟨(some 53), (.load 1 false (.t 52)), none⟩,
    ⟨(some 54), (.call 35 [(.t 49), (.t 53)]), none⟩,
    ⟨(some 55), (.mv (.t 1)), none⟩,
    ⟨(some 56), (.nilCk (.t 55)), none⟩,
    ⟨(some 57), (.fieldAddr 2 (.t 56)), none⟩,
    ⟨(some 58), (.load 1 false (.t 57)), none⟩,
    ⟨(some 59), (.call 35 [(.t 54), (.t 58)]), none⟩,
    ⟨(some 4), (.mv (.t 59)), none⟩] (some [0, 1, 0, 4, 12, 28, 63, 0, 128, 384, 896, 2047, 4095]) [4])
  .ret))) .skip))
  (.seq (.region [⟨(some 60), (.mv (.t 0)), none⟩,
    ⟨(some 61), (.call 80 [(.t 60), (.c (.p (.s (.int .u64 3)))), (.c (.p (.s (.int .i64 2))))]), none⟩,
    ⟨(some 0), (.mv (.t 61)), none⟩] none [0, 1])
  (.seq (.seq (.region [⟨(some 62), (.mv (.t 1)), none⟩,
    ⟨(some 63), (.nilCk (.t 62)), none⟩,
    ⟨(some 64), (.fieldAddr 1 (.t 63)), none⟩,
    ⟨(some 65), (.load 1 false (.t 64)), none⟩,
    ⟨(some 66), (.call 81 [(.t 65)]), none⟩] none [0, 1, 66])
  (.cond (.t 66) (.seq (.region [⟨(some 67), (.mv (.t 0)), none⟩,
    ⟨(some 68), (.call 80 [(.t 67), (.c (.p (.s (.int .u64 0)))), (.c (.p (.s (.int .i64 2))))]), none⟩,
    ⟨(some 69), (.mv (.t 1)), none⟩,
    ⟨(some 70), (.nilCk (.t 69)), none⟩,
    ⟨(some 71), (.fieldAddr 0 (.t 70)), none⟩,
    ⟨(some 72), (.load 1 false (.t 71)), none⟩,
    ⟨(some 73), (.call 79 [(.t 68), (.t 72)]), none⟩,
    ⟨(some 74), (.mv (.t 1)), none⟩,
    ⟨(some 75), (.nilCk (.t 74)), none⟩,
    ⟨(some 76), (.fieldAddr 2 (.t 75)), none⟩,
    ⟨(some 77), (.load 1 false (.t 76)), none⟩,
    ⟨(some 78), (.call 35 [(.t 73), (.t 77)]), none⟩,
    ⟨(some 4), (.mv (.t 78)), none⟩] (some [0, 1, 0, 4, 12, 28, 63, 0, 128, 384, 896, 2047, 4095]) [4])
  .ret) .skip))
  (.seq (.seq (.region [⟨(some 79), (.mv (.t 1)), none⟩,
    ⟨(some 80), (.nilCk (.t 79)), none⟩,
    ⟨(some 81), (.fieldAddr 2 (.t 80)), none⟩,
    ⟨(some 82), (.load 1 false (.t 81)), none⟩,
    ⟨(some 83), (.call 81 [(.t 82)]), none⟩] none [0, 1, 83])
  (.cond (.t 83) (.seq (.region [⟨(some 84), (.mv (.t 0)), none⟩,
    ⟨(some 85), (.call 80 [(.t 84), (.c (.p (.s (.int .u64 1)))), (.c (.p (.s (.int .i64 2))))]), none⟩,
    ⟨(some 86), (.mv (.t 1)), none⟩,
    ⟨(some 87), (.nilCk (.t 86)), none⟩,
    ⟨(some 88), (.fieldAddr 0 (.t 87)), none⟩,
    ⟨(some 89), (.load 1 false (.t 88)), none⟩,
    ⟨(some 90), (.call 79 [(.t 85), (.t 89)]), none⟩,
    ⟨(some 91), (.mv (.t 1)), none⟩,
    ⟨(some 92), (.nilCk (.t 91)), none⟩,
    ⟨(some 93), (.fieldAddr 1 (.t 92)), none⟩,
    ⟨(some 94), (.load 1 false (.t 93)), none⟩,
    ⟨(some 95), (.call 35 [(.t 90), (.t 94)]), none⟩,
    ⟨(some 4), (.mv (.t 95)), none⟩] (some [0, 1, 0, 4, 12, 28, 63, 0, 128, 384, 896, 2047, 4095]) [4])
  .ret) .skip))
  (.seq (.region [⟨(some 96), (.mv (.t 0)), none⟩,
    ⟨(some 97), (.call 80 [(.t 96), (.c (.p (.s (.int .u64 1)))), (.c (.p (.s (.int .i64 1))))]), none⟩,
    ⟨(some 98), (.mv (.t 1)), none⟩,
    ⟨(some 99), (.nilCk (.t 98)), none⟩,
    ⟨(some 100), (.fieldAddr 0 (.t 99)), none⟩,
    ⟨(some 101), (.load 1 false (.t 100)), none⟩,
    ⟨(some 102), (.call 79 [(.t 97), (.t 101)]), none⟩,
    ⟨(some 103), (.mv (.t 1)), none⟩,
    ⟨(some 104), (.nilCk (.t 103)), none⟩,
    ⟨(some 105), (.fieldAddr 1 (.t 104)), none⟩,
    ⟨(some 106), (.load 1 false (.t 105)), none⟩,
    ⟨(some 107), (.call 35 [(.t 102), (.t 106)]), none⟩,
    ⟨(some 108), (.mv (.t 1)), none⟩,
    ⟨(some 109), (.nilCk (.t 108)), none⟩,
    ⟨(some 110), (.fieldAddr 2 (.t 109)), none⟩,
    ⟨(some 111), (.load 1 false (.t 110)), none⟩,
    ⟨(some 112), (.call 35 [(.t 107), (.t 111)]), none⟩,
    ⟨(some 4), (.mv (.t 112)), none⟩] (some [0, 1, 0, 4, 12, 28, 63, 0, 128, 384, 896, 2047, 0, 4096, 12288, 28672, 65535, 131071]) [4])
  .ret)))))))), [(4, none)], false⟩
/-- kinfolk/kinfolkref06.Join -/
def ir36_0 : IRC := (.seq (.region [⟨(some 9), (.bin .lss (.t 8) (.t 7)), none⟩] none [3, 6, 7, 8, 9])
  (.seq (.cond (.t 9) .skip (.exit 0))
  (.seq (.block 1 (.seq (.region [⟨(some 10), (.idxASl 1 (.t 6) (.t 8)), none⟩,
    ⟨(some 11), (.load 1 false (.t 10)), none⟩,
    ⟨(some 5), (.mv (.t 11)), none⟩] none [3, 5, 6, 7, 8])
  (.region [⟨(some 12), (.mv (.t 3)), none⟩,
    ⟨(some 13), (.mv (.t 5)), none⟩,
    ⟨(some 14), (.app 1 1 (.t 12) (.t 13)), none⟩,
    ⟨(some 3), (.mv (.t 14)), none⟩] none [3, 6, 7, 8])))
  (.region [⟨(some 15), (.bin .add (.t 8) (.c (.p (.s (.int .i64 1))))), none⟩,
    ⟨(some 8), (.mv (.t 15)), none⟩] none [3, 6, 7, 8]))))
def ir36 : IRF := ⟨[0], (.seq (.region [⟨(some 2), (.mv (.c (.p (.s (.slice none 0 0))))), none⟩] none [0])
  (.seq (.region [⟨(some 3), (.mv (.c (.p (.s (.slice none 0 0))))), none⟩] none [0, 3])
  (.seq (.seq (.region [⟨(some 6), (.mv (.t 0)), none⟩,
    ⟨(some 7), (.len false (.t 6)), none⟩,
    ⟨(some 8), (.mv (.c (.p (.s (.int .i64 0))))), none⟩] none [3, 6, 7, 8])
  (.block 0 (.loop ir36_0)))
  (.seq (.region [⟨(some 16), (.mv (.t 3)), none⟩,
    ⟨(some 2), (.mv (.t 16)), none⟩] none [2])
  .ret)))), [(2, none)], false⟩
/-- kinfolk/kinfolkref14.Entries -/
def ir37_0 : IRC := (.seq (.region [⟨(some 13), (.bin .lss (.t 12) (.t 11)), none⟩] none [3, 10, 11, 12, 13])
  (.seq (.cond (.t 13) .skip (.exit 0))
  (.seq (.block 1 (.seq (.region [⟨(some 14), (.idxASl 4 (.t 10) (.t 12)), none⟩,
    ⟨(some 15), (.load 4 true (.t 14)), none⟩,
    ⟨(some 5), (.alloc false [(.s (.int .u32 0)), (.s (.pointer none)), (.s (.slice none 0 0)), (.s (.bool false))]), none⟩,
    ⟨none, (.store 4 (.t 5) (.t 15)), none⟩] none [3, 5, 10, 11, 12])
  (.region [⟨(some 16), (.mv (.t 3)), none⟩,
    ⟨(some 17), (.fieldAddr 0 (.t 5)), none⟩,
    ⟨(some 18), (.load 1 false (.t 17)), none⟩,
    ⟨(some 19), (.cvt .u64 (.t 18)), none⟩,
    ⟨(some 20), (.call 32 [(.t 19)]), none⟩,
    ⟨(some 21), (.fieldAddr 1 (.t 5)), none⟩,
    ⟨(some 22), (.load 3 true (.t 21)), none⟩,
    ⟨(some 23), (.call 82 [(.t 22)]), none⟩,
    ⟨(some 24), (.b2s (.t 23)), none⟩,
    ⟨(some 25), (.call 33 [(.t 24)]), none⟩,
    ⟨(some 26), (.mkSl false 3 1 [(.s (.slice none 0 0)), (.s (.slice none 0 0)), (.s (.slice none 0 0))] [(0, 1, (.t 16)), (1, 1, (.t 20)), (2, 1, (.t 25))]), none⟩,
    ⟨(some 27), (.call 36 [(.t 26)]), none⟩,
    ⟨(some 3), (.mv (.t 27)), none⟩] (some [0, 0, 2, 6, 14, 0, 32, 126, 254, 510, 1023, 2047, 4095]) [3, 10, 11, 12])))
  (.region [⟨(some 28), (.bin .add (.t 12) (.c (.p (.s (.int .i64 1))))), none⟩,
    ⟨(some 12), (.mv (.t 28)), none⟩] none [3, 10, 11, 12]))))
def ir37 : IRF := ⟨[0], (.seq (.region [⟨(some 2), (.mv (.c (.p (.s (.slice none 0 0))))), none⟩] none [0])
  (.seq (.region [⟨(some 6), (.mv (.t 0)), none⟩,
    ⟨(some 7), (.len false (.t 6)), none⟩,
    ⟨(some 8), (.cvt .u64 (.t 7)), none⟩,
    ⟨(some 9), (.call 32 [(.t 8)]), none⟩,
    ⟨(some 3), (.mv (.t 9)), none⟩] none [0, 3])
  (.seq (.seq (.region [⟨(some 10), (.mv (.t 0)), none⟩,
    ⟨(some 11), (.len false (.t 10)), none⟩,
    ⟨(some 12), (.mv (.c (.p (.s (.int .i64 0))))), none⟩] none [3, 10, 11, 12])
  (.block 0 (.loop ir37_0)))
  (.seq (.region [⟨(some 29), (.mv (.t 3)), none⟩,
    ⟨(some 2), (.mv (.t 29)), none⟩] none [2])
  .ret)))), [(2, none)], false⟩
/-- kinfolk/kinfolkref15.PutGift -/
def ir38 : IRF := ⟨[0], (.seq (.region [⟨(some 1), (.box false (.t 0)), none⟩,
    ⟨(some 2), (.mv (.c (.p (.s (.slice none 0 0))))), none⟩] none [1])
  (.seq (.region [⟨(some 3), (.fieldAddr 0 (.t 1)), none⟩,
    ⟨(some 4), (.load 1 false (.t 3)), none⟩,
    ⟨(some 5), (.call 32 [(.t 4)]), none⟩,
    ⟨(some 6), (.fieldAddr 1 (.t 1)), none⟩,
    ⟨(some 7), (.load 1 false (.t 6)), none⟩,
    ⟨(some 8), (.cvt .u64 (.t 7)), none⟩,
    ⟨(some 9), (.call 32 [(.t 8)]), none⟩,
    ⟨(some 10), (.fieldAddr 2 (.t 1)), none⟩,
    ⟨(some 11), (.load 1 false (.t 10)), none⟩,
    ⟨(some 12), (.cvt .u64 (.t 11)), none⟩,
    ⟨(some 13), (.call 32 [(.t 12)]), none⟩,
    ⟨(some 14), (.fieldAddr 3 (.t 1)), none⟩,
    ⟨(some 15), (.load 1 false (.t 14)), none⟩,
    ⟨(some 16), (.call 83 [(.c (.p (.s (.slice none 0 0)))), (.t 15)]), none⟩,
    ⟨(some 17), (.call 34 [(.t 16)]), none⟩,
    ⟨(some 18), (.b2s (.t 17)), none⟩,
    ⟨(some 19), (.call 33 [(.t 18)]), none⟩,
    ⟨(some 20), (.mkSl false 4 1 [(.s (.slice none 0 0)), (.s (.slice none 0 0)), (.s (.slice none 0 0)), (.s (.slice none 0 0))] [(0, 1, (.t 5)), (1, 1, (.t 9)), (2, 1, (.t 13)), (3, 1, (.t 19))]), none⟩,
    ⟨(some 21), (.call 36 [(.t 20)]), none⟩,
    ⟨(some 2), (.mv (.t 21)), none⟩] (some [0, 1, 3, 0, 8, 24, 63, 0, 128, 384, 1023, 0, 2048, 8191, 16383, 32767, 65535, 131071, 262143, 524287]) [2])
  .ret)), [(2, none)], false⟩
/-- kinfolk/note.node -/
def ir39 : IRF := ⟨[0], (.seq (.region [⟨(some 2), (.mv (.c (.p (.s (.bool false))))), none⟩] none [0])
  (.seq (.region [⟨(some 3), (.mv (.t 0)), none⟩,
    ⟨(some 4), (.bin .geq (.t 3) (.c (.p (.s (.int .i64 0))))), none⟩,
    ⟨(some 5), (.mv (.t 4)), none⟩,
    ⟨(some 6), (.mv (.t 0)), (some (5, true))⟩,
    ⟨(some 7), (.bin .lss (.t 6) (.c (.p (.s (.int .i64 12))))), (some (5, true))⟩,
    ⟨(some 8), (.pick (.t 5) (.t 7) (.c (.p (.s (.bool false))))), none⟩,
    ⟨(some 2), (.mv (.t 8)), none⟩] none [2])
  .ret)), [(2, none)], false⟩
/-- (kinfolk/note.Note).zero -/
def ir40 : IRF := ⟨[0], (.seq (.region [⟨(some 1), (.box true (.t 0)), none⟩,
    ⟨(some 2), (.mv (.c (.p (.s (.bool false))))), none⟩] none [1])
  (.seq (.seq (.region [⟨(some 7), (.fieldAddr 0 (.t 1)), none⟩,
    ⟨(some 8), (.load 1 false (.t 7)), none⟩,
    ⟨(some 9), (.call 25 [(.t 8)]), none⟩,
    ⟨(some 3), (.alloc false [(.s (.int .i64 0))]), none⟩,
    ⟨none, (.store 1 (.t 3) (.t 9)), none⟩] none [1, 3])
  (.tidy [1] [3]))
  (.seq (.region [⟨(some 10), (.mkFn 84 [] [(.t 3)]), none⟩,
    ⟨(some 4), (.mv (.t 10)), none⟩] none [1, 4])
  (.seq (.region [⟨(some 11), (.fieldAddr 6 (.t 1)), none⟩,
    ⟨(some 12), (.load 2 true (.t 11)), none⟩,
    ⟨(some 13), (.build [(.s (.int .u64 0)), (.s (.pointer none))] []), none⟩,
    ⟨(some 14), (.call 85 [(.t 12), (.t 13)]), none⟩,
    ⟨(some 5), (.mv (.t 14)), none⟩] none [1, 4, 5])
  (.seq (.region [⟨(some 15), (.fieldAddr 9 (.t 1)), none⟩,
    ⟨(some 16), (.fieldAddr 0 (.t 15)), none⟩,
    ⟨(some 17), (.load 1 false (.t 16)), none⟩,
    ⟨(some 18), (.bin .eql (.t 17) (.c (.p (.s (.int .u64 0))))), none⟩,
    ⟨(some 19), (.mv (.t 18)), none⟩,
    ⟨(some 20), (.fieldAddr 9 (.t 1)), (some (19, true))⟩,
    ⟨(some 21), (.fieldAddr 1 (.t 20)), (some (19, true))⟩,
    ⟨(some 22), (.load 1 false (.t 21)), (some (19, true))⟩,
    ⟨(some 23), (.bin .eql (.t 22) (.c (.p (.s (.int .i64 0))))), (some (19, true))⟩,
    ⟨(some 24), (.pick (.t 19) (.t 23) (.c (.p (.s (.bool false))))), none⟩,
    ⟨(some 25), (.mv (.t 24)), none⟩,
    ⟨(some 26), (.fieldAddr 9 (.t 1)), (some (25, true))⟩,
    ⟨(some 27), (.fieldAddr 2 (.t 26)), (some (25, true))⟩,
    ⟨(some 28), (.load 1 false (.t 27)), (some (25, true))⟩,
    ⟨(some 29), (.bin .eql (.t 28) (.c (.p (.s (.int .i64 0))))), (some (25, true))⟩,
    ⟨(some 30), (.pick (.t 25) (.t 29) (.c (.p (.s (.bool false))))), none⟩,
    ⟨(some 31), (.mv (.t 30)), none⟩,
    ⟨(some 32), (.fieldAddr 9 (.t 1)), (some (31, true))⟩,
    ⟨(some 33), (.fieldAddr 3 (.t 32)), (some (31, true))⟩,
    ⟨(some 34), (.load 2 true (.t 33)), (some (31, true))⟩,
    ⟨(some 35), (.call 86 [(.t 34)]), (some (31, true))⟩,
    ⟨(some 36), (.pick (.t 31) (.t 35) (.c (.p (.s (.bool false))))), none⟩,
    ⟨(some 6), (.mv (.t 36)), none⟩] none [1, 4, 5, 6])
  (.seq (.region [⟨(some 37), (.mv (.t 4)), none⟩,
    ⟨(some 38), (.fieldAddr 3 (.t 1)), none⟩,
    ⟨(some 39), (.load 1 false (.t 38)), none⟩,
    ⟨(some 40), (.bin .eql (.t 39) (.c (.p (.s (.int .u64 0))))), none⟩,
    ⟨(some 41), (.callv (.t 37) [(.c (.p (.s (.int .i64 1)))), (.t 40)]), none⟩,
    ⟨(some 42), (.mv (.t 41)), none⟩,
    ⟨(some 43), (.mv (.t 4)), (some (42, true))⟩,
    ⟨(some 44), (.fieldAddr 4 (.t 1)), (some (42, true))⟩,
    ⟨(some 45), (.load 1 false (.t 44)), (some (42, true))⟩,
    ⟨(some 46), (.bin .eql (.t 45) (.c (.p (.s (.int .i64 0))))), (some (42, true))⟩,
    ⟨(some 47), (.callv (.t 43) [(.c (.p (.s (.int .i64 2)))), (.t 46)]), (some (42, true))⟩,
    ⟨(some 48), (.pick (.t 42) (.t 47) (.c (.p (.s (.bool false))))), none⟩,
    ⟨(some 49), (.mv (.t 48)), none⟩,
    ⟨(some 50), (.mv (.t 4)), (some (49, true))⟩,
    ⟨(some 51), (.fieldAddr 5 (.t 1)), (some (49, true))⟩,
    ⟨(some 52), (.load 1 false (.t 51)), (some (49, true))⟩,
    ⟨(some 53), (.un .not (.t 52)), (some (49, true))⟩,
    ⟨(some 54), (.callv (.t 50) [(.c (.p (.s (.int .i64 16)))), (.t 53)]), (some (49, true))⟩,
    ⟨(some 55), (.pick (.t 49) (.t 54) (.c (.p (.s (.bool false))))), none⟩,
    ⟨(some 56), (.mv (.t 55)), none⟩,
    ⟨(some 57), (.mv (.t 4)), (some (56, true))⟩,
    ⟨(some 58), (.mv (.t 5)), (some (56, true))⟩,
    ⟨(some 59), (.callv (.t 57) [(.c (.p (.s (.int .i64 8)))), (.t 58)]), (some (56, true))⟩,
    ⟨(some 60), (.pick (.t 56) (.t 59) (.c (.p (.s (.bool false))))), none⟩,
    ⟨(some 61), (.mv (.t 60)), none⟩,
    ⟨(some 62), (.mv (.t 4)), (some (61, true))⟩,
    ⟨(some 63), (.fieldAddr 8 (.t 1)), (some (61, true))⟩,
    ⟨(some 64), (.load 1 false (.t 63)), (some (61, true))⟩,
    ⟨(some 65), (.len false (.t 64)), (some (61, true))⟩,
    ⟨(some 66), (.bin .eql (.t 65) (.c (.p (.s (.int .i64 0))))), (some (61, true))⟩,
    ⟨(some 67), (.callv (.t 62) [(.c (.p (.s (.int .i64 4)))), (.t 66)]), (some (61, true))⟩,
    ⟨(some 68), (.pick (.t 61) (.t 67) (.c (.p (.s (.bool false))))), none⟩,
    ⟨(some 69), (.mv (.t 68)), none⟩,
    ⟨(some 70), (.mv (.t 4)), (some (69, true))⟩,
    ⟨(some 71), (.mv (.t 6)), (some (69, true))⟩,
    ⟨(some 72), (.callv (.t 70) [(.c (.p (.s (.int .i64 32)))), (.t 71)]), (some (69, true))⟩,
    ⟨(some 73), (.pick (.t 69) (.t 72) (.c (.p (.s (.bool false))))), none⟩,
    ⟨(some 74), (.mv (.t 73)), none⟩,
    ⟨(some 75), (.mv (.t 4)), (some (74, true))⟩,
    ⟨(some 76), (.fieldAddr 14 (.t 1)), (some (74, true))⟩,
    ⟨(some 77), (.load 1 false (.t 76)), (some (74, true))⟩,
    ⟨(some 78), (.bin .eql (.t 77) (.c (.p (.s (.int .u64 0))))), (some (74, true))⟩,
    ⟨(some 79), (.callv (.t 75) [(.c (.p (.s (.int .i64 64)))), (.t 78)]), (some (74, true))⟩,
    ⟨(some 80), (.pick (.t 74) (.t 79) (.c (.p (.s (.bool false))))), none⟩,
    ⟨(some 2), (.mv (.t 80)), none⟩] none [2])
  .ret)))))), [(2, none)], false⟩
/-- (kinfolk/note.Note).told -/
def ir41 : IRF := ⟨[0], (.seq (.region [⟨(some 1), (.box false (.t 0)), none⟩,
    ⟨(some 2), (.mv (.c (.p (.s (.bool false))))), none⟩] none [1])
  (.seq (.region [⟨(some 3), (.fieldAddr 8 (.t 1)), none⟩,
    ⟨(some 4), (.load 1 false (.t 3)), none⟩,
    ⟨(some 5), (.mkFn 88 [] [(.t 1)]), none⟩,
    ⟨(some 6), (.call 87 [(.t 4), (.t 5)]), none⟩,
    ⟨(some 7), (.un .not (.t 6)), none⟩,
    ⟨(some 2), (.mv (.t 7)), none⟩] none [2])
  .ret)), [(2, none)], false⟩
/-- (kinfolk/deed.Gift).Right -/
def ir42 : IRF := ⟨[0], (.seq (.region [⟨(some 1), (.box false (.t 0)), none⟩,
    ⟨(some 2), (.mv (.c (.p (.s (.bool false))))), none⟩] none [1])
  (.seq (.region [⟨(some 3), (.fieldAddr 0 (.t 1)), none⟩,
    ⟨(some 4), (.load 1 false (.t 3)), none⟩,
    ⟨(some 5), (.bin .geq (.t 4) (.c (.p (.s (.int .u64 1))))), none⟩,
    ⟨(some 6), (.mv (.t 5)), none⟩,
    ⟨(some 7), (.fieldAddr 0 (.t 1)), (some (6, true))⟩,
    ⟨(some 8), (.load 1 false (.t 7)), (some (6, true))⟩,
    ⟨(some 9), (.bin .lss (.t 8) (.c (.p (.s (.int .u64 4611686018427387904))))), (some (6, true))⟩,
    ⟨(some 10), (.pick (.t 6) (.t 9) (.c (.p (.s (.bool false))))), none⟩,
    ⟨(some 11), (.mv (.t 10)), none⟩,
    ⟨(some 12), (.fieldAddr 1 (.t 1)), (some (11, true))⟩,
    ⟨(some 13), (.load 1 false (.t 12)), (some (11, true))⟩,
    ⟨(some 14), (.call 91 [(.t 13)]), (some (11, true))⟩,
    ⟨(some 15), (.pick (.t 11) (.t 14) (.c (.p (.s (.bool false))))), none⟩,
    ⟨(some 16), (.mv (.t 15)), none⟩,
    ⟨(some 17), (.fieldAddr 2 (.t 1)), (some (16, true))⟩,
    ⟨(some 18), (.load 1 false (.t 17)), (some (16, true))⟩,
    ⟨(some 19), (.call 91 [(.t 18)]), (some (16, true))⟩,
    ⟨(some 20), (.pick (.t 16) (.t 19) (.c (.p (.s (.bool false))))), none⟩,
    ⟨(some 21), (.mv (.t 20)), none⟩,
    ⟨(some 22), (.fieldAddr 1 (.t 1)), (some (21, true))⟩,
    ⟨(some 23), (.load 1 false (.t 22)), (some (21, true))⟩,
    ⟨(some 24), (.fieldAddr 2 (.t 1)), (some (21, true))⟩,
    ⟨(some 25), (.load 1 false (.t 24)), (some (21, true))⟩,
    ⟨(some 26), (.bin .neq (.t 23) (.t 25)), (some (21, true))⟩,
    ⟨(some 27), (.pick (.t 21) (.t 26) (.c (.p (.s (.bool false))))), none⟩,
    ⟨(some 28), (.mv (.t 27)), none⟩,
    ⟨(some 29), (.fieldAddr 3 (.t 1)), (some (28, true))⟩,
    ⟨(some 30), (.load 2 true (.t 29)), (some (28, true))⟩,
    ⟨(some 31), (.call 86 [(.t 30)]), (some (28, true))⟩,
    ⟨(some 32), (.un .not (.t 31)), (some (28, true))⟩,
    ⟨(some 33), (.pick (.t 28) (.t 32) (.c (.p (.s (.bool false))))), none⟩,
    ⟨(some 2), (.mv (.t 33)), none⟩] none [2])
  .ret)), [(2, none)], false⟩
/-- kinfolk/kinfolkref15.Right -/
def ir43 : IRF := ⟨[0], (.seq (.region [⟨(some 1), (.box false (.t 0)), none⟩,
    ⟨(some 2), (.mv (.c (.p (.s (.bool false))))), none⟩] none [1])
  (.seq (.region [⟨(some 3), (.fieldAddr 0 (.t 1)), none⟩,
    ⟨(some 4), (.load 1 false (.t 3)), none⟩,
    ⟨(some 5), (.bin .gtr (.t 4) (.c (.p (.s (.int .u64 0))))), none⟩,
    ⟨(some 6), (.mv (.t 5)), none⟩,
    ⟨(some 7), (.fieldAddr 0 (.t 1)), (some (6, true))⟩,
    ⟨(some 8), (.load 1 false (.t 7)), (some (6, true))⟩,
    ⟨(some 9), (.bin .lss (.t 8) (.c (.p (.s (.int .u64 4611686018427387904))))), (some (6, true))⟩,
    ⟨(some 10), (.pick (.t 6) (.t 9) (.c (.p (.s (.bool false))))), none⟩,
    ⟨(some 11), (.mv (.t 10)), none⟩,
    ⟨(some 12), (.fieldAddr 1 (.t 1)), (some (11, true))⟩,
    ⟨(some 13), (.load 1 false (.t 12)), (some (11, true))⟩,
    ⟨(some 14), (.bin .geq (.t 13) (.c (.p (.s (.int .i64 0))))), (some (11, true))⟩,
    ⟨(some 15), (.pick (.t 11) (.t 14) (.c (.p (.s (.bool false))))), none⟩,
    ⟨(some 16), (.mv (.t 15)), none⟩,
    ⟨(some 17), (.fieldAddr 1 (.t 1)), (some (16, true))⟩,
    ⟨(some 18), (.load 1 false (.t 17)), (some (16, true))⟩,
    ⟨(some 19), (.bin .lss (.t 18) (.c (.p (.s (.int .i64 12))))), (some (16, true))⟩,
    ⟨(some 20), (.pick (.t 16) (.t 19) (.c (.p (.s (.bool false))))), none⟩,
    ⟨(some 21), (.mv (.t 20)), none⟩,
    ⟨(some 22), (.fieldAddr 2 (.t 1)), (some (21, true))⟩,
    ⟨(some 23), (.load 1 false (.t 22)), (some (21, true))⟩,
    ⟨(some 24), (.bin .geq (.t 23) (.c (.p (.s (.int .i64 0))))), (some (21, true))⟩,
    ⟨(some 25), (.pick (.t 21) (.t 24) (.c (.p (.s (.bool false))))), none⟩,
    ⟨(some 26), (.mv (.t 25)), none⟩,
    ⟨(some 27), (.fieldAddr 2 (.t 1)), (some (26, true))⟩,
    ⟨(some 28), (.load 1 false (.t 27)), (some (26, true))⟩,
    ⟨(some 29), (.bin .lss (.t 28) (.c (.p (.s (.int .i64 12))))), (some (26, true))⟩,
    ⟨(some 30), (.pick (.t 26) (.t 29) (.c (.p (.s (.bool false))))), none⟩,
    ⟨(some 31), (.mv (.t 30)), none⟩,
    ⟨(some 32), (.fieldAddr 1 (.t 1)), (some (31, true))⟩,
    ⟨(some 33), (.load 1 false (.t 32)), (some (31, true))⟩,
    ⟨(some 34), (.fieldAddr 2 (.t 1)), (some (31, true))⟩,
    ⟨(some 35), (.load 1 false (.t 34)), (some (31, true))⟩,
    ⟨(some 36), (.bin .neq (.t 33) (.t 35)), (some (31, true))⟩,
    ⟨(some 37), (.pick (.t 31) (.t 36) (.c (.p (.s (.bool false))))), none⟩,
    ⟨(some 38), (.mv (.t 37)), none⟩,
    ⟨(some 39), (.fieldAddr 3 (.t 1)), (some (38, true))⟩,
    ⟨(some 40), (.load 1 false (.t 39)), (some (38, true))⟩,
    ⟨(some 41), (.nilCk (.t 40)), (some (38, true))⟩,
    ⟨(some 42), (.fieldAddr 0 (.t 41)), (some (38, true))⟩,
    ⟨(some 43), (.load 1 false (.t 42)), (some (38, true))⟩,
    ⟨(some 44), (.bin .neq (.t 43) (.c (.p (.s (.int .i64 0))))), (some (38, true))⟩,
    ⟨(some 45), (.pick (.t 38) (.t 44) (.c (.p (.s (.bool false))))), none⟩,
    ⟨(some 2), (.mv (.t 45)), none⟩] none [2])
  .ret)), [(2, none)], false⟩
/-- kinfolk/kinfolkref02.Leq -/
def ir44 : IRF := ⟨[0, 1], (.seq (.region [⟨(some 4), (.mv (.c (.p (.s (.bool false))))), none⟩] none [0, 1])
  (.seq (.seq (.region [⟨(some 5), (.mv (.t 0)), none⟩,
    ⟨(some 6), (.nilCk (.t 5)), none⟩,
    ⟨(some 7), (.fieldAddr 1 (.t 6)), none⟩,
    ⟨(some 8), (.load 1 false (.t 7)), none⟩,
    ⟨(some 9), (.eq false .ptr (.t 8) (.c (.p (.s (.pointer none))))), none⟩,
    ⟨(some 10), (.mv (.t 9)), none⟩,
    ⟨(some 11), (.mv (.t 1)), (some (10, true))⟩,
    ⟨(some 12), (.nilCk (.t 11)), (some (10, true))⟩,
    ⟨(some 13), (.fieldAddr 1 (.t 12)), (some (10, true))⟩,
    ⟨(some 14), (.load 1 false (.t 13)), (some (10, true))⟩,
    ⟨(some 15), (.eq false .ptr (.t 14) (.c (.p (.s (.pointer none))))), (some (10, true))⟩,
    ⟨(some 16), (.pick (.t 10) (.t 15) (.c (.p (.s (.bool false))))), none⟩] none [0, 1, 16])
  (.cond (.t 16) (.seq (.region [⟨(some 17), (.mv (.t 0)), none⟩,
    ⟨(some 18), (.nilCk (.t 17)), none⟩,
    ⟨(some 19), (.fieldAddr 0 (.t 18)), none⟩,
    ⟨(some 20), (.load 1 false (.t 19)), none⟩,
    ⟨(some 21), (.mv (.t 1)), none⟩,
    ⟨(some 22), (.nilCk (.t 21)), none⟩,
    ⟨(some 23), (.fieldAddr 0 (.t 22)), none⟩,
    ⟨(some 24), (.load 1 false (.t 23)), none⟩,
    ⟨(some 25), (.bin .leq (.t 20) (.t 24)), none⟩,
    ⟨(some 4), (.mv (.t 25)), none⟩] (some [0, 1, 3, 7, 0, 16, 48, 112, 255, 511]) [4])
  .ret) .skip))
  (.seq (.region [⟨(some 26), (.mv (.t 0)), none⟩,
    ⟨(some 27), (.call 92 [(.t 26)]), none⟩,
    ⟨(some 28), (.mv (.t 1)), none⟩,
    ⟨(some 29), (.call 92 [(.t 28)]), none⟩,
    ⟨(some 30), (.call 44 [(.t 27), (.t 29)]), none⟩,
    ⟨(some 31), (.mv (.t 30)), none⟩,
    ⟨(some 32), (.mv (.t 0)), (some (31, true))⟩,
    ⟨(some 33), (.call 93 [(.t 32)]), (some (31, true))⟩,
    ⟨(some 34), (.mv (.t 1)), (some (31, true))⟩,
    ⟨(some 35), (.call 93 [(.t 34)]), (some (31, true))⟩,
    ⟨(some 36), (.call 44 [(.t 33), (.t 35)]), (some (31, true))⟩,
    ⟨(some 37), (.pick (.t 31) (.t 36) (.c (.p (.s (.bool false))))), none⟩,
    ⟨(some 4), (.mv (.t 37)), none⟩] none [4])
  .ret))), [(4, none)], false⟩
/-- kinfolk/wire.Open -/
def ir45 : IRF := ⟨[0], (.seq (.region [⟨(some 2), (.mv (.c (.p (.s (.slice none 0 0))))), none⟩,
    ⟨(some 3), (.mv (.c (.p (.s (.int .i64 0))))), none⟩,
    ⟨(some 4), (.mv (.c (.p (.s (.int .i64 0))))), none⟩] none [0])
  (.seq (.seq (.region [⟨(some 7), (.mv (.t 0)), none⟩,
    ⟨(some 8), (.len false (.t 7)), none⟩,
    ⟨(some 9), (.bin .lss (.t 8) (.c (.p (.s (.int .i64 8))))), none⟩] none [0, 9])
  (.cond (.t 9) (.seq (.region [⟨(some 2), (.mv (.c (.p (.s (.slice none 0 0))))), none⟩,
    ⟨(some 3), (.mv (.c (.p (.s (.int .i64 0))))), none⟩,
    ⟨(some 4), (.mv (.c (.p (.s (.int .i64 6))))), none⟩] none [2, 3, 4])
  .ret) .skip))
  (.seq (.region [⟨(some 10), (.mv (.t 0)), none⟩,
    ⟨(some 11), (.call 94 [(.t 10)]), none⟩,
    ⟨(some 5), (.mv (.t 11)), none⟩] none [0, 5])
  (.seq (.block 0 (.seq (.region [⟨(some 13), (.mv (.t 5)), none⟩,
    ⟨(some 14), (.bin .gtr (.t 13) (.c (.p (.s (.int .u32 1048576))))), none⟩,
    ⟨(some 12), (.mv (.t 14)), none⟩] none [0, 5, 12])
  (.cond (.t 12) (.seq (.region [⟨(some 2), (.mv (.c (.p (.s (.slice none 0 0))))), none⟩,
    ⟨(some 3), (.mv (.c (.p (.s (.int .i64 0))))), none⟩,
    ⟨(some 4), (.mv (.c (.p (.s (.int .i64 9))))), none⟩] none [2, 3, 4])
  .ret) (.seq (.region [⟨(some 16), (.mv (.t 5)), none⟩,
    ⟨(some 17), (.cvt .i64 (.t 16)), none⟩,
    ⟨(some 18), (.mv (.t 0)), none⟩,
    ⟨(some 19), (.len false (.t 18)), none⟩,
    ⟨(some 20), (.bin .sub (.t 19) (.c (.p (.s (.int .i64 8))))), none⟩,
    ⟨(some 21), (.bin .gtr (.t 17) (.t 20)), none⟩,
    ⟨(some 15), (.mv (.t 21)), none⟩] none [0, 5, 15])
  (.cond (.t 15) (.seq (.region [⟨(some 2), (.mv (.c (.p (.s (.slice none 0 0))))), none⟩,
    ⟨(some 3), (.mv (.c (.p (.s (.int .i64 0))))), none⟩,
    ⟨(some 4), (.mv (.c (.p (.s (.int .i64 6))))), none⟩] none [2, 3, 4])
  .ret) .skip)))))
  (.seq (.region [⟨(some 22), (.mv (.t 0)), none⟩,
    ⟨(some 23), (.mv (.t 5)), none⟩,
    ⟨(some 24), (.cvt .i64 (.t 23)), none⟩,
    ⟨(some 25), (.bin .add (.c (.p (.s (.int .i64 8)))) (.t 24)), none⟩,
    ⟨(some 26), (.slSl 1 (.t 22) (some (.c (.p (.s (.int .i64 8))))) (some (.t 25)) none), none⟩,
    ⟨(some 27), (.call 95 [(.t 26)]), none⟩,
    ⟨(some 6), (.mv (.t 27)), none⟩] none [0, 5, 6])
  (.seq (.seq (.region [⟨(some 28), (.mv (.t 0)), none⟩,
    ⟨(some 29), (.slSl 1 (.t 28) (some (.c (.p (.s (.int .i64 4))))) none none), none⟩,
    ⟨(some 30), (.call 94 [(.t 29)]), none⟩,
    ⟨(some 31), (.mv (.t 0)), none⟩,
    ⟨(some 32), (.slSl 1 (.t 31) none (some (.c (.p (.s (.int .i64 4))))) (some (.c (.p (.s (.int .i64 4)))))), none⟩,
    ⟨(some 33), (.mv (.t 6)), none⟩,
    ⟨(some 34), (.app 1 1 (.t 32) (.t 33)), none⟩,
    ⟨(some 35), (.call 78 [(.t 34)]), none⟩,
    ⟨(some 36), (.bin .neq (.t 30) (.t 35)), none⟩] (some [0, 1, 3, 0, 8, 0, 63, 127, 255]) [5, 6, 36])
  (.cond (.t 36) (.seq (.region [⟨(some 2), (.mv (.c (.p (.s (.slice none 0 0))))), none⟩,
    ⟨(some 3), (.mv (.c (.p (.s (.int .i64 0))))), none⟩,
    ⟨(some 4), (.mv (.c (.p (.s (.int .i64 13))))), none⟩] none [2, 3, 4])
  .ret) .skip))
  (.seq (.region [⟨(some 37), (.mv (.t 6)), none⟩,
    ⟨(some 38), (.mv (.t 5)), none⟩,
    ⟨(some 39), (.cvt .i64 (.t 38)), none⟩,
    ⟨(some 40), (.bin .add (.c (.p (.s (.int .i64 8)))) (.t 39)), none⟩,
    ⟨(some 2), (.mv (.t 37)), none⟩,
    ⟨(some 3), (.mv (.t 40)), none⟩,
    ⟨(some 4), (.mv (.c (.p (.s (.int .i64 0))))), none⟩] none [2, 3, 4])
  .ret))))))), [(2, none), (3, none), (4, none)], false⟩
/-- kinfolk/wire.Of -/
def ir46 : IRF := ⟨[0], (.seq (.region [⟨(some 2), (.mv (.c (.p (.s (.pointer none))))), none⟩] none [0])
  (.seq (.region [⟨(some 3), (.mv (.t 0)), none⟩,
    ⟨(some 4), (.call 95 [(.t 3)]), none⟩,
    ⟨(some 5), (.build [(.s (.slice none 0 0)), (.s (.int .i64 0))] [(0, 1, (.t 4))]), none⟩,
    ⟨(some 6), (.box false (.t 5)), none⟩,
    ⟨(some 2), (.mv (.t 6)), none⟩] none [2])
  .ret)), [(2, none)], true⟩
/-- (*kinfolk/wire.In).End -/
def ir48 : IRF := ⟨[0], (.seq (.region [⟨(some 2), (.mv (.c (.p (.s (.int .i64 0))))), none⟩] none [0])
  (.seq (.seq (.region [⟨(some 3), (.mv (.t 0)), none⟩,
    ⟨(some 4), (.call 103 [(.t 3)]), none⟩,
    ⟨(some 5), (.bin .gtr (.t 4) (.c (.p (.s (.int .i64 0))))), none⟩] none [0, 5])
  (.cond (.t 5) (.region [⟨(some 6), (.mv (.t 0)), none⟩,
    ⟨(some 7), (.call 97 [(.t 6), (.c (.p (.s (.int .i64 6))))]), none⟩] none [0]) .skip))
  (.seq (.region [⟨(some 8), (.mv (.t 0)), none⟩,
    ⟨(some 9), (.call 104 [(.t 8)]), none⟩,
    ⟨(some 2), (.mv (.t 9)), none⟩] none [2])
  .ret))), [(2, none)], false⟩
/-- kinfolk/kinfolkref06.Open -/
def ir49 : IRF := ⟨[0], (.seq (.region [⟨(some 2), (.mv (.c (.p (.s (.slice none 0 0))))), none⟩,
    ⟨(some 3), (.mv (.c (.p (.s (.int .i64 0))))), none⟩,
    ⟨(some 4), (.mv (.c (.p (.s (.int .i64 0))))), none⟩] none [0])
  (.seq (.seq (.region [⟨(some 7), (.mv (.t 0)), none⟩,
    ⟨(some 8), (.len false (.t 7)), none⟩,
    ⟨(some 9), (.bin .lss (.t 8) (.c (.p (.s (.int .i64 8))))), none⟩] none [0, 9])
  (.cond (.t 9) (.seq (.region [⟨(some 2), (.mv (.c (.p (.s (.slice none 0 0))))), none⟩,
    ⟨(some 3), (.mv (.c (.p (.s (.int .i64 0))))), none⟩,
    ⟨(some 4), (.mv (.c (.p (.s (.int .i64 6))))), none⟩] none [2, 3, 4])
  .ret) .skip))
  (.seq (.region [⟨(some 10), (.mv (.t 0)), none⟩,
    ⟨(some 11), (.call 105 [(.t 10)]), none⟩,
    ⟨(some 5), (.mv (.t 11)), none⟩] none [0, 5])
  (.seq (.seq (.region [⟨(some 12), (.mv (.t 5)), none⟩,
    ⟨(some 13), (.bin .gtr (.t 12) (.c (.p (.s (.int .u32 1048576))))), none⟩] none [0, 5, 13])
  (.cond (.t 13) (.seq (.region [⟨(some 2), (.mv (.c (.p (.s (.slice none 0 0))))), none⟩,
    ⟨(some 3), (.mv (.c (.p (.s (.int .i64 0))))), none⟩,
    ⟨(some 4), (.mv (.c (.p (.s (.int .i64 9))))), none⟩] none [2, 3, 4])
  .ret) .skip))
  (.seq (.region [⟨(some 14), (.mv (.t 5)), none⟩,
    ⟨(some 15), (.cvt .i64 (.t 14)), none⟩,
    ⟨(some 16), (.bin .add (.c (.p (.s (.int .i64 8)))) (.t 15)), none⟩,
    ⟨(some 6), (.mv (.t 16)), none⟩] none [0, 6])
  (.seq (.seq (.region [⟨(some 17), (.mv (.t 6)), none⟩,
    ⟨(some 18), (.mv (.t 0)), none⟩,
    ⟨(some 19), (.len false (.t 18)), none⟩,
    ⟨(some 20), (.bin .gtr (.t 17) (.t 19)), none⟩] none [0, 6, 20])
  (.cond (.t 20) (.seq (.region [⟨(some 2), (.mv (.c (.p (.s (.slice none 0 0))))), none⟩,
    ⟨(some 3), (.mv (.c (.p (.s (.int .i64 0))))), none⟩,
    ⟨(some 4), (.mv (.c (.p (.s (.int .i64 6))))), none⟩] none [2, 3, 4])
  .ret) .skip))
  (.seq (.seq (.region [⟨(some 21), (.mv (.t 0)), none⟩,
    ⟨(some 22), (.slSl 1 (.t 21) (some (.c (.p (.s (.int .i64 4))))) none none), none⟩,
    ⟨(some 23), (.call 105 [(.t 22)]), none⟩,
    ⟨(some 24), (.mv (.t 0)), none⟩,
    ⟨(some 25), (.slSl 1 (.t 24) none (some (.c (.p (.s (.int .i64 4))))) none), none⟩,
    ⟨(some 26), (.mv (.t 0)), none⟩,
    ⟨(some 27), (.mv (.t 6)), none⟩,
    ⟨(some 28), (.slSl 1 (.t 26) (some (.c (.p (.s (.int .i64 8))))) (some (.t 27)) none), none⟩,
    ⟨(some 29), (.mkSl false 2 1 [(.s (.slice none 0 0)), (.s (.slice none 0 0))] [(0, 1, (.t 25)), (1, 1, (.t 28))]), none⟩,
    ⟨(some 30), (.call 36 [(.t 29)]), none⟩,
    ⟨(some 31), (.call 58 [(.t 30)]), none⟩,
    ⟨(some 32), (.bin .neq (.t 23) (.t 31)), none⟩] (some [0, 1, 3, 0, 8, 0, 0, 96, 248, 511, 1023, 2047]) [0, 6, 32])
  (.cond (.t 32) (.seq (.region [⟨(some 2), (.mv (.c (.p (.s (.slice none 0 0))))), none⟩,
    ⟨(some 3), (.mv (.c (.p (.s (.int .i64 0))))), none⟩,
    ⟨(some 4), (.mv (.c (.p (.s (.int .i64 13))))), none⟩] none [2, 3, 4])
  .ret) .skip))
  (.seq (.region [⟨(some 33), (.mv (.t 0)), none⟩,
    ⟨(some 34), (.mv (.t 6)), none⟩,
    ⟨(some 35), (.slSl 1 (.t 33) (some (.c (.p (.s (.int .i64 8))))) (some (.t 34)) none), none⟩,
    ⟨(some 36), (.mkSl false 1 1 [(.s (.slice none 0 0))] [(0, 1, (.t 35))]), none⟩,
    ⟨(some 37), (.call 36 [(.t 36)]), none⟩,
    ⟨(some 38), (.mv (.t 6)), none⟩,
    ⟨(some 2), (.mv (.t 37)), none⟩,
    ⟨(some 3), (.mv (.t 38)), none⟩,
    ⟨(some 4), (.mv (.c (.p (.s (.int .i64 0))))), none⟩] none [2, 3, 4])
  .ret)))))))), [(2, none), (3, none), (4, none)], false⟩
/-- kinfolk/kinfolkref06.Four -/
def ir57 : IRF := ⟨[0], (.seq (.region [⟨(some 2), (.mv (.c (.p (.s (.slice none 0 0))))), none⟩] none [0])
  (.seq (.region [⟨(some 3), (.mv (.t 0)), none⟩,
    ⟨(some 4), (.cvt .u8 (.t 3)), none⟩,
    ⟨(some 5), (.mv (.t 0)), none⟩,
    ⟨(some 6), (.bin .quo (.t 5) (.c (.p (.s (.int .u32 256))))), none⟩,
    ⟨(some 7), (.cvt .u8 (.t 6)), none⟩,
    ⟨(some 8), (.mv (.t 0)), none⟩,
    ⟨(some 9), (.bin .quo (.t 8) (.c (.p (.s (.int .u32 65536))))), none⟩,
    ⟨(some 10), (.cvt .u8 (.t 9)), none⟩,
    ⟨(some 11), (.mv (.t 0)), none⟩,
    ⟨(some 12), (.bin .quo (.t 11) (.c (.p (.s (.int .u32 16777216))))), none⟩,
    ⟨(some 13), (.cvt .u8 (.t 12)), none⟩,
    ⟨(some 14), (.mkSl false 4 1 [(.s (.int .u8 0)), (.s (.int .u8 0)), (.s (.int .u8 0)), (.s (.int .u8 0))] [(0, 1, (.t 4)), (1, 1, (.t 7)), (2, 1, (.t 10)), (3, 1, (.t 13))]), none⟩,
    ⟨(some 2), (.mv (.t 14)), none⟩] none [2])
  .ret)), [(2, none)], false⟩
/-- kinfolk/kinfolkref06.Sum -/
def ir58_0 : IRC := (.seq (.seq (.region [⟨(some 14), (.mv (.t 6)), none⟩,
    ⟨(some 15), (.bin .lss (.t 14) (.c (.p (.s (.int .i64 8))))), none⟩] none [3, 5, 6, 8, 9, 10, 15])
  (.cond (.t 15) .skip (.exit 2)))
  (.seq (.block 3 (.seq (.region [⟨(some 18), (.mv (.t 3)), none⟩,
    ⟨(some 19), (.bin .rem (.t 18) (.c (.p (.s (.int .u32 2))))), none⟩,
    ⟨(some 20), (.mv (.t 5)), none⟩,
    ⟨(some 21), (.bin .rem (.t 20) (.c (.p (.s (.int .u8 2))))), none⟩,
    ⟨(some 22), (.cvt .u32 (.t 21)), none⟩,
    ⟨(some 23), (.bin .neq (.t 19) (.t 22)), none⟩,
    ⟨(some 7), (.mv (.t 23)), none⟩] none [3, 5, 6, 7, 8, 9, 10])
  (.seq (.region [⟨(some 24), (.mv (.t 3)), none⟩,
    ⟨(some 25), (.bin .quo (.t 24) (.c (.p (.s (.int .u32 2))))), none⟩,
    ⟨(some 3), (.mv (.t 25)), none⟩] none [3, 5, 6, 7, 8, 9, 10])
  (.seq (.region [⟨(some 26), (.mv (.t 5)), none⟩,
    ⟨(some 27), (.bin .quo (.t 26) (.c (.p (.s (.int .u8 2))))), none⟩,
    ⟨(some 5), (.mv (.t 27)), none⟩] none [3, 5, 6, 7, 8, 9, 10])
  (.seq (.region [⟨(some 28), (.mv (.t 7)), none⟩] none [3, 5, 6, 8, 9, 10, 28])
  (.cond (.t 28) (.region [⟨(some 29), (.mv (.t 3)), none⟩,
    ⟨(some 30), (.bin .xor (.t 29) (.c (.p (.s (.int .u32 3988292384))))), none⟩,
    ⟨(some 3), (.mv (.t 30)), none⟩] none [3, 5, 6, 8, 9, 10]) .skip))))))
  (.region [⟨(some 16), (.mv (.t 6)), none⟩,
    ⟨(some 17), (.bin .add (.t 16) (.c (.p (.s (.int .i64 1))))), none⟩,
    ⟨(some 6), (.mv (.t 17)), none⟩] none [3, 5, 6, 8, 9, 10])))
def ir58_1 : IRC := (.seq (.region [⟨(some 11), (.bin .lss (.t 10) (.t 9)), none⟩] none [3, 8, 9, 10, 11])
  (.seq (.cond (.t 11) .skip (.exit 0))
  (.seq (.block 1 (.seq (.region [⟨(some 12), (.idxASl 1 (.t 8) (.t 10)), none⟩,
    ⟨(some 13), (.load 1 false (.t 12)), none⟩,
    ⟨(some 5), (.mv (.t 13)), none⟩] none [3, 5, 8, 9, 10])
  (.seq (.region [⟨(some 6), (.mv (.c (.p (.s (.int .i64 0))))), none⟩] none [3, 5, 6, 8, 9, 10])
  (.block 2 (.loop ir58_0)))))
  (.region [⟨(some 31), (.bin .add (.t 10) (.c (.p (.s (.int .i64 1))))), none⟩,
    ⟨(some 10), (.mv (.t 31)), none⟩] none [3, 8, 9, 10]))))
def ir58 : IRF := ⟨[0], (.seq (.region [⟨(some 2), (.mv (.c (.p (.s (.int .u32 0))))), none⟩] none [0])
  (.seq (.region [⟨(some 3), (.mv (.c (.p (.s (.int .u32 4294967295))))), none⟩] none [0, 3])
  (.seq (.seq (.region [⟨(some 8), (.mv (.t 0)), none⟩,
    ⟨(some 9), (.len false (.t 8)), none⟩,
    ⟨(some 10), (.mv (.c (.p (.s (.int .i64 0))))), none⟩] none [3, 8, 9, 10])
  (.block 0 (.loop ir58_1)))
  (.seq (.region [⟨(some 32), (.mv (.t 3)), none⟩,
    ⟨(some 33), (.bin .sub (.c (.p (.s (.int .u32 4294967295)))) (.t 32)), none⟩,
    ⟨(some 2), (.mv (.t 33)), none⟩] none [2])
  .ret)))), [(2, none)], false⟩
/-- kinfolk/kinfolkref02.Leaf -/
def ir59 : IRF := ⟨[0], (.seq (.region [⟨(some 2), (.mv (.c (.p (.s (.pointer none))))), none⟩] none [0])
  (.seq (.region [⟨(some 3), (.mv (.t 0)), none⟩,
    ⟨(some 4), (.build [(.s (.int .u64 0)), (.s (.pointer none)), (.s (.pointer none))] [(0, 1, (.t 3))]), none⟩,
    ⟨(some 5), (.box true (.t 4)), none⟩,
    ⟨(some 2), (.mv (.t 5)), none⟩] none [2])
  .ret)), [(2, none)], false⟩
/-- kinfolk/kinfolkref01.Zero -/
def ir60 : IRF := ⟨[], (.seq (.region [⟨(some 0), (.mv (.c (.p (.s (.pointer none))))), none⟩] none [])
  (.seq (.region [⟨(some 1), (.build [(.s (.int .i64 0)), (.s (.pointer none)), (.s (.pointer none))] []), none⟩,
    ⟨(some 2), (.box true (.t 1)), none⟩,
    ⟨(some 0), (.mv (.t 2)), none⟩] none [0])
  .ret)), [(0, none)], false⟩
/-- kinfolk/kinfolkref02.Node -/
def ir61 : IRF := ⟨[0, 1, 2], (.seq (.region [⟨(some 6), (.mv (.c (.p (.s (.pointer none))))), none⟩] none [0, 1, 2])
  (.seq (.seq (.region [⟨(some 8), (.mv (.t 1)), none⟩,
    ⟨(some 9), (.nilCk (.t 8)), none⟩,
    ⟨(some 10), (.fieldAddr 1 (.t 9)), none⟩,
    ⟨(some 11), (.load 1 false (.t 10)), none⟩,
    ⟨(some 12), (.eq false .ptr (.t 11) (.c (.p (.s (.pointer none))))), none⟩,
    ⟨(some 13), (.mv (.t 12)), none⟩,
    ⟨(some 14), (.mv (.t 2)), (some (13, true))⟩,
    ⟨(some 15), (.nilCk (.t 14)), (some (13, true))⟩,
    ⟨(some 16), (.fieldAddr 1 (.t 15)), (some (13, true))⟩,
    ⟨(some 17), (.load 1 false (.t 16)), (some (13, true))⟩,
    ⟨(some 18), (.eq false .ptr (.t 17) (.c (.p (.s (.pointer none))))), (some (13, true))⟩,
    ⟨(some 19), (.pick (.t 13) (.t 18) (.c (.p (.s (.bool false))))), none⟩,
    ⟨(some 20), (.mv (.t 19)), none⟩,
    ⟨(some 21), (.mv (.t 1)), (some (20, true))⟩,
    ⟨(some 22), (.nilCk (.t 21)), (some (20, true))⟩,
    ⟨(some 23), (.fieldAddr 0 (.t 22)), (some (20, true))⟩,
    ⟨(some 24), (.load 1 false (.t 23)), (some (20, true))⟩,
    ⟨(some 25), (.mv (.t 2)), (some (20, true))⟩,
    ⟨(some 26), (.nilCk (.t 25)), (some (20, true))⟩,
    ⟨(some 27), (.fieldAddr 0 (.t 26)), (some (20, true))⟩,
    ⟨(some 28), (.load 1 false (.t 27)), (some (20, true))⟩,
    ⟨(some 29), (.bin .eql (.t 24) (.t 28)), (some (20, true))⟩,
    ⟨(some 30), (.pick (.t 20) (.t 29) (.c (.p (.s (.bool false))))), none⟩] (some [0, 1, 3, 7, 15, 31, 63, 127, 255, 511, 1023, 2047, 4095, 8191, 16383, 32767, 65535, 8191, 139263, 401407, 925695, 2097151, 4194303]) [0, 1, 2, 30])
  (.cond (.t 30) (.seq (.region [⟨(some 31), (.mv (.t 0)), none⟩,
    ⟨(some 32), (.mv (.t 1)), none⟩,
    ⟨(some 33), (.nilCk (.t 32)), none⟩,
    ⟨(some 34), (.fieldAddr 0 (.t 33)), none⟩,
    ⟨(some 35), (.load 1 false (.t 34)), none⟩,
    ⟨(some 36), (.bin .add (.t 31) (.t 35)), none⟩,
    ⟨(some 37), (.call 59 [(.t 36)]), none⟩,
    ⟨(some 6), (.mv (.t 37)), none⟩] none [6])
  .ret) .skip))
  (.seq (.region [⟨(some 38), (.mv (.t 1)), none⟩,
    ⟨(some 39), (.call 114 [(.t 38)]), none⟩,
    ⟨(some 7), (.mv (.t 39)), none⟩] none [0, 1, 2, 7])
  (.seq (.seq (.region [⟨(some 40), (.mv (.t 2)), none⟩,
    ⟨(some 41), (.call 114 [(.t 40)]), none⟩,
    ⟨(some 42), (.mv (.t 7)), none⟩,
    ⟨(some 43), (.bin .lss (.t 41) (.t 42)), none⟩] none [0, 1, 2, 7, 43])
  (.cond (.t 43) (.region [⟨(some 44), (.mv (.t 2)), none⟩,
    ⟨(some 45), (.call 114 [(.t 44)]), none⟩,
    ⟨(some 7), (.mv (.t 45)), none⟩] none [0, 1, 2, 7]) .skip))
  (.seq (.region [⟨(some 46), (.mv (.t 0)), none⟩,
    ⟨(some 47), (.mv (.t 7)), none⟩,
    ⟨(some 48), (.bin .add (.t 46) (.t 47)), none⟩,
    ⟨(some 49), (.mv (.t 1)), none⟩,
    ⟨(some 50), (.nilCk (.t 49)), none⟩,
    ⟨(some 51), (.fieldAddr 0 (.t 50)), none⟩,
    ⟨(some 52), (.load 1 false (.t 51)), none⟩,
    ⟨(some 53), (.mv (.t 7)), none⟩,
    ⟨(some 54), (.bin .sub (.t 52) (.t 53)), none⟩,
    ⟨(some 55), (.mv (.t 1)), none⟩,
    ⟨(some 56), (.nilCk (.t 55)), none⟩,
    ⟨(some 57), (.fieldAddr 1 (.t 56)), none⟩,
    ⟨(some 58), (.load 1 false (.t 57)), none⟩,
    ⟨(some 59), (.mv (.t 1)), none⟩,
    ⟨(some 60), (.nilCk (.t 59)), none⟩,
    ⟨(some 61), (.fieldAddr 2 (.t 60)), none⟩,
    ⟨(some 62), (.load 1 false (.t 61)), none⟩,
    ⟨(some 63), (.build [(.s (.int .u64 0)), (.s (.pointer none)), (.s (.pointer none))] [(0, 1, (.t 54)), (1, 1, (.t 58)), (2, 1, (.t 62))]), none⟩,
    ⟨(some 64), (.box true (.t 63)), none⟩,
    ⟨(some 65), (.mv (.t 2)), none⟩,
    ⟨(some 66), (.nilCk (.t 65)), none⟩,
    ⟨(some 67), (.fieldAddr 0 (.t 66)), none⟩,
    ⟨(some 68), (.load 1 false (.t 67)), none⟩,
    ⟨(some 69), (.mv (.t 7)), none⟩,
    ⟨(some 70), (.bin .sub (.t 68) (.t 69)), none⟩,
    ⟨(some 71), (.mv (.t 2)), none⟩,
    ⟨(some 72), (.nilCk (.t 71)), none⟩,
    ⟨(some 73), (.fieldAddr 1 (.t 72)), none⟩,
    ⟨(some 74), (.load 1 false (.t 73)), none⟩,
    ⟨(some 75), (.mv (.t 2)), none⟩,
    ⟨(some 76), (.nilCk (.t 75)), none⟩,
    ⟨(some 77), (.fieldAddr 2 (.t 76)), none⟩,
    ⟨(some 78), (.load 1 false (.t 77)), none⟩,
    ⟨(some 79), (.build [(.s (.int .u64 0)), (.s (.pointer none)), (.s (.pointer none))] [(0, 1, (.t 70)), (1, 1, (.t 74)), (2, 1, (.t 78))]), none⟩,
    ⟨(some 80), (.box true (.t 79)), none⟩,
    ⟨(some 81), (.build [(.s (.int .u64 0)), (.s (.pointer none)), (.s (.pointer none))] [(0, 1, (.t 48)), (1, 1, (.t 64)), (2, 1, (.t 80))]), none⟩,
    ⟨(some 82), (.box true (.t 81)), none⟩,
    ⟨(some 6), (.mv (.t 82)), none⟩] (some [0, 0, 3, 0, 8, 24, 56, 0, 248, 0, 512, 1536, 3584, 0, 8192, 24576, 57344, 131064, 262136, 0, 524288, 1572864, 3670016, 0, 16252928, 0, 33554432, 100663296, 234881024, 0, 536870912, 1610612736, 3758096384, 8589410304, 17179344896, 34359738367, 68719476735, 137438953471]) [6])
  .ret))))), [(6, none)], false⟩
/-- kinfolk/event.Leaf -/
def ir62 : IRF := ⟨[0], (.seq (.region [⟨(some 2), (.alloc false [(.s (.int .u64 0)), (.s (.pointer none))]), none⟩,
    ⟨(some 3), (.mv (.c (.p (.s (.int .i64 0))))), none⟩] none [0, 2])
  (.seq (.seq (.region [⟨(some 4), (.mv (.t 0)), none⟩,
    ⟨(some 5), (.bin .gtr (.t 4) (.c (.p (.s (.int .u64 1048576))))), none⟩] none [0, 2, 5])
  (.cond (.t 5) (.seq (.region [⟨(some 6), (.build [(.s (.int .u64 0)), (.s (.pointer none))] []), none⟩,
    ⟨none, (.store 2 (.t 2) (.t 6)), none⟩,
    ⟨(some 3), (.mv (.c (.p (.s (.int .i64 4))))), none⟩] none [2, 3])
  .ret) .skip))
  (.seq (.region [⟨(some 7), (.mv (.t 0)), none⟩,
    ⟨(some 8), (.build [(.s (.int .u64 0)), (.s (.pointer none))] [(0, 1, (.t 7))]), none⟩,
    ⟨none, (.store 2 (.t 2) (.t 8)), none⟩,
    ⟨(some 3), (.mv (.c (.p (.s (.int .i64 0))))), none⟩] none [2, 3])
  .ret))), [(2, some (2, true)), (3, none)], false⟩
/-- kinfolk/event.Node -/
def ir63 : IRF := ⟨[0, 1, 2], (.seq (.region [⟨(some 4), (.box false (.t 1)), none⟩,
    ⟨(some 5), (.box false (.t 2)), none⟩,
    ⟨(some 6), (.alloc false [(.s (.int .u64 0)), (.s (.pointer none))]), none⟩,
    ⟨(some 7), (.mv (.c (.p (.s (.int .i64 0))))), none⟩] none [0, 4, 5, 6])
  (.seq (.region [⟨(some 10), (.mv (.t 0)), none⟩,
    ⟨(some 11), (.minmax false [(.t 10), (.c (.p (.s (.int .u64 2097152))))]), none⟩,
    ⟨(some 12), (.load 2 true (.t 4)), none⟩,
    ⟨(some 13), (.load 2 true (.t 5)), none⟩,
    ⟨(some 14), (.call 115 [(.t 11), (.t 12), (.t 13)]), none⟩,
    ⟨(some 8), (.alloc false [(.s (.int .u64 0)), (.s (.pointer none))]), none⟩,
    ⟨none, (.store 2 (.t 8) (.t 14)), none⟩] none [6, 8])
  (.seq (.seq (.region [⟨(some 15), (.load 2 true (.t 8)), none⟩,
    ⟨(some 16), (.call 116 [(.t 15)]), none⟩,
    ⟨(some 9), (.mv (.t 16)), none⟩] none [6, 8, 9])
  (.seq (.region [⟨(some 17), (.mv (.t 9)), none⟩,
    ⟨(some 18), (.bin .neq (.t 17) (.c (.p (.s (.int .i64 0))))), none⟩] none [6, 8, 9, 18])
  (.cond (.t 18) (.seq (.region [⟨(some 19), (.build [(.s (.int .u64 0)), (.s (.pointer none))] []), none⟩,
    ⟨(some 20), (.mv (.t 9)), none⟩,
    ⟨none, (.store 2 (.t 6) (.t 19)), none⟩,
    ⟨(some 7), (.mv (.t 20)), none⟩] none [6, 7])
  .ret) .skip)))
  (.seq (.region [⟨(some 21), (.load 2 true (.t 8)), none⟩,
    ⟨none, (.store 2 (.t 6) (.t 21)), none⟩,
    ⟨(some 7), (.mv (.c (.p (.s (.int .i64 0))))), none⟩] none [6, 7])
  .ret)))), [(6, some (2, true)), (7, none)], false⟩
/-- kinfolk/kinfolkref01.Pair -/
def ir64 : IRF := ⟨[0, 1], (.seq (.region [⟨(some 4), (.mv (.c (.p (.s (.pointer none))))), none⟩] none [0, 1])
  (.seq (.seq (.region [⟨(some 5), (.mv (.t 0)), none⟩,
    ⟨(some 6), (.nilCk (.t 5)), none⟩,
    ⟨(some 7), (.fieldAddr 0 (.t 6)), none⟩,
    ⟨(some 8), (.load 1 false (.t 7)), none⟩,
    ⟨(some 9), (.mv (.t 1)), none⟩,
    ⟨(some 10), (.nilCk (.t 9)), none⟩,
    ⟨(some 11), (.fieldAddr 0 (.t 10)), none⟩,
    ⟨(some 12), (.load 1 false (.t 11)), none⟩,
    ⟨(some 13), (.bin .eql (.t 8) (.t 12)), none⟩,
    ⟨(some 14), (.mv (.t 13)), none⟩,
    ⟨(some 15), (.mv (.t 0)), (some (14, true))⟩,
    ⟨(some 16), (.nilCk (.t 15)), (some (14, true))⟩,
    ⟨(some 17), (.fieldAddr 0 (.t 16)), (some (14, true))⟩,
    ⟨(some 18), (.load 1 false (.t 17)), (some (14, true))⟩,
    ⟨(some 19), (.bin .lss (.t 18) (.c (.p (.s (.int .i64 2))))), (some (14, true))⟩,
    ⟨(some 20), (.pick (.t 14) (.t 19) (.c (.p (.s (.bool false))))), none⟩] (some [0, 1, 3, 7, 0, 16, 48, 112, 255, 511, 1023, 2047, 4095, 8191, 16383, 32767]) [0, 1, 20])
  (.cond (.t 20) (.seq (.region [⟨(some 21), (.mv (.t 0)), none⟩,
    ⟨(some 4), (.mv (.t 21)), none⟩] none [4])
  .ret) .skip))
  (.seq (.region [⟨(some 22), (.mv (.t 0)), none⟩,
    ⟨(some 23), (.mv (.t 1)), none⟩,
    ⟨(some 24), (.build [(.s (.int .i64 0)), (.s (.pointer none)), (.s (.pointer none))] [(0, 1, (.c (.p (.s (.int .i64 2))))), (1, 1, (.t 22)), (2, 1, (.t 23))]), none⟩,
    ⟨(some 25), (.box true (.t 24)), none⟩,
    ⟨(some 4), (.mv (.t 25)), none⟩] none [4])
  .ret))), [(4, none)], false⟩
/-- kinfolk/id.Zero -/
def ir65 : IRF := ⟨[], (.seq (.region [⟨(some 0), (.alloc false [(.s (.bool false)), (.s (.pointer none))]), none⟩] none [0])
  (.seq (.region [⟨(some 1), (.build [(.s (.bool false)), (.s (.pointer none))] []), none⟩,
    ⟨none, (.store 2 (.t 0) (.t 1)), none⟩] none [0])
  .ret)), [(0, some (2, true))], false⟩
/-- kinfolk/id.One -/
def ir66 : IRF := ⟨[], (.seq (.region [⟨(some 0), (.alloc false [(.s (.bool false)), (.s (.pointer none))]), none⟩] none [0])
  (.seq (.region [⟨(some 1), (.build [(.s (.bool false)), (.s (.pointer none))] [(0, 1, (.c (.p (.s (.bool true)))))]), none⟩,
    ⟨none, (.store 2 (.t 0) (.t 1)), none⟩] none [0])
  .ret)), [(0, some (2, true))], false⟩
/-- kinfolk/id.Pair -/
def ir67 : IRF := ⟨[0, 1], (.seq (.region [⟨(some 2), (.box false (.t 0)), none⟩,
    ⟨(some 3), (.box false (.t 1)), none⟩,
    ⟨(some 4), (.alloc false [(.s (.bool false)), (.s (.pointer none))]), none⟩,
    ⟨(some 5), (.mv (.c (.p (.s (.int .i64 0))))), none⟩] none [2, 3, 4])
  (.seq (.region [⟨(some 7), (.load 2 true (.t 2)), none⟩,
    ⟨(some 8), (.load 2 true (.t 3)), none⟩,
    ⟨(some 9), (.call 117 [(.t 7), (.t 8)]), none⟩,
    ⟨(some 6), (.alloc false [(.s (.bool false)), (.s (.pointer none))]), none⟩,
    ⟨none, (.store 2 (.t 6) (.t 9)), none⟩] none [4, 6])
  (.seq (.seq (.region [⟨(some 10), (.load 2 true (.t 6)), none⟩,
    ⟨(some 11), (.call 118 [(.t 10)]), none⟩,
    ⟨(some 12), (.bin .gtr (.t 11) (.c (.p (.s (.int .i64 16))))), none⟩] none [4, 6, 12])
  (.cond (.t 12) (.seq (.region [⟨(some 13), (.call 65 []), none⟩,
    ⟨none, (.store 2 (.t 4) (.t 13)), none⟩,
    ⟨(some 5), (.mv (.c (.p (.s (.int .i64 3))))), none⟩] none [4, 5])
  .ret) .skip))
  (.seq (.region [⟨(some 14), (.load 2 true (.t 6)), none⟩,
    ⟨none, (.store 2 (.t 4) (.t 14)), none⟩,
    ⟨(some 5), (.mv (.c (.p (.s (.int .i64 0))))), none⟩] none [4, 5])
  .ret)))), [(4, some (2, true)), (5, none)], false⟩
/-- kinfolk/kinfolkref09.Right -/
def ir68 : IRF := ⟨[0], (.seq (.region [⟨(some 1), (.box true (.t 0)), none⟩,
    ⟨(some 2), (.mv (.c (.p (.s (.int .i64 0))))), none⟩] none [1])
  (.seq (.seq (.region [⟨(some 5), (.fieldAddr 0 (.t 1)), none⟩,
    ⟨(some 6), (.load 1 false (.t 5)), none⟩,
    ⟨(some 7), (.bin .lss (.t 6) (.c (.p (.s (.int .i64 1))))), none⟩,
    ⟨(some 8), (.mv (.t 7)), none⟩,
    ⟨(some 9), (.fieldAddr 0 (.t 1)), (some (8, false))⟩,
    ⟨(some 10), (.load 1 false (.t 9)), (some (8, false))⟩,
    ⟨(some 11), (.bin .gtr (.t 10) (.c (.p (.s (.int .i64 6))))), (some (8, false))⟩,
    ⟨(some 12), (.pick (.t 8) (.c (.p (.s (.bool true)))) (.t 11)), none⟩] none [1, 12])
  (.cond (.t 12) (.seq (.region [⟨(some 2), (.mv (.c (.p (.s (.int .i64 1))))), none⟩] none [2])
  .ret) .skip))
  (.seq (.seq (.region [⟨(some 13), (.fieldAddr 1 (.t 1)), none⟩,
    ⟨(some 14), (.load 1 false (.t 13)), none⟩,
    ⟨(some 15), (.call 119 [(.t 14), (.c (.p (.s (.int .i64 12))))]), none⟩,
    ⟨(some 3), (.mv (.t 15)), none⟩] none [1, 3])
  (.seq (.region [⟨(some 16), (.mv (.t 3)), none⟩,
    ⟨(some 17), (.bin .neq (.t 16) (.c (.p (.s (.int .i64 0))))), none⟩] none [1, 3, 17])
  (.cond (.t 17) (.seq (.region [⟨(some 18), (.mv (.t 3)), none⟩,
    ⟨(some 2), (.mv (.t 18)), none⟩] none [2])
  .ret) .skip)))
  (.seq (.seq (.region [⟨(some 19), (.fieldAddr 2 (.t 1)), none⟩,
    ⟨(some 20), (.load 1 false (.t 19)), none⟩,
    ⟨(some 21), (.call 119 [(.t 20), (.c (.p (.s (.int .i64 40))))]), none⟩,
    ⟨(some 4), (.mv (.t 21)), none⟩] none [1, 4])
  (.seq (.region [⟨(some 22), (.mv (.t 4)), none⟩,
    ⟨(some 23), (.bin .neq (.t 22) (.c (.p (.s (.int .i64 0))))), none⟩] none [1, 4, 23])
  (.cond (.t 23) (.seq (.region [⟨(some 24), (.mv (.t 4)), none⟩,
    ⟨(some 2), (.mv (.t 24)), none⟩] none [2])
  .ret) .skip)))
  (.seq (.seq (.region [⟨(some 25), (.fieldAddr 2 (.t 1)), none⟩,
    ⟨(some 26), (.load 1 false (.t 25)), none⟩,
    ⟨(some 27), (.bin .eql (.t 26) (.c (.p (.s (.string ⟨#[]⟩))))), none⟩,
    ⟨(some 28), (.mv (.t 27)), none⟩,
    ⟨(some 29), (.fieldAddr 2 (.t 1)), (some (28, false))⟩,
    ⟨(some 30), (.load 1 false (.t 29)), (some (28, false))⟩,
    ⟨(some 31), (.call 120 [(.t 30)]), (some (28, false))⟩,
    ⟨(some 32), (.fieldAddr 2 (.t 1)), (some (28, false))⟩,
    ⟨(some 33), (.load 1 false (.t 32)), (some (28, false))⟩,
    ⟨(some 34), (.bin .neq (.t 31) (.t 33)), (some (28, false))⟩,
    ⟨(some 35), (.pick (.t 28) (.c (.p (.s (.bool true)))) (.t 34)), none⟩,
    ⟨(some 36), (.mv (.t 35)), none⟩,
    ⟨(some 37), (.fieldAddr 0 (.t 1)), (some (36, false))⟩,
    ⟨(some 38), (.load 1 false (.t 37)), (some (36, false))⟩,
    ⟨(some 39), (.bin .eql (.t 38) (.c (.p (.s (.int .i64 2))))), (some (36, false))⟩,
    ⟨(some 40), (.mv (.t 39)), (some (36, false))⟩,
    ⟨(some 41), (.fieldAddr 2 (.t 1)), (some (40, true))⟩,
    ⟨(some 42), (.load 1 false (.t 41)), (some (40, true))⟩,
    ⟨(some 43), (.call 121 [(.t 42)]), (some (40, true))⟩,
    ⟨(some 44), (.un .not (.t 43)), (some (40, true))⟩,
    ⟨(some 45), (.pick (.t 40) (.t 44) (.c (.p (.s (.bool false))))), (some (36, false))⟩,
    ⟨(some 46), (.pick (.t 36) (.c (.p (.s (.bool true)))) (.t 45)), none⟩,
    ⟨(some 47), (.mv (.t 46)), none⟩,
    ⟨(some 48), (.fieldAddr 0 (.t 1)), (some (47, false))⟩,
    ⟨(some 49), (.load 1 false (.t 48)), (some (47, false))⟩,
    ⟨(some 50), (.bin .eql (.t 49) (.c (.p (.s (.int .i64 3))))), (some (47, false))⟩,
    ⟨(some 51), (.mv (.t 50)), (some (47, false))⟩,
    ⟨(some 52), (.fieldAddr 2 (.t 1)), (some (51, true))⟩,
    ⟨(some 53), (.load 1 false (.t 52)), (some (51, true))⟩,
    ⟨(some 54), (.call 122 [(.t 53)]), (some (51, true))⟩,
    ⟨(some 55), (.un .not (.t 54)), (some (51, true))⟩,
    ⟨(some 56), (.pick (.t 51) (.t 55) (.c (.p (.s (.bool false))))), (some (47, false))⟩,
    ⟨(some 57), (.pick (.t 47) (.c (.p (.s (.bool true)))) (.t 56)), none⟩] (some [0, 1, 3, 7, 15, 31, 63, 15, 143, 511, 1023, 2047, 4095, 8191, 16383, 32767, 65535, 131071, 262143, 524287, 1048575, 2097151, 4194303, 8388607, 16777215, 33554431, 67108863, 134217727, 268435455, 536870911, 1073741823, 2147483647, 4294967295]) [57])
  (.cond (.t 57) (.seq (.region [⟨(some 2), (.mv (.c (.p (.s (.int .i64 7))))), none⟩] none [2])
  .ret) .skip))
  (.seq (.region [⟨(some 2), (.mv (.c (.p (.s (.int .i64 0))))), none⟩] none [2])
  .ret)))))), [(2, none)], false⟩
/-- (kinfolk/card.Field).Right -/
def ir69 : IRF := ⟨[0], (.seq (.region [⟨(some 1), (.box true (.t 0)), none⟩,
    ⟨(some 2), (.mv (.c (.p (.s (.int .i64 0))))), none⟩] none [1])
  (.seq (.seq (.region [⟨(some 5), (.fieldAddr 0 (.t 1)), none⟩,
    ⟨(some 6), (.load 1 false (.t 5)), none⟩,
    ⟨(some 7), (.call 123 [(.t 6)]), none⟩,
    ⟨(some 8), (.bin .eql (.t 7) (.c (.p (.s (.string ⟨#[]⟩))))), none⟩] none [1, 8])
  (.cond (.t 8) (.seq (.region [⟨(some 2), (.mv (.c (.p (.s (.int .i64 1))))), none⟩] none [2])
  .ret) .skip))
  (.seq (.seq (.region [⟨(some 9), (.fieldAddr 1 (.t 1)), none⟩,
    ⟨(some 10), (.load 1 false (.t 9)), none⟩,
    ⟨(some 11), (.call 124 [(.t 10), (.c (.p (.s (.int .i64 12))))]), none⟩,
    ⟨(some 3), (.mv (.t 11)), none⟩] none [1, 3])
  (.seq (.region [⟨(some 12), (.mv (.t 3)), none⟩,
    ⟨(some 13), (.bin .neq (.t 12) (.c (.p (.s (.int .i64 0))))), none⟩] none [1, 3, 13])
  (.cond (.t 13) (.seq (.region [⟨(some 14), (.mv (.t 3)), none⟩,
    ⟨(some 2), (.mv (.t 14)), none⟩] none [2])
  .ret) .skip)))
  (.seq (.seq (.region [⟨(some 15), (.fieldAddr 2 (.t 1)), none⟩,
    ⟨(some 16), (.load 1 false (.t 15)), none⟩,
    ⟨(some 17), (.call 124 [(.t 16), (.c (.p (.s (.int .i64 40))))]), none⟩,
    ⟨(some 4), (.mv (.t 17)), none⟩] none [1, 4])
  (.seq (.region [⟨(some 18), (.mv (.t 4)), none⟩,
    ⟨(some 19), (.bin .neq (.t 18) (.c (.p (.s (.int .i64 0))))), none⟩] none [1, 4, 19])
  (.cond (.t 19) (.seq (.region [⟨(some 20), (.mv (.t 4)), none⟩,
    ⟨(some 2), (.mv (.t 20)), none⟩] none [2])
  .ret) .skip)))
  (.seq (.block 0 (.seq (.seq (.region [⟨(some 22), (.fieldAddr 2 (.t 1)), none⟩,
    ⟨(some 23), (.load 1 false (.t 22)), none⟩,
    ⟨(some 24), (.bin .eql (.t 23) (.c (.p (.s (.string ⟨#[]⟩))))), none⟩,
    ⟨(some 21), (.mv (.t 24)), none⟩] none [1, 21])
  (.cond (.t 21) .skip (.seq (.region [⟨(some 25), (.fieldAddr 2 (.t 1)), none⟩,
    ⟨(some 26), (.load 1 false (.t 25)), none⟩,
    ⟨(some 27), (.call 125 [(.t 26)]), none⟩,
    ⟨(some 28), (.fieldAddr 2 (.t 1)), none⟩,
    ⟨(some 29), (.load 1 false (.t 28)), none⟩,
    ⟨(some 30), (.bin .neq (.t 27) (.t 29)), none⟩,
    ⟨(some 21), (.mv (.t 30)), none⟩] (some [0, 1, 3, 0, 8, 31, 63]) [1, 21])
  (.cond (.t 21) .skip (.seq (.region [⟨(some 31), (.fieldAddr 0 (.t 1)), none⟩,
    ⟨(some 32), (.load 1 false (.t 31)), none⟩,
    ⟨(some 33), (.bin .eql (.t 32) (.c (.p (.s (.int .i64 2))))), none⟩,
    ⟨(some 34), (.mv (.t 33)), none⟩,
    ⟨(some 35), (.fieldAddr 2 (.t 1)), (some (34, true))⟩,
    ⟨(some 36), (.load 1 false (.t 35)), (some (34, true))⟩,
    ⟨(some 37), (.call 126 [(.t 36)]), (some (34, true))⟩,
    ⟨(some 38), (.un .not (.t 37)), (some (34, true))⟩,
    ⟨(some 39), (.pick (.t 34) (.t 38) (.c (.p (.s (.bool false))))), none⟩,
    ⟨(some 21), (.mv (.t 39)), none⟩] none [1, 21])
  (.cond (.t 21) .skip (.region [⟨(some 40), (.fieldAddr 0 (.t 1)), none⟩,
    ⟨(some 41), (.load 1 false (.t 40)), none⟩,
    ⟨(some 42), (.bin .eql (.t 41) (.c (.p (.s (.int .i64 3))))), none⟩,
    ⟨(some 43), (.mv (.t 42)), none⟩,
    ⟨(some 44), (.fieldAddr 2 (.t 1)), (some (43, true))⟩,
    ⟨(some 45), (.load 1 false (.t 44)), (some (43, true))⟩,
    ⟨(some 46), (.call 127 [(.t 45)]), (some (43, true))⟩,
    ⟨(some 47), (.un .not (.t 46)), (some (43, true))⟩,
    ⟨(some 48), (.pick (.t 43) (.t 47) (.c (.p (.s (.bool false))))), none⟩,
    ⟨(some 21), (.mv (.t 48)), none⟩] none [21])))))))
  (.cond (.t 21) (.seq (.region [⟨(some 2), (.mv (.c (.p (.s (.int .i64 7))))), none⟩] none [2])
  .ret) .skip)))
  (.seq (.region [⟨(some 2), (.mv (.c (.p (.s (.int .i64 0))))), none⟩] none [2])
  .ret)))))), [(2, none)], false⟩
/-- kinfolk/card.made -/
def ir70 : IRF := ⟨[0], (.seq (.region [⟨(some 2), (.alloc false [(.s (.slice none 0 0))]), none⟩] none [0, 2])
  (.seq (.region [⟨(some 3), (.mv (.t 0)), none⟩,
    ⟨(some 4), (.call 128 [(.t 3)]), none⟩,
    ⟨(some 0), (.mv (.t 4)), none⟩] none [0, 2])
  (.seq (.region [⟨(some 5), (.mv (.t 0)), none⟩,
    ⟨(some 6), (.call 129 [(.t 5), (.c (.fn 130 [] []))]), none⟩] none [0, 2])
  (.seq (.region [⟨(some 7), (.mv (.t 0)), none⟩,
    ⟨(some 8), (.call 131 [(.t 7)]), none⟩,
    ⟨(some 9), (.build [(.s (.slice none 0 0))] [(0, 1, (.t 8))]), none⟩,
    ⟨none, (.store 1 (.t 2) (.t 9)), none⟩] none [2])
  .ret)))), [(2, some (1, true))], false⟩
/-- (kinfolk/card.Card).Len -/
def ir71 : IRF := ⟨[0], (.seq (.region [⟨(some 1), (.box false (.t 0)), none⟩,
    ⟨(some 2), (.mv (.c (.p (.s (.int .i64 0))))), none⟩] none [1])
  (.seq (.region [⟨(some 3), (.fieldAddr 0 (.t 1)), none⟩,
    ⟨(some 4), (.load 1 false (.t 3)), none⟩,
    ⟨(some 5), (.len false (.t 4)), none⟩,
    ⟨(some 2), (.mv (.t 5)), none⟩] none [2])
  .ret)), [(2, none)], false⟩
/-- kinfolk/code.ID -/
def ir72 : IRF := ⟨[0], (.seq (.region [⟨(some 1), (.box false (.t 0)), none⟩,
    ⟨(some 2), (.mv (.c (.p (.s (.slice none 0 0))))), none⟩] none [1])
  (.seq (.region [⟨(some 4), (.call 73 []), none⟩,
    ⟨(some 3), (.mv (.t 4)), none⟩] none [1, 3])
  (.seq (.region [⟨(some 5), (.mv (.t 3)), none⟩,
    ⟨(some 6), (.load 2 true (.t 1)), none⟩,
    ⟨(some 7), (.call 132 [(.t 5), (.t 6)]), none⟩] none [3])
  (.seq (.region [⟨(some 8), (.mv (.t 3)), none⟩,
    ⟨(some 9), (.call 75 [(.t 8)]), none⟩,
    ⟨(some 2), (.mv (.t 9)), none⟩] none [2])
  .ret)))), [(2, none)], false⟩
/-- kinfolk/bits.NewWriter -/
def ir73 : IRF := ⟨[], (.seq (.region [⟨(some 0), (.mv (.c (.p (.s (.pointer none))))), none⟩] none [])
  (.seq (.region [⟨(some 1), (.build [(.s (.slice none 0 0)), (.s (.int .i64 0))] []), none⟩,
    ⟨(some 2), (.box false (.t 1)), none⟩,
    ⟨(some 0), (.mv (.t 2)), none⟩] none [0])
  .ret)), [(0, none)], true⟩
/-- kinfolk/code.PutEvent -/
def ir74_0 : IRC := (.seq (.region [⟨(some 78), (.bin .lss (.t 77) (.t 76)), none⟩] none [0, 75, 76, 77, 78])
  (.seq (.cond (.t 78) .skip (.exit 1))
  (.seq (.block 2 (.seq (.region [⟨(some 79), (.idxASl 2 (.t 75) (.t 77)), none⟩,
    ⟨(some 80), (.load 2 true (.t 79)), none⟩,
    ⟨(some 7), (.alloc false [(.s (.int .u64 0)), (.s (.pointer none))]), none⟩,
    ⟨none, (.store 2 (.t 7) (.t 80)), none⟩] none [0, 7, 75, 76, 77])
  (.seq (.region [⟨(some 81), (.load 2 true (.t 7)), none⟩,
    ⟨(some 82), (.call 139 [(.t 81)]), none⟩,
    ⟨(some 83), (.un .not (.t 82)), none⟩] none [0, 7, 75, 76, 77, 83])
  (.cond (.t 83) (.region [⟨(some 84), (.mv (.t 0)), none⟩,
    ⟨(some 85), (.load 2 true (.t 7)), none⟩,
    ⟨(some 86), (.call 74 [(.t 84), (.t 85)]), none⟩] none [0, 75, 76, 77]) .skip))))
  (.region [⟨(some 87), (.bin .add (.t 77) (.c (.p (.s (.int .i64 1))))), none⟩,
    ⟨(some 77), (.mv (.t 87)), none⟩] none [0, 75, 76, 77]))))
def ir74 : IRF := ⟨[0, 1], (.seq (.region [⟨(some 3), (.box false (.t 1)), none⟩] none [0, 3])
  (.seq (.region [⟨(some 8), (.load 2 true (.t 3)), none⟩,
    ⟨(some 9), (.call 133 [(.t 8)]), none⟩,
    ⟨(some 10), (.load 2 true (.t 3)), none⟩,
    ⟨(some 11), (.call 134 [(.t 10)]), none⟩,
    ⟨(some 4), (.alloc false [(.s (.int .u64 0)), (.s (.pointer none))]), none⟩,
    ⟨(some 5), (.alloc false [(.s (.int .u64 0)), (.s (.pointer none))]), none⟩,
    ⟨none, (.store 2 (.t 4) (.t 9)), none⟩,
    ⟨none, (.store 2 (.t 5) (.t 11)), none⟩] (some [0, 1, 0, 7, 0, 0, 63, 127]) [0, 3, 4, 5])
  (.seq (.seq (.region [⟨(some 12), (.load 2 true (.t 3)), none⟩,
    ⟨(some 13), (.call 135 [(.t 12)]), none⟩] none [0, 3, 4, 5, 13])
  (.cond (.t 13) (.seq (.region [⟨(some 14), (.mv (.t 0)), none⟩,
    ⟨(some 15), (.call 136 [(.t 14), (.c (.p (.s (.int .u64 1)))), (.c (.p (.s (.int .i64 1))))]), none⟩] none [0, 3])
  (.seq (.region [⟨(some 16), (.mv (.t 0)), none⟩,
    ⟨(some 17), (.load 2 true (.t 3)), none⟩,
    ⟨(some 18), (.call 138 [(.t 17)]), none⟩,
    ⟨(some 19), (.call 137 [(.t 16), (.t 18)]), none⟩] none [])
  .ret)) .skip))
  (.seq (.region [⟨(some 20), (.mv (.t 0)), none⟩,
    ⟨(some 21), (.call 136 [(.t 20), (.c (.p (.s (.int .u64 0)))), (.c (.p (.s (.int .i64 1))))]), none⟩] none [0, 3, 4, 5])
  (.seq (.block 0 (.seq (.region [⟨(some 27), (.load 2 true (.t 3)), none⟩,
    ⟨(some 28), (.call 138 [(.t 27)]), none⟩,
    ⟨(some 29), (.bin .eql (.t 28) (.c (.p (.s (.int .u64 0))))), none⟩,
    ⟨(some 30), (.mv (.t 29)), none⟩,
    ⟨(some 31), (.load 2 true (.t 4)), (some (30, true))⟩,
    ⟨(some 32), (.call 139 [(.t 31)]), (some (30, true))⟩,
    ⟨(some 33), (.pick (.t 30) (.t 32) (.c (.p (.s (.bool false))))), none⟩,
    ⟨(some 26), (.mv (.t 33)), none⟩] none [0, 3, 4, 5, 26])
  (.cond (.t 26) (.region [⟨(some 34), (.mv (.t 0)), none⟩,
    ⟨(some 35), (.call 136 [(.t 34), (.c (.p (.s (.int .u64 0)))), (.c (.p (.s (.int .i64 2))))]), none⟩] none [0, 3, 4, 5]) (.seq (.region [⟨(some 37), (.load 2 true (.t 3)), none⟩,
    ⟨(some 38), (.call 138 [(.t 37)]), none⟩,
    ⟨(some 39), (.bin .eql (.t 38) (.c (.p (.s (.int .u64 0))))), none⟩,
    ⟨(some 40), (.mv (.t 39)), none⟩,
    ⟨(some 41), (.load 2 true (.t 5)), (some (40, true))⟩,
    ⟨(some 42), (.call 139 [(.t 41)]), (some (40, true))⟩,
    ⟨(some 43), (.pick (.t 40) (.t 42) (.c (.p (.s (.bool false))))), none⟩,
    ⟨(some 36), (.mv (.t 43)), none⟩] none [0, 3, 4, 5, 36])
  (.cond (.t 36) (.region [⟨(some 44), (.mv (.t 0)), none⟩,
    ⟨(some 45), (.call 136 [(.t 44), (.c (.p (.s (.int .u64 1)))), (.c (.p (.s (.int .i64 2))))]), none⟩] none [0, 3, 4, 5]) (.seq (.region [⟨(some 47), (.load 2 true (.t 3)), none⟩,
    ⟨(some 48), (.call 138 [(.t 47)]), none⟩,
    ⟨(some 49), (.bin .eql (.t 48) (.c (.p (.s (.int .u64 0))))), none⟩,
    ⟨(some 46), (.mv (.t 49)), none⟩] none [0, 3, 4, 5, 46])
  (.cond (.t 46) (.region [⟨(some 50), (.mv (.t 0)), none⟩,
    ⟨(some 51), (.call 136 [(.t 50), (.c (.p (.s (.int .u64 2)))), (.c (.p (.s (.int .i64 2))))]), none⟩] none [0, 3, 4, 5]) (.seq (.region [⟨(some 53), (.load 2 true (.t 4)), none⟩,
    ⟨(some 54), (.call 139 [(.t 53)]), none⟩,
    ⟨(some 52), (.mv (.t 54)), none⟩] none [0, 3, 4, 5, 52])
  (.cond (.t 52) (.seq (.region [⟨(some 55), (.mv (.t 0)), none⟩,
    ⟨(some 56), (.call 136 [(.t 55), (.c (.p (.s (.int .u64 3)))), (.c (.p (.s (.int .i64 2))))]), none⟩] none [0, 3, 4, 5])
  (.region [⟨(some 57), (.mv (.t 0)), none⟩,
    ⟨(some 58), (.call 136 [(.t 57), (.c (.p (.s (.int .u64 0)))), (.c (.p (.s (.int .i64 2))))]), none⟩] none [0, 3, 4, 5])) (.seq (.region [⟨(some 60), (.load 2 true (.t 5)), none⟩,
    ⟨(some 61), (.call 139 [(.t 60)]), none⟩,
    ⟨(some 59), (.mv (.t 61)), none⟩] none [0, 3, 4, 5, 59])
  (.cond (.t 59) (.seq (.region [⟨(some 62), (.mv (.t 0)), none⟩,
    ⟨(some 63), (.call 136 [(.t 62), (.c (.p (.s (.int .u64 3)))), (.c (.p (.s (.int .i64 2))))]), none⟩] none [0, 3, 4, 5])
  (.region [⟨(some 64), (.mv (.t 0)), none⟩,
    ⟨(some 65), (.call 136 [(.t 64), (.c (.p (.s (.int .u64 1)))), (.c (.p (.s (.int .i64 2))))]), none⟩] none [0, 3, 4, 5])) (.seq (.region [⟨(some 22), (.mv (.t 0)), none⟩,
    ⟨(some 23), (.call 136 [(.t 22), (.c (.p (.s (.int .u64 3)))), (.c (.p (.s (.int .i64 2))))]), none⟩] none [0, 3, 4, 5])
  (.region [⟨(some 24), (.mv (.t 0)), none⟩,
    ⟨(some 25), (.call 136 [(.t 24), (.c (.p (.s (.int .u64 1)))), (.c (.p (.s (.int .i64 1))))]), none⟩] none [0, 3, 4, 5])))))))))))))
  (.seq (.seq (.region [⟨(some 66), (.load 2 true (.t 3)), none⟩,
    ⟨(some 67), (.call 138 [(.t 66)]), none⟩,
    ⟨(some 68), (.bin .gtr (.t 67) (.c (.p (.s (.int .u64 0))))), none⟩] none [0, 3, 4, 5, 68])
  (.cond (.t 68) (.region [⟨(some 69), (.mv (.t 0)), none⟩,
    ⟨(some 70), (.load 2 true (.t 3)), none⟩,
    ⟨(some 71), (.call 138 [(.t 70)]), none⟩,
    ⟨(some 72), (.call 137 [(.t 69), (.t 71)]), none⟩] none [0, 4, 5]) .skip))
  (.seq (.region [⟨(some 73), (.load 2 true (.t 4)), none⟩,
    ⟨(some 74), (.load 2 true (.t 5)), none⟩,
    ⟨(some 75), (.mkSl false 2 2 [(.s (.int .u64 0)), (.s (.pointer none)), (.s (.int .u64 0)), (.s (.pointer none))] [(0, 2, (.t 73)), (2, 2, (.t 74))]), none⟩,
    ⟨(some 76), (.len false (.t 75)), none⟩,
    ⟨(some 77), (.mv (.c (.p (.s (.int .i64 0))))), none⟩] none [0, 75, 76, 77])
  (.block 1 (.loop ir74_0))))))))), [], false⟩
/-- (*kinfolk/bits.Writer).Bytes -/
def ir75 : IRF := ⟨[0], (.seq (.region [⟨(some 2), (.mv (.c (.p (.s (.slice none 0 0))))), none⟩] none [0])
  (.seq (.seq (.region [⟨(some 3), (.mv (.t 0)), none⟩,
    ⟨(some 4), (.eq false .ptr (.t 3) (.c (.p (.s (.pointer none))))), none⟩] none [0, 4])
  (.cond (.t 4) (.seq (.region [⟨(some 2), (.mv (.c (.p (.s (.slice none 0 0))))), none⟩] none [2])
  .ret) .skip))
  (.seq (.region [⟨(some 5), (.mv (.t 0)), none⟩,
    ⟨(some 6), (.nilCk (.t 5)), none⟩,
    ⟨(some 7), (.fieldAddr 0 (.t 6)), none⟩,
    ⟨(some 8), (.load 1 false (.t 7)), none⟩,
    ⟨(some 9), (.call 95 [(.t 8)]), none⟩,
    ⟨(some 2), (.mv (.t 9)), none⟩] none [2])
  .ret))), [(2, none)], false⟩
/-- (kinfolk/sibs.Version).Bytes -/
def ir76 : IRF := ⟨[0], (.seq (.region [⟨(some 1), (.box false (.t 0)), none⟩,
    ⟨(some 2), (.mv (.c (.p (.s (.slice none 0 0))))), none⟩] none [1])
  (.seq (.region [⟨(some 4), (.fieldAddr 0 (.t 1)), none⟩,
    ⟨(some 5), (.load 2 true (.t 4)), none⟩,
    ⟨(some 6), (.call 29 [(.t 5)]), none⟩,
    ⟨(some 7), (.b2s (.t 6)), none⟩,
    ⟨(some 8), (.call 28 [(.c (.p (.s (.slice none 0 0)))), (.t 7)]), none⟩,
    ⟨(some 3), (.mv (.t 8)), none⟩] none [1, 3])
  (.seq (.seq (.region [⟨(some 9), (.fieldAddr 3 (.t 1)), none⟩,
    ⟨(some 10), (.load 1 false (.t 9)), none⟩] none [1, 3, 10])
  (.cond (.t 10) (.seq (.region [⟨(some 11), (.mv (.t 3)), none⟩,
    ⟨(some 12), (.mkSl false 1 1 [(.s (.int .u8 0))] [(0, 1, (.c (.p (.s (.int .u8 1)))))]), none⟩,
    ⟨(some 13), (.app 1 1 (.t 11) (.t 12)), none⟩,
    ⟨(some 2), (.mv (.t 13)), none⟩] none [2])
  .ret) .skip))
  (.seq (.region [⟨(some 14), (.mv (.t 3)), none⟩,
    ⟨(some 15), (.mkSl false 1 1 [(.s (.int .u8 0))] [(0, 1, (.c (.p (.s (.int .u8 0)))))]), none⟩,
    ⟨(some 16), (.app 1 1 (.t 14) (.t 15)), none⟩,
    ⟨(some 17), (.fieldAddr 2 (.t 1)), none⟩,
    ⟨(some 18), (.load 1 true (.t 17)), none⟩,
    ⟨(some 19), (.call 140 [(.t 16), (.t 18)]), none⟩,
    ⟨(some 2), (.mv (.t 19)), none⟩] (some [0, 0, 3, 0, 8, 31, 63]) [2])
  .ret)))), [(2, none)], false⟩
/-- kinfolk/wire.lay -/
def ir77_0 : IRC := (.seq (.region [⟨(some 7), (.bin .lss (.t 6) (.c (.p (.s (.int .i64 4))))), none⟩] none [0, 1, 6, 7])
  (.seq (.cond (.t 7) .skip (.exit 0))
  (.seq (.block 1 (.seq (.region [⟨(some 8), (.mv (.t 6)), none⟩,
    ⟨(some 5), (.mv (.t 8)), none⟩] none [0, 1, 5, 6])
  (.region [⟨(some 9), (.mv (.t 0)), none⟩,
    ⟨(some 10), (.mv (.t 1)), none⟩,
    ⟨(some 11), (.mv (.t 5)), none⟩,
    ⟨(some 12), (.bin .mul (.c (.p (.s (.int .i64 8)))) (.t 11)), none⟩,
    ⟨(some 13), (.bin .shr (.t 10) (.t 12)), none⟩,
    ⟨(some 14), (.cvt .u8 (.t 13)), none⟩,
    ⟨(some 15), (.mkSl false 1 1 [(.s (.int .u8 0))] [(0, 1, (.t 14))]), none⟩,
    ⟨(some 16), (.app 1 1 (.t 9) (.t 15)), none⟩,
    ⟨(some 0), (.mv (.t 16)), none⟩] none [0, 1, 6])))
  (.region [⟨(some 17), (.bin .add (.t 6) (.c (.p (.s (.int .i64 1))))), none⟩,
    ⟨(some 6), (.mv (.t 17)), none⟩] none [0, 1, 6]))))
def ir77 : IRF := ⟨[0, 1], (.seq (.region [⟨(some 4), (.mv (.c (.p (.s (.slice none 0 0))))), none⟩] none [0, 1])
  (.seq (.seq (.region [⟨(some 6), (.mv (.c (.p (.s (.int .i64 0))))), none⟩] none [0, 1, 6])
  (.block 0 (.loop ir77_0)))
  (.seq (.region [⟨(some 18), (.mv (.t 0)), none⟩,
    ⟨(some 4), (.mv (.t 18)), none⟩] none [4])
  .ret))), [(4, none)], true⟩
/-- kinfolk/wire.Sum -/
def ir78_0 : IRC := (.seq (.region [⟨(some 17), (.bin .lss (.t 16) (.c (.p (.s (.int .i64 8))))), none⟩] none [3, 6, 7, 8, 16, 17])
  (.seq (.cond (.t 17) .skip (.exit 2))
  (.seq (.block 3 (.seq (.region [⟨(some 18), (.mv (.t 3)), none⟩,
    ⟨(some 19), (.bin .and (.t 18) (.c (.p (.s (.int .u32 1))))), none⟩,
    ⟨(some 20), (.bin .eql (.t 19) (.c (.p (.s (.int .u32 1))))), none⟩] none [3, 6, 7, 8, 16, 20])
  (.cond (.t 20) (.region [⟨(some 21), (.mv (.t 3)), none⟩,
    ⟨(some 22), (.bin .shr (.t 21) (.c (.p (.s (.int .u64 1))))), none⟩,
    ⟨(some 23), (.bin .xor (.t 22) (.c (.p (.s (.int .u32 3988292384))))), none⟩,
    ⟨(some 3), (.mv (.t 23)), none⟩] none [3, 6, 7, 8, 16]) (.region [⟨(some 24), (.mv (.t 3)), none⟩,
    ⟨(some 25), (.bin .shr (.t 24) (.c (.p (.s (.int .u64 1))))), none⟩,
    ⟨(some 3), (.mv (.t 25)), none⟩] none [3, 6, 7, 8, 16]))))
  (.region [⟨(some 26), (.bin .add (.t 16) (.c (.p (.s (.int .i64 1))))), none⟩,
    ⟨(some 16), (.mv (.t 26)), none⟩] none [3, 6, 7, 8, 16]))))
def ir78_1 : IRC := (.seq (.region [⟨(some 9), (.bin .lss (.t 8) (.t 7)), none⟩] none [3, 6, 7, 8, 9])
  (.seq (.cond (.t 9) .skip (.exit 0))
  (.seq (.block 1 (.seq (.region [⟨(some 10), (.idxASl 1 (.t 6) (.t 8)), none⟩,
    ⟨(some 11), (.load 1 false (.t 10)), none⟩,
    ⟨(some 5), (.mv (.t 11)), none⟩] none [3, 5, 6, 7, 8])
  (.seq (.region [⟨(some 12), (.mv (.t 3)), none⟩,
    ⟨(some 13), (.mv (.t 5)), none⟩,
    ⟨(some 14), (.cvt .u32 (.t 13)), none⟩,
    ⟨(some 15), (.bin .xor (.t 12) (.t 14)), none⟩,
    ⟨(some 3), (.mv (.t 15)), none⟩] none [3, 6, 7, 8])
  (.seq (.region [⟨(some 16), (.mv (.c (.p (.s (.int .i64 0))))), none⟩] none [3, 6, 7, 8, 16])
  (.block 2 (.loop ir78_0))))))
  (.region [⟨(some 27), (.bin .add (.t 8) (.c (.p (.s (.int .i64 1))))), none⟩,
    ⟨(some 8), (.mv (.t 27)), none⟩] none [3, 6, 7, 8]))))
def ir78 : IRF := ⟨[0], (.seq (.region [⟨(some 2), (.mv (.c (.p (.s (.int .u32 0))))), none⟩] none [0])
  (.seq (.region [⟨(some 3), (.mv (.c (.p (.s (.int .u32 4294967295))))), none⟩] none [0, 3])
  (.seq (.seq (.region [⟨(some 6), (.mv (.t 0)), none⟩,
    ⟨(some 7), (.len false (.t 6)), none⟩,
    ⟨(some 8), (.mv (.c (.p (.s (.int .i64 0))))), none⟩] none [3, 6, 7, 8])
  (.block 0 (.loop ir78_1)))
  (.seq (.region [⟨(some 28), (.mv (.t 3)), none⟩,
    ⟨(some 29), (.un .xor (.t 28)), none⟩,
    ⟨(some 2), (.mv (.t 29)), none⟩] none [2])
  .ret)))), [(2, none)], false⟩
/-- kinfolk/kinfolkref05.Num -/
def ir79_0 : IRC := (.seq (.seq (.region [⟨(some 6), (.mv (.t 5)), none⟩,
    ⟨(some 7), (.bin .lss (.t 6) (.c (.p (.s (.int .i64 64))))), none⟩,
    ⟨(some 8), (.mv (.t 7)), none⟩,
    ⟨(some 9), (.mv (.t 1)), (some (8, true))⟩,
    ⟨(some 10), (.mv (.t 5)), (some (8, true))⟩,
    ⟨(some 11), (.call 141 [(.t 10)]), (some (8, true))⟩,
    ⟨(some 12), (.bin .geq (.t 9) (.t 11)), (some (8, true))⟩,
    ⟨(some 13), (.pick (.t 8) (.t 12) (.c (.p (.s (.bool false))))), none⟩] none [0, 1, 5, 13])
  (.cond (.t 13) .skip (.exit 0)))
  (.block 1 (.seq (.region [⟨(some 14), (.mv (.t 0)), none⟩,
    ⟨(some 15), (.call 80 [(.t 14), (.c (.p (.s (.int .u64 1)))), (.c (.p (.s (.int .i64 1))))]), none⟩,
    ⟨(some 0), (.mv (.t 15)), none⟩] none [0, 1, 5])
  (.seq (.region [⟨(some 16), (.mv (.t 1)), none⟩,
    ⟨(some 17), (.mv (.t 5)), none⟩,
    ⟨(some 18), (.call 141 [(.t 17)]), none⟩,
    ⟨(some 19), (.bin .sub (.t 16) (.t 18)), none⟩,
    ⟨(some 1), (.mv (.t 19)), none⟩] none [0, 1, 5])
  (.region [⟨(some 20), (.mv (.t 5)), none⟩,
    ⟨(some 21), (.bin .add (.t 20) (.c (.p (.s (.int .i64 1))))), none⟩,
    ⟨(some 5), (.mv (.t 21)), none⟩] none [0, 1, 5])))))
def ir79 : IRF := ⟨[0, 1], (.seq (.region [⟨(some 4), (.mv (.c (.p (.s (.slice none 0 0))))), none⟩] none [0, 1])
  (.seq (.region [⟨(some 5), (.mv (.c (.p (.s (.int .i64 2))))), none⟩] none [0, 1, 5])
  (.seq (.block 0 (.loop ir79_0))
  (.seq (.region [⟨(some 22), (.mv (.t 0)), none⟩,
    ⟨(some 23), (.call 80 [(.t 22), (.c (.p (.s (.int .u64 0)))), (.c (.p (.s (.int .i64 1))))]), none⟩,
    ⟨(some 24), (.mv (.t 1)), none⟩,
    ⟨(some 25), (.mv (.t 5)), none⟩,
    ⟨(some 26), (.call 80 [(.t 23), (.t 24), (.t 25)]), none⟩,
    ⟨(some 4), (.mv (.t 26)), none⟩] none [4])
  .ret)))), [(4, none)], false⟩
/-- kinfolk/kinfolkref05.Put -/
def ir80_0 : IRC := (.seq (.seq (.region [⟨(some 9), (.mv (.t 8)), none⟩,
    ⟨(some 10), (.mv (.t 2)), none⟩,
    ⟨(some 11), (.call 142 [(.t 10)]), none⟩,
    ⟨(some 12), (.bin .lss (.t 9) (.t 11)), none⟩] none [0, 1, 2, 7, 8, 12])
  (.cond (.t 12) .skip (.exit 0)))
  (.seq (.block 1 (.seq (.region [⟨(some 15), (.mv (.t 1)), none⟩,
    ⟨(some 16), (.bin .rem (.t 15) (.c (.p (.s (.int .u64 2))))), none⟩,
    ⟨(some 17), (.bin .eql (.t 16) (.c (.p (.s (.int .u64 1))))), none⟩,
    ⟨(some 18), (.mkSl false 1 1 [(.s (.bool false))] [(0, 1, (.t 17))]), none⟩,
    ⟨(some 19), (.mv (.t 7)), none⟩,
    ⟨(some 20), (.app 1 1 (.t 18) (.t 19)), none⟩,
    ⟨(some 7), (.mv (.t 20)), none⟩] none [0, 1, 2, 7, 8])
  (.region [⟨(some 21), (.mv (.t 1)), none⟩,
    ⟨(some 22), (.bin .quo (.t 21) (.c (.p (.s (.int .u64 2))))), none⟩,
    ⟨(some 1), (.mv (.t 22)), none⟩] none [0, 1, 2, 7, 8])))
  (.region [⟨(some 13), (.mv (.t 8)), none⟩,
    ⟨(some 14), (.bin .add (.t 13) (.c (.p (.s (.int .i64 1))))), none⟩,
    ⟨(some 8), (.mv (.t 14)), none⟩] none [0, 1, 2, 7, 8])))
def ir80 : IRF := ⟨[0, 1, 2], (.seq (.region [⟨(some 6), (.mv (.c (.p (.s (.slice none 0 0))))), none⟩] none [0, 1, 2])
  (.seq (.region [⟨(some 7), (.mv (.c (.p (.s (.slice none 0 0))))), none⟩] none [0, 1, 2, 7])
  (.seq (.seq (.region [⟨(some 8), (.mv (.c (.p (.s (.int .i64 0))))), none⟩] none [0, 1, 2, 7, 8])
  (.block 0 (.loop ir80_0)))
  (.seq (.region [⟨(some 23), (.mkSl false 0 1 [] []), none⟩,
    ⟨(some 24), (.mv (.t 0)), none⟩,
    ⟨(some 25), (.app 1 1 (.t 23) (.t 24)), none⟩,
    ⟨(some 26), (.mv (.t 7)), none⟩,
    ⟨(some 27), (.app 1 1 (.t 25) (.t 26)), none⟩,
    ⟨(some 6), (.mv (.t 27)), none⟩] none [6])
  .ret)))), [(6, none)], false⟩
/-- kinfolk/kinfolkref07.zero -/
def ir81 : IRF := ⟨[0], (.seq (.region [⟨(some 2), (.mv (.c (.p (.s (.bool false))))), none⟩] none [0])
  (.seq (.region [⟨(some 3), (.mv (.t 0)), none⟩,
    ⟨(some 4), (.nilCk (.t 3)), none⟩,
    ⟨(some 5), (.fieldAddr 1 (.t 4)), none⟩,
    ⟨(some 6), (.load 1 false (.t 5)), none⟩,
    ⟨(some 7), (.eq false .ptr (.t 6) (.c (.p (.s (.pointer none))))), none⟩,
    ⟨(some 8), (.mv (.t 7)), none⟩,
    ⟨(some 9), (.mv (.t 0)), (some (8, true))⟩,
    ⟨(some 10), (.nilCk (.t 9)), (some (8, true))⟩,
    ⟨(some 11), (.fieldAddr 0 (.t 10)), (some (8, true))⟩,
    ⟨(some 12), (.load 1 false (.t 11)), (some (8, true))⟩,
    ⟨(some 13), (.bin .eql (.t 12) (.c (.p (.s (.int .u64 0))))), (some (8, true))⟩,
    ⟨(some 14), (.pick (.t 8) (.t 13) (.c (.p (.s (.bool false))))), none⟩,
    ⟨(some 2), (.mv (.t 14)), none⟩] none [2])
  .ret)), [(2, none)], false⟩
/-- kinfolk/kinfolkref13.Bytes -/
def ir82 : IRF := ⟨[0], (.seq (.region [⟨(some 1), (.box false (.t 0)), none⟩,
    ⟨(some 2), (.mv (.c (.p (.s (.slice none 0 0))))), none⟩] none [1])
  (.seq (.region [⟨(some 4), (.fieldAddr 0 (.t 1)), none⟩,
    ⟨(some 5), (.load 1 false (.t 4)), none⟩,
    ⟨(some 6), (.call 35 [(.c (.p (.s (.slice none 0 0)))), (.t 5)]), none⟩,
    ⟨(some 7), (.call 34 [(.t 6)]), none⟩,
    ⟨(some 8), (.b2s (.t 7)), none⟩,
    ⟨(some 9), (.call 33 [(.t 8)]), none⟩,
    ⟨(some 3), (.mv (.t 9)), none⟩] none [1, 3])
  (.seq (.seq (.region [⟨(some 10), (.fieldAddr 2 (.t 1)), none⟩,
    ⟨(some 11), (.load 1 false (.t 10)), none⟩] none [1, 3, 11])
  (.cond (.t 11) (.seq (.region [⟨(some 12), (.mv (.t 3)), none⟩,
    ⟨(some 13), (.mkSl false 1 1 [(.s (.int .u8 0))] [(0, 1, (.c (.p (.s (.int .u8 1)))))]), none⟩,
    ⟨(some 14), (.app 1 1 (.t 12) (.t 13)), none⟩,
    ⟨(some 2), (.mv (.t 14)), none⟩] none [2])
  .ret) .skip))
  (.seq (.region [⟨(some 15), (.mv (.t 3)), none⟩,
    ⟨(some 16), (.mkSl false 1 1 [(.s (.int .u8 0))] [(0, 1, (.c (.p (.s (.int .u8 0)))))]), none⟩,
    ⟨(some 17), (.fieldAddr 1 (.t 1)), none⟩,
    ⟨(some 18), (.load 1 false (.t 17)), none⟩,
    ⟨(some 19), (.call 143 [(.t 18)]), none⟩,
    ⟨(some 20), (.mkSl false 3 1 [(.s (.slice none 0 0)), (.s (.slice none 0 0)), (.s (.slice none 0 0))] [(0, 1, (.t 15)), (1, 1, (.t 16)), (2, 1, (.t 19))]), none⟩,
    ⟨(some 21), (.call 36 [(.t 20)]), none⟩,
    ⟨(some 2), (.mv (.t 21)), none⟩] none [2])
  .ret)))), [(2, none)], false⟩
/-- kinfolk/kinfolkref07.ID -/
def ir83 : IRF := ⟨[0, 1], (.seq (.region [⟨(some 4), (.mv (.c (.p (.s (.slice none 0 0))))), none⟩] none [0, 1])
  (.seq (.seq (.region [⟨(some 5), (.mv (.t 1)), none⟩,
    ⟨(some 6), (.nilCk (.t 5)), none⟩,
    ⟨(some 7), (.fieldAddr 0 (.t 6)), none⟩,
    ⟨(some 8), (.load 1 false (.t 7)), none⟩,
    ⟨(some 9), (.bin .lss (.t 8) (.c (.p (.s (.int .i64 2))))), none⟩] none [0, 1, 9])
  (.cond (.t 9) (.seq (.region [⟨(some 10), (.mv (.t 0)), none⟩,
    ⟨(some 11), (.call 80 [(.t 10), (.c (.p (.s (.int .u64 0)))), (.c (.p (.s (.int .i64 2))))]), none⟩,
    ⟨(some 12), (.mv (.t 1)), none⟩,
    ⟨(some 13), (.nilCk (.t 12)), none⟩,
    ⟨(some 14), (.fieldAddr 0 (.t 13)), none⟩,
    ⟨(some 15), (.load 1 false (.t 14)), none⟩,
    ⟨(some 16), (.cvt .u64 (.t 15)), none⟩,
    ⟨(some 17), (.call 80 [(.t 11), (.t 16), (.c (.p (.s (.int .i64 1))))]), none⟩,
    ⟨(some 4), (.mv (.t 17)), none⟩] (some [0, 1, 0, 4, 12, 28, 60, 127, 255]) [4])
  .ret) .skip))
  (.seq (.seq (.region [⟨(some 18), (.mv (.t 1)), none⟩,
    ⟨(some 19), (.nilCk (.t 18)), none⟩,
    ⟨(some 20), (.fieldAddr 1 (.t 19)), none⟩,
    ⟨(some 21), (.load 1 false (.t 20)), none⟩,
    ⟨(some 22), (.nilCk (.t 21)), none⟩,
    ⟨(some 23), (.fieldAddr 0 (.t 22)), none⟩,
    ⟨(some 24), (.load 1 false (.t 23)), none⟩,
    ⟨(some 25), (.bin .eql (.t 24) (.c (.p (.s (.int .i64 0))))), none⟩] none [0, 1, 25])
  (.cond (.t 25) (.seq (.region [⟨(some 26), (.mv (.t 0)), none⟩,
    ⟨(some 27), (.call 80 [(.t 26), (.c (.p (.s (.int .u64 1)))), (.c (.p (.s (.int .i64 2))))]), none⟩,
    ⟨(some 28), (.mv (.t 1)), none⟩,
    ⟨(some 29), (.nilCk (.t 28)), none⟩,
    ⟨(some 30), (.fieldAddr 2 (.t 29)), none⟩,
    ⟨(some 31), (.load 1 false (.t 30)), none⟩,
    ⟨(some 32), (.call 83 [(.t 27), (.t 31)]), none⟩,
    ⟨(some 4), (.mv (.t 32)), none⟩] (some [0, 1, 0, 4, 12, 28, 63, 127]) [4])
  .ret) .skip))
  (.seq (.seq (.region [⟨(some 33), (.mv (.t 1)), none⟩,
    ⟨(some 34), (.nilCk (.t 33)), none⟩,
    ⟨(some 35), (.fieldAddr 2 (.t 34)), none⟩,
    ⟨(some 36), (.load 1 false (.t 35)), none⟩,
    ⟨(some 37), (.nilCk (.t 36)), none⟩,
    ⟨(some 38), (.fieldAddr 0 (.t 37)), none⟩,
    ⟨(some 39), (.load 1 false (.t 38)), none⟩,
    ⟨(some 40), (.bin .eql (.t 39) (.c (.p (.s (.int .i64 0))))), none⟩] none [0, 1, 40])
  (.cond (.t 40) (.seq (.region [⟨(some 41), (.mv (.t 0)), none⟩,
    ⟨(some 42), (.call 80 [(.t 41), (.c (.p (.s (.int .u64 2)))), (.c (.p (.s (.int .i64 2))))]), none⟩,
    ⟨(some 43), (.mv (.t 1)), none⟩,
    ⟨(some 44), (.nilCk (.t 43)), none⟩,
    ⟨(some 45), (.fieldAddr 1 (.t 44)), none⟩,
    ⟨(some 46), (.load 1 false (.t 45)), none⟩,
    ⟨(some 47), (.call 83 [(.t 42), (.t 46)]), none⟩,
    ⟨(some 4), (.mv (.t 47)), none⟩] (some [0, 1, 0, 4, 12, 28, 63, 127]) [4])
  .ret) .skip))
  (.seq (.region [⟨(some 48), (.mv (.t 0)), none⟩,
    ⟨(some 49), (.call 80 [(.t 48), (.c (.p (.s (.int .u64 3)))), (.c (.p (.s (.int .i64 2))))]), none⟩,
    ⟨(some 50), (.mv (.t 1)), none⟩,
    ⟨(some 51), (.nilCk (.t 50)), none⟩,
    ⟨(some 52), (.fieldAddr 1 (.t 51)), none⟩,
    ⟨(some 53), (.load 1 false (.t 52)), none⟩,
    ⟨(some 54), (.call 83 [(.t 49), (.t 53)]), none⟩,
    ⟨(some 55), (.mv (.t 1)), none⟩,
    ⟨(some 56), (.nilCk (.t 55)), none⟩,
    ⟨(some 57), (.fieldAddr 2 (.t 56)), none⟩,
    ⟨(some 58), (.load 1 false (.t 57)), none⟩,
    ⟨(some 59), (.call 83 [(.t 54), (.t 58)]), none⟩,
    ⟨(some 4), (.mv (.t 59)), none⟩] (some [0, 1, 0, 4, 12, 28, 63, 0, 128, 384, 896, 2047, 4095]) [4])
  .ret))))), [(4, none)], false⟩
/-- (kinfolk/note.Note).zero$1 -/
def ir84 : IRF := ⟨[0, 1, 2], (.seq (.region [⟨(some 5), (.mv (.c (.p (.s (.bool false))))), none⟩] none [0, 1, 2])
  (.seq (.region [⟨(some 6), (.load 1 false (.t 2)), none⟩,
    ⟨(some 7), (.mv (.t 0)), none⟩,
    ⟨(some 8), (.bin .and (.t 6) (.t 7)), none⟩,
    ⟨(some 9), (.bin .gtr (.t 8) (.c (.p (.s (.int .i64 0))))), none⟩,
    ⟨(some 10), (.mv (.t 9)), none⟩,
    ⟨(some 11), (.mv (.t 1)), (some (10, false))⟩,
    ⟨(some 12), (.pick (.t 10) (.c (.p (.s (.bool true)))) (.t 11)), none⟩,
    ⟨(some 5), (.mv (.t 12)), none⟩] none [5])
  .ret)), [(5, none)], false⟩
/-- kinfolk/event.Same -/
def ir85 : IRF := ⟨[0, 1], (.seq (.region [⟨(some 2), (.box false (.t 0)), none⟩,
    ⟨(some 3), (.box false (.t 1)), none⟩,
    ⟨(some 4), (.mv (.c (.p (.s (.bool false))))), none⟩] none [2, 3])
  (.seq (.region [⟨(some 5), (.load 2 true (.t 2)), none⟩,
    ⟨(some 6), (.load 2 true (.t 3)), none⟩,
    ⟨(some 7), (.call 90 [(.t 5), (.t 6)]), none⟩,
    ⟨(some 8), (.mv (.t 7)), none⟩,
    ⟨(some 9), (.load 2 true (.t 3)), (some (8, true))⟩,
    ⟨(some 10), (.load 2 true (.t 2)), (some (8, true))⟩,
    ⟨(some 11), (.call 90 [(.t 9), (.t 10)]), (some (8, true))⟩,
    ⟨(some 12), (.pick (.t 8) (.t 11) (.c (.p (.s (.bool false))))), none⟩,
    ⟨(some 4), (.mv (.t 12)), none⟩] none [4])
  .ret)), [(4, none)], false⟩
/-- (kinfolk/id.ID).IsZero -/
def ir86 : IRF := ⟨[0], (.seq (.region [⟨(some 1), (.box false (.t 0)), none⟩,
    ⟨(some 2), (.mv (.c (.p (.s (.bool false))))), none⟩] none [1])
  (.seq (.region [⟨(some 3), (.fieldAddr 0 (.t 1)), none⟩,
    ⟨(some 4), (.load 1 false (.t 3)), none⟩,
    ⟨(some 5), (.un .not (.t 4)), none⟩,
    ⟨(some 6), (.mv (.t 5)), none⟩,
    ⟨(some 7), (.fieldAddr 1 (.t 1)), (some (6, true))⟩,
    ⟨(some 8), (.load 1 false (.t 7)), (some (6, true))⟩,
    ⟨(some 9), (.eq false .ptr (.t 8) (.c (.p (.s (.pointer none))))), (some (6, true))⟩,
    ⟨(some 10), (.pick (.t 6) (.t 9) (.c (.p (.s (.bool false))))), none⟩,
    ⟨(some 2), (.mv (.t 10)), none⟩] none [2])
  .ret)), [(2, none)], false⟩
/-- slices.ContainsFunc[[]kinfolk/book.Entry,kinfolk/book.Entry] -/
def ir87 : IRF := ⟨[0, 1], (.seq (.region [⟨(some 4), (.mv (.c (.p (.s (.bool false))))), none⟩] none [0, 1])
  (.seq (.region [⟨(some 5), (.mv (.t 0)), none⟩,
    ⟨(some 6), (.mv (.t 1)), none⟩,
    ⟨(some 7), (.call 144 [(.t 5), (.t 6)]), none⟩,
    ⟨(some 8), (.bin .geq (.t 7) (.c (.p (.s (.int .i64 0))))), none⟩,
    ⟨(some 4), (.mv (.t 8)), none⟩] none [4])
  .ret)), [(4, none)], false⟩
/-- (kinfolk/note.Note).told$1 -/
def ir88 : IRF := ⟨[0, 1], (.seq (.region [⟨(some 2), (.box false (.t 0)), none⟩,
    ⟨(some 3), (.mv (.c (.p (.s (.bool false))))), none⟩] none [1, 2])
  (.seq (.region [⟨(some 4), (.fieldAddr 1 (.t 2)), none⟩,
    ⟨(some 5), (.load 4 true (.t 4)), none⟩,
    ⟨(some 6), (.call 89 [(.t 5)]), none⟩,
    ⟨(some 7), (.un .not (.t 6)), none⟩,
    ⟨(some 8), (.mv (.t 7)), none⟩,
    ⟨(some 9), (.fieldAddr 1 (.t 2)), (some (8, false))⟩,
    ⟨(some 10), (.fieldAddr 0 (.t 9)), (some (8, false))⟩,
    ⟨(some 11), (.load 2 true (.t 10)), (some (8, false))⟩,
    ⟨(some 12), (.fieldAddr 6 (.t 1)), (some (8, false))⟩,
    ⟨(some 13), (.load 2 true (.t 12)), (some (8, false))⟩,
    ⟨(some 14), (.call 90 [(.t 11), (.t 13)]), (some (8, false))⟩,
    ⟨(some 15), (.un .not (.t 14)), (some (8, false))⟩,
    ⟨(some 16), (.pick (.t 8) (.c (.p (.s (.bool true)))) (.t 15)), none⟩,
    ⟨(some 3), (.mv (.t 16)), none⟩] none [3])
  .ret)), [(3, none)], false⟩
/-- (kinfolk/sibs.Version).Right -/
def ir89 : IRF := ⟨[0], (.seq (.region [⟨(some 1), (.box false (.t 0)), none⟩,
    ⟨(some 2), (.mv (.c (.p (.s (.bool false))))), none⟩] none [1])
  (.seq (.region [⟨(some 3), (.fieldAddr 3 (.t 1)), none⟩,
    ⟨(some 4), (.load 1 false (.t 3)), none⟩,
    ⟨(some 5), (.un .not (.t 4)), none⟩,
    ⟨(some 6), (.mv (.t 5)), none⟩,
    ⟨(some 7), (.fieldAddr 2 (.t 1)), (some (6, false))⟩,
    ⟨(some 8), (.load 1 true (.t 7)), (some (6, false))⟩,
    ⟨(some 9), (.call 71 [(.t 8)]), (some (6, false))⟩,
    ⟨(some 10), (.bin .eql (.t 9) (.c (.p (.s (.int .i64 0))))), (some (6, false))⟩,
    ⟨(some 11), (.pick (.t 6) (.c (.p (.s (.bool true)))) (.t 10)), none⟩,
    ⟨(some 2), (.mv (.t 11)), none⟩] none [2])
  .ret)), [(2, none)], false⟩
/-- kinfolk/event.Leq -/
def ir90 : IRF := ⟨[0, 1], (.seq (.region [⟨(some 2), (.box false (.t 0)), none⟩,
    ⟨(some 3), (.box false (.t 1)), none⟩,
    ⟨(some 4), (.mv (.c (.p (.s (.bool false))))), none⟩] none [2, 3])
  (.seq (.seq (.region [⟨(some 5), (.fieldAddr 1 (.t 2)), none⟩,
    ⟨(some 6), (.load 1 false (.t 5)), none⟩,
    ⟨(some 7), (.eq false .ptr (.t 6) (.c (.p (.s (.pointer none))))), none⟩] none [2, 3, 7])
  (.cond (.t 7) (.seq (.region [⟨(some 8), (.fieldAddr 0 (.t 2)), none⟩,
    ⟨(some 9), (.load 1 false (.t 8)), none⟩,
    ⟨(some 10), (.fieldAddr 0 (.t 3)), none⟩,
    ⟨(some 11), (.load 1 false (.t 10)), none⟩,
    ⟨(some 12), (.bin .leq (.t 9) (.t 11)), none⟩,
    ⟨(some 4), (.mv (.t 12)), none⟩] none [4])
  .ret) .skip))
  (.seq (.seq (.region [⟨(some 13), (.fieldAddr 0 (.t 2)), none⟩,
    ⟨(some 14), (.load 1 false (.t 13)), none⟩,
    ⟨(some 15), (.fieldAddr 0 (.t 3)), none⟩,
    ⟨(some 16), (.load 1 false (.t 15)), none⟩,
    ⟨(some 17), (.bin .gtr (.t 14) (.t 16)), none⟩,
    ⟨(some 18), (.mv (.t 17)), none⟩,
    ⟨(some 19), (.fieldAddr 1 (.t 3)), (some (18, true))⟩,
    ⟨(some 20), (.load 1 false (.t 19)), (some (18, true))⟩,
    ⟨(some 21), (.eq false .ptr (.t 20) (.c (.p (.s (.pointer none))))), (some (18, true))⟩,
    ⟨(some 22), (.pick (.t 18) (.t 21) (.c (.p (.s (.bool false))))), none⟩] none [2, 3, 22])
  (.cond (.t 22) (.seq (.region [⟨(some 4), (.mv (.c (.p (.s (.bool false))))), none⟩] none [4])
  .ret) .skip))
  (.seq (.region [⟨(some 23), (.fieldAddr 1 (.t 2)), none⟩,
    ⟨(some 24), (.load 1 false (.t 23)), none⟩,
    ⟨(some 25), (.nilCk (.t 24)), none⟩,
    ⟨(some 26), (.fieldAddr 0 (.t 25)), none⟩,
    ⟨(some 27), (.load 2 true (.t 26)), none⟩,
    ⟨(some 28), (.fieldAddr 0 (.t 2)), none⟩,
    ⟨(some 29), (.load 1 false (.t 28)), none⟩,
    ⟨(some 30), (.call 145 [(.t 27), (.t 29)]), none⟩,
    ⟨(some 31), (.load 2 true (.t 3)), none⟩,
    ⟨(some 32), (.call 133 [(.t 31)]), none⟩,
    ⟨(some 33), (.fieldAddr 0 (.t 3)), none⟩,
    ⟨(some 34), (.load 1 false (.t 33)), none⟩,
    ⟨(some 35), (.call 145 [(.t 32), (.t 34)]), none⟩,
    ⟨(some 36), (.call 90 [(.t 30), (.t 35)]), none⟩,
    ⟨(some 37), (.mv (.t 36)), none⟩,
    ⟨(some 38), (.fieldAddr 1 (.t 2)), (some (37, true))⟩,
    ⟨(some 39), (.load 1 false (.t 38)), (some (37, true))⟩,
    ⟨(some 40), (.nilCk (.t 39)), (some (37, true))⟩,
    ⟨(some 41), (.fieldAddr 2 (.t 40)), (some (37, true))⟩,
    ⟨(some 42), (.load 2 true (.t 41)), (some (37, true))⟩,
    ⟨(some 43), (.fieldAddr 0 (.t 2)), (some (37, true))⟩,
    ⟨(some 44), (.load 1 false (.t 43)), (some (37, true))⟩,
    ⟨(some 45), (.call 145 [(.t 42), (.t 44)]), (some (37, true))⟩,
    ⟨(some 46), (.load 2 true (.t 3)), (some (37, true))⟩,
    ⟨(some 47), (.call 134 [(.t 46)]), (some (37, true))⟩,
    ⟨(some 48), (.fieldAddr 0 (.t 3)), (some (37, true))⟩,
    ⟨(some 49), (.load 1 false (.t 48)), (some (37, true))⟩,
    ⟨(some 50), (.call 145 [(.t 47), (.t 49)]), (some (37, true))⟩,
    ⟨(some 51), (.call 90 [(.t 45), (.t 50)]), (some (37, true))⟩,
    ⟨(some 52), (.pick (.t 37) (.t 51) (.c (.p (.s (.bool false))))), none⟩,
    ⟨(some 4), (.mv (.t 52)), none⟩] (some [0, 1, 3, 7, 15, 0, 32, 127, 0, 511, 0, 1024, 4095, 8191, 16383, 32767, 65535, 131071, 262143, 524287, 32767, 1081343, 4194303, 32767, 16777215, 32767, 33587199, 134217727, 268435455, 536870911, 1073741823]) [4])
  .ret)))), [(4, none)], false⟩
/-- kinfolk/deed.node -/
def ir91 : IRF := ⟨[0], (.seq (.region [⟨(some 2), (.mv (.c (.p (.s (.bool false))))), none⟩] none [0])
  (.seq (.region [⟨(some 3), (.mv (.t 0)), none⟩,
    ⟨(some 4), (.bin .geq (.t 3) (.c (.p (.s (.int .i64 0))))), none⟩,
    ⟨(some 5), (.mv (.t 4)), none⟩,
    ⟨(some 6), (.mv (.t 0)), (some (5, true))⟩,
    ⟨(some 7), (.bin .lss (.t 6) (.c (.p (.s (.int .i64 12))))), (some (5, true))⟩,
    ⟨(some 8), (.pick (.t 5) (.t 7) (.c (.p (.s (.bool false))))), none⟩,
    ⟨(some 2), (.mv (.t 8)), none⟩] none [2])
  .ret)), [(2, none)], false⟩
/-- kinfolk/kinfolkref02.Left -/
def ir92 : IRF := ⟨[0], (.seq (.region [⟨(some 2), (.mv (.c (.p (.s (.pointer none))))), none⟩] none [0])
  (.seq (.seq (.region [⟨(some 3), (.mv (.t 0)), none⟩,
    ⟨(some 4), (.nilCk (.t 3)), none⟩,
    ⟨(some 5), (.fieldAddr 1 (.t 4)), none⟩,
    ⟨(some 6), (.load 1 false (.t 5)), none⟩,
    ⟨(some 7), (.eq false .ptr (.t 6) (.c (.p (.s (.pointer none))))), none⟩] none [0, 7])
  (.cond (.t 7) (.seq (.region [⟨(some 8), (.mv (.t 0)), none⟩,
    ⟨(some 2), (.mv (.t 8)), none⟩] none [2])
  .ret) .skip))
  (.seq (.region [⟨(some 9), (.mv (.t 0)), none⟩,
    ⟨(some 10), (.nilCk (.t 9)), none⟩,
    ⟨(some 11), (.fieldAddr 1 (.t 10)), none⟩,
    ⟨(some 12), (.load 1 false (.t 11)), none⟩,
    ⟨(some 13), (.mv (.t 0)), none⟩,
    ⟨(some 14), (.nilCk (.t 13)), none⟩,
    ⟨(some 15), (.fieldAddr 0 (.t 14)), none⟩,
    ⟨(some 16), (.load 1 false (.t 15)), none⟩,
    ⟨(some 17), (.call 146 [(.t 12), (.t 16)]), none⟩,
    ⟨(some 2), (.mv (.t 17)), none⟩] (some [0, 1, 3, 7, 0, 16, 48, 112, 255, 511]) [2])
  .ret))), [(2, none)], false⟩
/-- kinfolk/kinfolkref02.Right -/
def ir93 : IRF := ⟨[0], (.seq (.region [⟨(some 2), (.mv (.c (.p (.s (.pointer none))))), none⟩] none [0])
  (.seq (.seq (.region [⟨(some 3), (.mv (.t 0)), none⟩,
    ⟨(some 4), (.nilCk (.t 3)), none⟩,
    ⟨(some 5), (.fieldAddr 1 (.t 4)), none⟩,
    ⟨(some 6), (.load 1 false (.t 5)), none⟩,
    ⟨(some 7), (.eq false .ptr (.t 6) (.c (.p (.s (.pointer none))))), none⟩] none [0, 7])
  (.cond (.t 7) (.seq (.region [⟨(some 8), (.mv (.t 0)), none⟩,
    ⟨(some 2), (.mv (.t 8)), none⟩] none [2])
  .ret) .skip))
  (.seq (.region [⟨(some 9), (.mv (.t 0)), none⟩,
    ⟨(some 10), (.nilCk (.t 9)), none⟩,
    ⟨(some 11), (.fieldAddr 2 (.t 10)), none⟩,
    ⟨(some 12), (.load 1 false (.t 11)), none⟩,
    ⟨(some 13), (.mv (.t 0)), none⟩,
    ⟨(some 14), (.nilCk (.t 13)), none⟩,
    ⟨(some 15), (.fieldAddr 0 (.t 14)), none⟩,
    ⟨(some 16), (.load 1 false (.t 15)), none⟩,
    ⟨(some 17), (.call 146 [(.t 12), (.t 16)]), none⟩,
    ⟨(some 2), (.mv (.t 17)), none⟩] (some [0, 1, 3, 7, 0, 16, 48, 112, 255, 511]) [2])
  .ret))), [(2, none)], false⟩
/-- kinfolk/wire.take -/
def ir94_0 : IRC := (.seq (.region [⟨(some 6), (.bin .lss (.t 5) (.c (.p (.s (.int .i64 4))))), none⟩] none [0, 3, 5, 6])
  (.seq (.cond (.t 6) .skip (.exit 0))
  (.seq (.block 1 (.seq (.region [⟨(some 7), (.mv (.t 5)), none⟩,
    ⟨(some 4), (.mv (.t 7)), none⟩] none [0, 3, 4, 5])
  (.region [⟨(some 8), (.mv (.t 3)), none⟩,
    ⟨(some 9), (.mv (.t 0)), none⟩,
    ⟨(some 10), (.mv (.t 4)), none⟩,
    ⟨(some 11), (.idxASl 1 (.t 9) (.t 10)), none⟩,
    ⟨(some 12), (.load 1 false (.t 11)), none⟩,
    ⟨(some 13), (.cvt .u32 (.t 12)), none⟩,
    ⟨(some 14), (.mv (.t 4)), none⟩,
    ⟨(some 15), (.bin .mul (.c (.p (.s (.int .i64 8)))) (.t 14)), none⟩,
    ⟨(some 16), (.bin .shl (.t 13) (.t 15)), none⟩,
    ⟨(some 17), (.bin .or (.t 8) (.t 16)), none⟩,
    ⟨(some 3), (.mv (.t 17)), none⟩] none [0, 3, 5])))
  (.region [⟨(some 18), (.bin .add (.t 5) (.c (.p (.s (.int .i64 1))))), none⟩,
    ⟨(some 5), (.mv (.t 18)), none⟩] none [0, 3, 5]))))
def ir94 : IRF := ⟨[0], (.seq (.region [⟨(some 2), (.mv (.c (.p (.s (.int .u32 0))))), none⟩] none [0])
  (.seq (.region [⟨(some 3), (.mv (.c (.p (.s (.int .u32 0))))), none⟩] none [0, 3])
  (.seq (.seq (.region [⟨(some 5), (.mv (.c (.p (.s (.int .i64 0))))), none⟩] none [0, 3, 5])
  (.block 0 (.loop ir94_0)))
  (.seq (.region [⟨(some 19), (.mv (.t 3)), none⟩,
    ⟨(some 2), (.mv (.t 19)), none⟩] none [2])
  .ret)))), [(2, none)], false⟩
/-- bytes.Clone -/
def ir95 : IRF := ⟨[0], (.seq (.region [⟨(some 2), (.mv (.c (.p (.s (.slice none 0 0))))), none⟩] none [0])
  (.seq (.seq (.region [⟨(some 3), (.mv (.t 0)), none⟩,
    ⟨(some 4), (.eq false .slice (.t 3) (.c (.p (.s (.slice none 0 0))))), none⟩] none [0, 4])
  (.cond (.t 4) (.seq (.region [⟨(some 2), (.mv (.c (.p (.s (.slice none 0 0))))), none⟩] none [2])
  .ret) .skip))
  (.seq (.region [⟨(some 5), (.mkSl false 0 1 [] []), none⟩,
    ⟨(some 6), (.mv (.t 0)), none⟩,
    ⟨(some 7), (.app 1 1 (.t 5) (.t 6)), none⟩,
    ⟨(some 2), (.mv (.t 7)), none⟩] none [2])
  .ret))), [(2, none)], true⟩
/-- (*kinfolk/wire.In).Byte -/
def ir96 : IRF := ⟨[0], (.seq (.region [⟨(some 2), (.mv (.c (.p (.s (.int .u8 0))))), none⟩] none [0])
  (.seq (.seq (.region [⟨(some 4), (.mv (.t 0)), none⟩,
    ⟨(some 5), (.call 104 [(.t 4)]), none⟩,
    ⟨(some 6), (.bin .neq (.t 5) (.c (.p (.s (.int .i64 0))))), none⟩,
    ⟨(some 7), (.mv (.t 6)), none⟩,
    ⟨(some 8), (.mv (.t 0)), (some (7, false))⟩,
    ⟨(some 9), (.nilCk (.t 8)), (some (7, false))⟩,
    ⟨(some 10), (.fieldAddr 0 (.t 9)), (some (7, false))⟩,
    ⟨(some 11), (.load 1 false (.t 10)), (some (7, false))⟩,
    ⟨(some 12), (.len false (.t 11)), (some (7, false))⟩,
    ⟨(some 13), (.bin .eql (.t 12) (.c (.p (.s (.int .i64 0))))), (some (7, false))⟩,
    ⟨(some 14), (.pick (.t 7) (.c (.p (.s (.bool true)))) (.t 13)), none⟩] none [0, 14])
  (.cond (.t 14) (.seq (.region [⟨(some 15), (.mv (.t 0)), none⟩,
    ⟨(some 16), (.call 97 [(.t 15), (.c (.p (.s (.int .i64 6))))]), none⟩] none [])
  (.seq (.region [⟨(some 2), (.mv (.c (.p (.s (.int .u8 0))))), none⟩] none [2])
  .ret)) .skip))
  (.seq (.region [⟨(some 17), (.mv (.t 0)), none⟩,
    ⟨(some 18), (.nilCk (.t 17)), none⟩,
    ⟨(some 19), (.fieldAddr 0 (.t 18)), none⟩,
    ⟨(some 20), (.load 1 false (.t 19)), none⟩,
    ⟨(some 21), (.idxASl 1 (.t 20) (.c (.p (.s (.int .i64 0))))), none⟩,
    ⟨(some 22), (.load 1 false (.t 21)), none⟩,
    ⟨(some 3), (.mv (.t 22)), none⟩] none [0, 3])
  (.seq (.region [⟨(some 23), (.mv (.t 0)), none⟩,
    ⟨(some 24), (.mv (.t 0)), none⟩,
    ⟨(some 25), (.nilCk (.t 24)), none⟩,
    ⟨(some 26), (.fieldAddr 0 (.t 25)), none⟩,
    ⟨(some 27), (.load 1 false (.t 26)), none⟩,
    ⟨(some 28), (.slSl 1 (.t 27) (some (.c (.p (.s (.int .i64 1))))) none none), none⟩,
    ⟨(some 29), (.nilCk (.t 23)), none⟩,
    ⟨(some 30), (.fieldAddr 0 (.t 29)), none⟩,
    ⟨none, (.store 1 (.t 30) (.t 28)), none⟩] none [3])
  (.seq (.region [⟨(some 31), (.mv (.t 3)), none⟩,
    ⟨(some 2), (.mv (.t 31)), none⟩] none [2])
  .ret))))), [(2, none)], false⟩
/-- (*kinfolk/wire.In).Fail -/
def ir97 : IRF := ⟨[0, 1], (.seq (.region [⟨(some 4), (.mv (.t 0)), none⟩,
    ⟨(some 5), (.eq true .ptr (.t 4) (.c (.p (.s (.pointer none))))), none⟩,
    ⟨(some 6), (.mv (.t 5)), none⟩,
    ⟨(some 7), (.mv (.t 0)), (some (6, true))⟩,
    ⟨(some 8), (.nilCk (.t 7)), (some (6, true))⟩,
    ⟨(some 9), (.fieldAddr 1 (.t 8)), (some (6, true))⟩,
    ⟨(some 10), (.load 1 false (.t 9)), (some (6, true))⟩,
    ⟨(some 11), (.bin .eql (.t 10) (.c (.p (.s (.int .i64 0))))), (some (6, true))⟩,
    ⟨(some 12), (.pick (.t 6) (.t 11) (.c (.p (.s (.bool false))))), none⟩] none [0, 1, 12])
  (.cond (.t 12) (.region [⟨(some 13), (.mv (.t 0)), none⟩,
    ⟨(some 14), (.mv (.t 1)), none⟩,
    ⟨(some 15), (.nilCk (.t 13)), none⟩,
    ⟨(some 16), (.fieldAddr 1 (.t 15)), none⟩,
    ⟨none, (.store 1 (.t 16) (.t 14)), none⟩] none []) .skip)), [], false⟩
/-- (*kinfolk/wire.In).Num -/
def ir98_0 : IRC := (.seq (.region [⟨(some 15), (.bin .lss (.t 14) (.t 13)), none⟩] none [0, 3, 12, 13, 14, 15])
  (.seq (.cond (.t 15) .skip (.exit 0))
  (.seq (.block 1 (.seq (.region [⟨(some 16), (.mv (.t 14)), none⟩,
    ⟨(some 17), (.idxASl 1 (.t 12) (.t 14)), none⟩,
    ⟨(some 18), (.load 1 false (.t 17)), none⟩,
    ⟨(some 4), (.mv (.t 16)), none⟩,
    ⟨(some 5), (.mv (.t 18)), none⟩] none [0, 3, 4, 5, 12, 13, 14])
  (.seq (.seq (.region [⟨(some 19), (.mv (.t 4)), none⟩,
    ⟨(some 20), (.bin .eql (.t 19) (.c (.p (.s (.int .i64 9))))), none⟩,
    ⟨(some 21), (.mv (.t 20)), none⟩,
    ⟨(some 22), (.mv (.t 5)), (some (21, true))⟩,
    ⟨(some 23), (.bin .gtr (.t 22) (.c (.p (.s (.int .u8 1))))), (some (21, true))⟩,
    ⟨(some 24), (.pick (.t 21) (.t 23) (.c (.p (.s (.bool false))))), none⟩,
    ⟨(some 25), (.mv (.t 24)), none⟩,
    ⟨(some 26), (.mv (.t 5)), (some (25, false))⟩,
    ⟨(some 27), (.bin .eql (.t 26) (.c (.p (.s (.int .u8 0))))), (some (25, false))⟩,
    ⟨(some 28), (.mv (.t 27)), (some (25, false))⟩,
    ⟨(some 29), (.mv (.t 4)), (some (28, true))⟩,
    ⟨(some 30), (.bin .gtr (.t 29) (.c (.p (.s (.int .i64 0))))), (some (28, true))⟩,
    ⟨(some 31), (.pick (.t 28) (.t 30) (.c (.p (.s (.bool false))))), (some (25, false))⟩,
    ⟨(some 32), (.pick (.t 25) (.c (.p (.s (.bool true)))) (.t 31)), none⟩] none [0, 3, 4, 5, 12, 13, 14, 32])
  (.cond (.t 32) (.exit 0) .skip))
  (.seq (.region [⟨(some 33), (.mv (.t 3)), none⟩,
    ⟨(some 34), (.mv (.t 5)), none⟩,
    ⟨(some 35), (.bin .andNot (.t 34) (.c (.p (.s (.int .u8 128))))), none⟩,
    ⟨(some 36), (.cvt .u64 (.t 35)), none⟩,
    ⟨(some 37), (.mv (.t 4)), none⟩,
    ⟨(some 38), (.bin .mul (.c (.p (.s (.int .i64 7)))) (.t 37)), none⟩,
    ⟨(some 39), (.bin .shl (.t 36) (.t 38)), none⟩,
    ⟨(some 40), (.bin .or (.t 33) (.t 39)), none⟩,
    ⟨(some 3), (.mv (.t 40)), none⟩] none [0, 3, 4, 5, 12, 13, 14])
  (.seq (.region [⟨(some 41), (.mv (.t 5)), none⟩,
    ⟨(some 42), (.bin .lss (.t 41) (.c (.p (.s (.int .u8 128))))), none⟩] none [0, 3, 4, 12, 13, 14, 42])
  (.cond (.t 42) (.seq (.region [⟨(some 43), (.mv (.t 0)), none⟩,
    ⟨(some 44), (.mv (.t 0)), none⟩,
    ⟨(some 45), (.nilCk (.t 44)), none⟩,
    ⟨(some 46), (.fieldAddr 0 (.t 45)), none⟩,
    ⟨(some 47), (.load 1 false (.t 46)), none⟩,
    ⟨(some 48), (.mv (.t 4)), none⟩,
    ⟨(some 49), (.bin .add (.t 48) (.c (.p (.s (.int .i64 1))))), none⟩,
    ⟨(some 50), (.slSl 1 (.t 47) (some (.t 49)) none none), none⟩,
    ⟨(some 51), (.nilCk (.t 43)), none⟩,
    ⟨(some 52), (.fieldAddr 0 (.t 51)), none⟩,
    ⟨none, (.store 1 (.t 52) (.t 50)), none⟩] none [3])
  (.seq (.region [⟨(some 53), (.mv (.t 3)), none⟩,
    ⟨(some 2), (.mv (.t 53)), none⟩] none [2])
  .ret)) .skip))))))
  (.region [⟨(some 54), (.bin .add (.t 14) (.c (.p (.s (.int .i64 1))))), none⟩,
    ⟨(some 14), (.mv (.t 54)), none⟩] none [0, 3, 12, 13, 14]))))
def ir98 : IRF := ⟨[0], (.seq (.region [⟨(some 2), (.mv (.c (.p (.s (.int .u64 0))))), none⟩] none [0])
  (.seq (.seq (.region [⟨(some 6), (.mv (.t 0)), none⟩,
    ⟨(some 7), (.call 104 [(.t 6)]), none⟩,
    ⟨(some 8), (.bin .neq (.t 7) (.c (.p (.s (.int .i64 0))))), none⟩] none [0, 8])
  (.cond (.t 8) (.seq (.region [⟨(some 2), (.mv (.c (.p (.s (.int .u64 0))))), none⟩] none [2])
  .ret) .skip))
  (.seq (.region [⟨(some 3), (.mv (.c (.p (.s (.int .u64 0))))), none⟩] none [0, 3])
  (.seq (.seq (.region [⟨(some 9), (.mv (.t 0)), none⟩,
    ⟨(some 10), (.nilCk (.t 9)), none⟩,
    ⟨(some 11), (.fieldAddr 0 (.t 10)), none⟩,
    ⟨(some 12), (.load 1 false (.t 11)), none⟩,
    ⟨(some 13), (.len false (.t 12)), none⟩,
    ⟨(some 14), (.mv (.c (.p (.s (.int .i64 0))))), none⟩] none [0, 3, 12, 13, 14])
  (.block 0 (.loop ir98_0)))
  (.seq (.region [⟨(some 55), (.mv (.t 0)), none⟩,
    ⟨(some 56), (.call 97 [(.t 55), (.c (.p (.s (.int .i64 6))))]), none⟩] none [])
  (.seq (.region [⟨(some 2), (.mv (.c (.p (.s (.int .u64 0))))), none⟩] none [2])
  .ret)))))), [(2, none)], false⟩
/-- (*kinfolk/wire.In).Left -/
def ir103 : IRF := ⟨[0], (.seq (.region [⟨(some 2), (.mv (.c (.p (.s (.int .i64 0))))), none⟩] none [0])
  (.seq (.seq (.region [⟨(some 3), (.mv (.t 0)), none⟩,
    ⟨(some 4), (.eq false .ptr (.t 3) (.c (.p (.s (.pointer none))))), none⟩] none [0, 4])
  (.cond (.t 4) (.seq (.region [⟨(some 2), (.mv (.c (.p (.s (.int .i64 0))))), none⟩] none [2])
  .ret) .skip))
  (.seq (.region [⟨(some 5), (.mv (.t 0)), none⟩,
    ⟨(some 6), (.nilCk (.t 5)), none⟩,
    ⟨(some 7), (.fieldAddr 0 (.t 6)), none⟩,
    ⟨(some 8), (.load 1 false (.t 7)), none⟩,
    ⟨(some 9), (.len false (.t 8)), none⟩,
    ⟨(some 2), (.mv (.t 9)), none⟩] none [2])
  .ret))), [(2, none)], false⟩
/-- (*kinfolk/wire.In).Err -/
def ir104 : IRF := ⟨[0], (.seq (.region [⟨(some 2), (.mv (.c (.p (.s (.int .i64 0))))), none⟩] none [0])
  (.seq (.seq (.region [⟨(some 3), (.mv (.t 0)), none⟩,
    ⟨(some 4), (.eq false .ptr (.t 3) (.c (.p (.s (.pointer none))))), none⟩] none [0, 4])
  (.cond (.t 4) (.seq (.region [⟨(some 2), (.mv (.c (.p (.s (.int .i64 2))))), none⟩] none [2])
  .ret) .skip))
  (.seq (.region [⟨(some 5), (.mv (.t 0)), none⟩,
    ⟨(some 6), (.nilCk (.t 5)), none⟩,
    ⟨(some 7), (.fieldAddr 1 (.t 6)), none⟩,
    ⟨(some 8), (.load 1 false (.t 7)), none⟩,
    ⟨(some 2), (.mv (.t 8)), none⟩] none [2])
  .ret))), [(2, none)], false⟩
/-- kinfolk/kinfolkref06.four -/
def ir105 : IRF := ⟨[0], (.seq (.region [⟨(some 2), (.mv (.c (.p (.s (.int .u32 0))))), none⟩] none [0])
  (.seq (.region [⟨(some 3), (.mv (.t 0)), none⟩,
    ⟨(some 4), (.idxASl 1 (.t 3) (.c (.p (.s (.int .i64 0))))), none⟩,
    ⟨(some 5), (.load 1 false (.t 4)), none⟩,
    ⟨(some 6), (.cvt .u32 (.t 5)), none⟩,
    ⟨(some 7), (.mv (.t 0)), none⟩,
    ⟨(some 8), (.idxASl 1 (.t 7) (.c (.p (.s (.int .i64 1))))), none⟩,
    ⟨(some 9), (.load 1 false (.t 8)), none⟩,
    ⟨(some 10), (.cvt .u32 (.t 9)), none⟩,
    ⟨(some 11), (.bin .mul (.c (.p (.s (.int .u32 256)))) (.t 10)), none⟩,
    ⟨(some 12), (.bin .add (.t 6) (.t 11)), none⟩,
    ⟨(some 13), (.mv (.t 0)), none⟩,
    ⟨(some 14), (.idxASl 1 (.t 13) (.c (.p (.s (.int .i64 2))))), none⟩,
    ⟨(some 15), (.load 1 false (.t 14)), none⟩,
    ⟨(some 16), (.cvt .u32 (.t 15)), none⟩,
    ⟨(some 17), (.bin .mul (.c (.p (.s (.int .u32 65536)))) (.t 16)), none⟩,
    ⟨(some 18), (.bin .add (.t 12) (.t 17)), none⟩,
    ⟨(some 19), (.mv (.t 0)), none⟩,
    ⟨(some 20), (.idxASl 1 (.t 19) (.c (.p (.s (.int .i64 3))))), none⟩,
    ⟨(some 21), (.load 1 false (.t 20)), none⟩,
    ⟨(some 22), (.cvt .u32 (.t 21)), none⟩,
    ⟨(some 23), (.bin .mul (.c (.p (.s (.int .u32 16777216)))) (.t 22)), none⟩,
    ⟨(some 24), (.bin .add (.t 18) (.t 23)), none⟩,
    ⟨(some 2), (.mv (.t 24)), none⟩] (some [0, 1, 3, 7, 0, 16, 48, 112, 240, 511, 0, 1024, 3072, 7168, 15360, 32767, 0, 65536, 196608, 458752, 983040, 2097151, 4194303]) [2])
  .ret)), [(2, none)], false⟩
/-- kinfolk/kinfolkref02.Min -/
def ir114 : IRF := ⟨[0], (.seq (.region [⟨(some 2), (.mv (.c (.p (.s (.int .u64 0))))), none⟩] none [0])
  (.seq (.seq (.region [⟨(some 5), (.mv (.t 0)), none⟩,
    ⟨(some 6), (.nilCk (.t 5)), none⟩,
    ⟨(some 7), (.fieldAddr 1 (.t 6)), none⟩,
    ⟨(some 8), (.load 1 false (.t 7)), none⟩,
    ⟨(some 9), (.eq false .ptr (.t 8) (.c (.p (.s (.pointer none))))), none⟩] none [0, 9])
  (.cond (.t 9) (.seq (.region [⟨(some 10), (.mv (.t 0)), none⟩,
    ⟨(some 11), (.nilCk (.t 10)), none⟩,
    ⟨(some 12), (.fieldAddr 0 (.t 11)), none⟩,
    ⟨(some 13), (.load 1 false (.t 12)), none⟩,
    ⟨(some 2), (.mv (.t 13)), none⟩] none [2])
  .ret) .skip))
  (.seq (.region [⟨(some 14), (.mv (.t 0)), none⟩,
    ⟨(some 15), (.nilCk (.t 14)), none⟩,
    ⟨(some 16), (.fieldAddr 1 (.t 15)), none⟩,
    ⟨(some 17), (.load 1 false (.t 16)), none⟩,
    ⟨(some 18), (.call 114 [(.t 17)]), none⟩,
    ⟨(some 19), (.mv (.t 0)), none⟩,
    ⟨(some 20), (.nilCk (.t 19)), none⟩,
    ⟨(some 21), (.fieldAddr 2 (.t 20)), none⟩,
    ⟨(some 22), (.load 1 false (.t 21)), none⟩,
    ⟨(some 23), (.call 114 [(.t 22)]), none⟩,
    ⟨(some 3), (.mv (.t 18)), none⟩,
    ⟨(some 4), (.mv (.t 23)), none⟩] (some [0, 1, 3, 7, 15, 0, 32, 96, 224, 511, 1023, 2047]) [0, 3, 4])
  (.seq (.seq (.region [⟨(some 24), (.mv (.t 3)), none⟩,
    ⟨(some 25), (.mv (.t 4)), none⟩,
    ⟨(some 26), (.bin .lss (.t 24) (.t 25)), none⟩] none [0, 3, 4, 26])
  (.cond (.t 26) (.seq (.region [⟨(some 27), (.mv (.t 0)), none⟩,
    ⟨(some 28), (.nilCk (.t 27)), none⟩,
    ⟨(some 29), (.fieldAddr 0 (.t 28)), none⟩,
    ⟨(some 30), (.load 1 false (.t 29)), none⟩,
    ⟨(some 31), (.mv (.t 3)), none⟩,
    ⟨(some 32), (.bin .add (.t 30) (.t 31)), none⟩,
    ⟨(some 2), (.mv (.t 32)), none⟩] none [2])
  .ret) .skip))
  (.seq (.region [⟨(some 33), (.mv (.t 0)), none⟩,
    ⟨(some 34), (.nilCk (.t 33)), none⟩,
    ⟨(some 35), (.fieldAddr 0 (.t 34)), none⟩,
    ⟨(some 36), (.load 1 false (.t 35)), none⟩,
    ⟨(some 37), (.mv (.t 4)), none⟩,
    ⟨(some 38), (.bin .add (.t 36) (.t 37)), none⟩,
    ⟨(some 2), (.mv (.t 38)), none⟩] none [2])
  .ret))))), [(2, none)], false⟩
/-- kinfolk/event.node -/
def ir115 : IRF := ⟨[0, 1, 2], (.seq (.region [⟨(some 4), (.box false (.t 1)), none⟩,
    ⟨(some 5), (.box false (.t 2)), none⟩,
    ⟨(some 6), (.alloc false [(.s (.int .u64 0)), (.s (.pointer none))]), none⟩] none [0, 4, 5, 6])
  (.seq (.seq (.region [⟨(some 8), (.fieldAddr 1 (.t 4)), none⟩,
    ⟨(some 9), (.load 1 false (.t 8)), none⟩,
    ⟨(some 10), (.eq false .ptr (.t 9) (.c (.p (.s (.pointer none))))), none⟩,
    ⟨(some 11), (.mv (.t 10)), none⟩,
    ⟨(some 12), (.fieldAddr 1 (.t 5)), (some (11, true))⟩,
    ⟨(some 13), (.load 1 false (.t 12)), (some (11, true))⟩,
    ⟨(some 14), (.eq false .ptr (.t 13) (.c (.p (.s (.pointer none))))), (some (11, true))⟩,
    ⟨(some 15), (.pick (.t 11) (.t 14) (.c (.p (.s (.bool false))))), none⟩,
    ⟨(some 16), (.mv (.t 15)), none⟩,
    ⟨(some 17), (.fieldAddr 0 (.t 4)), (some (16, true))⟩,
    ⟨(some 18), (.load 1 false (.t 17)), (some (16, true))⟩,
    ⟨(some 19), (.fieldAddr 0 (.t 5)), (some (16, true))⟩,
    ⟨(some 20), (.load 1 false (.t 19)), (some (16, true))⟩,
    ⟨(some 21), (.bin .eql (.t 18) (.t 20)), (some (16, true))⟩,
    ⟨(some 22), (.pick (.t 16) (.t 21) (.c (.p (.s (.bool false))))), none⟩] none [0, 4, 5, 6, 22])
  (.cond (.t 22) (.seq (.region [⟨(some 23), (.mv (.t 0)), none⟩,
    ⟨(some 24), (.fieldAddr 0 (.t 4)), none⟩,
    ⟨(some 25), (.load 1 false (.t 24)), none⟩,
    ⟨(some 26), (.bin .add (.t 23) (.t 25)), none⟩,
    ⟨(some 27), (.build [(.s (.int .u64 0)), (.s (.pointer none))] [(0, 1, (.t 26))]), none⟩,
    ⟨none, (.store 2 (.t 6) (.t 27)), none⟩] none [6])
  .ret) .skip))
  (.seq (.region [⟨(some 28), (.fieldAddr 0 (.t 4)), none⟩,
    ⟨(some 29), (.load 1 false (.t 28)), none⟩,
    ⟨(some 30), (.fieldAddr 0 (.t 5)), none⟩,
    ⟨(some 31), (.load 1 false (.t 30)), none⟩,
    ⟨(some 32), (.minmax false [(.t 29), (.t 31)]), none⟩,
    ⟨(some 7), (.mv (.t 32)), none⟩] none [0, 4, 5, 6, 7])
  (.seq (.region [⟨(some 33), (.fieldAddr 0 (.t 4)), none⟩,
    ⟨(some 34), (.load 1 false (.t 33)), none⟩,
    ⟨(some 35), (.mv (.t 7)), none⟩,
    ⟨(some 36), (.bin .sub (.t 34) (.t 35)), none⟩,
    ⟨(some 37), (.fieldAddr 0 (.t 4)), none⟩,
    ⟨none, (.store 1 (.t 37) (.t 36)), none⟩] none [0, 4, 5, 6, 7])
  (.seq (.region [⟨(some 38), (.fieldAddr 0 (.t 5)), none⟩,
    ⟨(some 39), (.load 1 false (.t 38)), none⟩,
    ⟨(some 40), (.mv (.t 7)), none⟩,
    ⟨(some 41), (.bin .sub (.t 39) (.t 40)), none⟩,
    ⟨(some 42), (.fieldAddr 0 (.t 5)), none⟩,
    ⟨none, (.store 1 (.t 42) (.t 41)), none⟩] none [0, 4, 5, 6, 7])
  (.seq (.region [⟨(some 43), (.mv (.t 0)), none⟩,
    ⟨(some 44), (.mv (.t 7)), none⟩,
    ⟨(some 45), (.bin .add (.t 43) (.t 44)), none⟩,
    ⟨(some 46), (.load 2 true (.t 4)), none⟩,
    ⟨(some 47), (.load 2 true (.t 5)), none⟩,
    ⟨(some 48), (.build [(.s (.int .u64 0)), (.s (.pointer none)), (.s (.int .u64 0)), (.s (.pointer none))] [(0, 2, (.t 46)), (2, 2, (.t 47))]), none⟩,
    ⟨(some 49), (.box true (.t 48)), none⟩,
    ⟨(some 50), (.build [(.s (.int .u64 0)), (.s (.pointer none))] [(0, 1, (.t 45)), (1, 1, (.t 49))]), none⟩,
    ⟨none, (.store 2 (.t 6) (.t 50)), none⟩] none [6])
  .ret)))))), [(6, some (2, true))], false⟩
/-- (kinfolk/event.Event).right -/
def ir116 : IRF := ⟨[0], (.seq (.region [⟨(some 1), (.box false (.t 0)), none⟩,
    ⟨(some 2), (.mv (.c (.p (.s (.int .i64 0))))), none⟩] none [1])
  (.seq (.block 0 (.seq (.region [⟨(some 4), (.load 2 true (.t 1)), none⟩,
    ⟨(some 5), (.call 158 [(.t 4)]), none⟩,
    ⟨(some 6), (.bin .gtr (.t 5) (.c (.p (.s (.int .i64 16))))), none⟩,
    ⟨(some 3), (.mv (.t 6)), none⟩] none [1, 3])
  (.cond (.t 3) (.seq (.region [⟨(some 2), (.mv (.c (.p (.s (.int .i64 3))))), none⟩] none [2])
  .ret) (.seq (.region [⟨(some 8), (.load 2 true (.t 1)), none⟩,
    ⟨(some 9), (.call 159 [(.t 8)]), none⟩,
    ⟨(some 10), (.bin .gtr (.t 9) (.c (.p (.s (.int .u64 1048576))))), none⟩,
    ⟨(some 7), (.mv (.t 10)), none⟩] none [7])
  (.cond (.t 7) (.seq (.region [⟨(some 2), (.mv (.c (.p (.s (.int .i64 4))))), none⟩] none [2])
  .ret) .skip)))))
  (.seq (.region [⟨(some 2), (.mv (.c (.p (.s (.int .i64 0))))), none⟩] none [2])
  .ret))), [(2, none)], false⟩
/-- kinfolk/id.pair -/
def ir117 : IRF := ⟨[0, 1], (.seq (.region [⟨(some 2), (.box false (.t 0)), none⟩,
    ⟨(some 3), (.box false (.t 1)), none⟩,
    ⟨(some 4), (.alloc false [(.s (.bool false)), (.s (.pointer none))]), none⟩] none [2, 3, 4])
  (.seq (.block 0 (.seq (.region [⟨(some 6), (.load 2 true (.t 2)), none⟩,
    ⟨(some 7), (.call 86 [(.t 6)]), none⟩,
    ⟨(some 8), (.mv (.t 7)), none⟩,
    ⟨(some 9), (.load 2 true (.t 3)), (some (8, true))⟩,
    ⟨(some 10), (.call 86 [(.t 9)]), (some (8, true))⟩,
    ⟨(some 11), (.pick (.t 8) (.t 10) (.c (.p (.s (.bool false))))), none⟩,
    ⟨(some 5), (.mv (.t 11)), none⟩] none [2, 3, 4, 5])
  (.cond (.t 5) (.seq (.region [⟨(some 12), (.call 65 []), none⟩,
    ⟨none, (.store 2 (.t 4) (.t 12)), none⟩] none [4])
  .ret) (.seq (.region [⟨(some 14), (.load 2 true (.t 2)), none⟩,
    ⟨(some 15), (.call 160 [(.t 14)]), none⟩,
    ⟨(some 16), (.mv (.t 15)), none⟩,
    ⟨(some 17), (.load 2 true (.t 3)), (some (16, true))⟩,
    ⟨(some 18), (.call 160 [(.t 17)]), (some (16, true))⟩,
    ⟨(some 19), (.pick (.t 16) (.t 18) (.c (.p (.s (.bool false))))), none⟩,
    ⟨(some 13), (.mv (.t 19)), none⟩] none [2, 3, 4, 13])
  (.cond (.t 13) (.seq (.region [⟨(some 20), (.call 66 []), none⟩,
    ⟨none, (.store 2 (.t 4) (.t 20)), none⟩] none [4])
  .ret) .skip)))))
  (.seq (.region [⟨(some 21), (.load 2 true (.t 2)), none⟩,
    ⟨(some 22), (.load 2 true (.t 3)), none⟩,
    ⟨(some 23), (.build [(.s (.bool false)), (.s (.pointer none)), (.s (.bool false)), (.s (.pointer none))] [(0, 2, (.t 21)), (2, 2, (.t 22))]), none⟩,
    ⟨(some 24), (.box true (.t 23)), none⟩,
    ⟨(some 25), (.build [(.s (.bool false)), (.s (.pointer none))] [(1, 1, (.t 24))]), none⟩,
    ⟨none, (.store 2 (.t 4) (.t 25)), none⟩] none [4])
  .ret))), [(4, some (2, true))], false⟩
/-- (kinfolk/id.ID).Depth -/
def ir118 : IRF := ⟨[0], (.seq (.region [⟨(some 1), (.box false (.t 0)), none⟩,
    ⟨(some 2), (.mv (.c (.p (.s (.int .i64 0))))), none⟩] none [1])
  (.seq (.seq (.region [⟨(some 3), (.fieldAddr 1 (.t 1)), none⟩,
    ⟨(some 4), (.load 1 false (.t 3)), none⟩,
    ⟨(some 5), (.eq false .ptr (.t 4) (.c (.p (.s (.pointer none))))), none⟩] none [1, 5])
  (.cond (.t 5) (.seq (.region [⟨(some 2), (.mv (.c (.p (.s (.int .i64 0))))), none⟩] none [2])
  .ret) .skip))
  (.seq (.region [⟨(some 6), (.fieldAddr 1 (.t 1)), none⟩,
    ⟨(some 7), (.load 1 false (.t 6)), none⟩,
    ⟨(some 8), (.nilCk (.t 7)), none⟩,
    ⟨(some 9), (.fieldAddr 0 (.t 8)), none⟩,
    ⟨(some 10), (.load 2 true (.t 9)), none⟩,
    ⟨(some 11), (.call 118 [(.t 10)]), none⟩,
    ⟨(some 12), (.fieldAddr 1 (.t 1)), none⟩,
    ⟨(some 13), (.load 1 false (.t 12)), none⟩,
    ⟨(some 14), (.nilCk (.t 13)), none⟩,
    ⟨(some 15), (.fieldAddr 2 (.t 14)), none⟩,
    ⟨(some 16), (.load 2 true (.t 15)), none⟩,
    ⟨(some 17), (.call 118 [(.t 16)]), none⟩,
    ⟨(some 18), (.minmax true [(.t 11), (.t 17)]), none⟩,
    ⟨(some 19), (.bin .add (.c (.p (.s (.int .i64 1)))) (.t 18)), none⟩,
    ⟨(some 2), (.mv (.t 19)), none⟩] (some [0, 1, 3, 7, 15, 31, 0, 64, 192, 448, 960, 2047, 4095, 8191, 16383]) [2])
  .ret))), [(2, none)], false⟩
/-- kinfolk/kinfolkref08.Check -/
def ir119_0 : IRC := (.seq (.tidy [0, 5] [])
  (.seq (.seq (.region [⟨(some 13), (.mv (.t 5)), none⟩,
    ⟨(some 14), (.mv (.t 0)), none⟩,
    ⟨(some 15), (.len true (.t 14)), none⟩,
    ⟨(some 16), (.bin .lss (.t 13) (.t 15)), none⟩] none [0, 5, 16])
  (.cond (.t 16) .skip (.exit 0)))
  (.block 1 (.seq (.region [⟨(some 18), (.mv (.t 0)), none⟩,
    ⟨(some 19), (.mv (.t 5)), none⟩,
    ⟨(some 20), (.call 161 [(.t 18), (.t 19)]), none⟩,
    ⟨(some 17), (.mv (.t 20)), none⟩,
    ⟨(some 21), (.ext (.t 17) 0), none⟩,
    ⟨(some 22), (.ext (.t 17) 1), none⟩,
    ⟨(some 23), (.ext (.t 17) 2), none⟩,
    ⟨(some 6), (.mv (.t 21)), none⟩,
    ⟨(some 7), (.mv (.t 22)), none⟩,
    ⟨(some 8), (.mv (.t 23)), none⟩] none [0, 5, 6, 7, 8])
  (.seq (.seq (.region [⟨(some 24), (.mv (.t 8)), none⟩,
    ⟨(some 25), (.un .not (.t 24)), none⟩,
    ⟨(some 26), (.mv (.t 25)), none⟩,
    ⟨(some 27), (.mv (.t 6)), (some (26, false))⟩,
    ⟨(some 28), (.bin .lss (.t 27) (.c (.p (.s (.int .i64 32))))), (some (26, false))⟩,
    ⟨(some 29), (.pick (.t 26) (.c (.p (.s (.bool true)))) (.t 28)), none⟩,
    ⟨(some 30), (.mv (.t 29)), none⟩,
    ⟨(some 31), (.mv (.t 6)), (some (30, false))⟩,
    ⟨(some 32), (.bin .eql (.t 31) (.c (.p (.s (.int .i64 127))))), (some (30, false))⟩,
    ⟨(some 33), (.pick (.t 30) (.c (.p (.s (.bool true)))) (.t 32)), none⟩] none [0, 5, 7, 33])
  (.cond (.t 33) (.seq (.region [⟨(some 4), (.mv (.c (.p (.s (.int .i64 7))))), none⟩] none [4])
  .ret) .skip))
  (.region [⟨(some 34), (.mv (.t 5)), none⟩,
    ⟨(some 35), (.mv (.t 7)), none⟩,
    ⟨(some 36), (.bin .add (.t 34) (.t 35)), none⟩,
    ⟨(some 5), (.mv (.t 36)), none⟩] none [0, 5]))))))
def ir119 : IRF := ⟨[0, 1], (.seq (.region [⟨(some 4), (.mv (.c (.p (.s (.int .i64 0))))), none⟩] none [0, 1])
  (.seq (.seq (.region [⟨(some 9), (.mv (.t 0)), none⟩,
    ⟨(some 10), (.len true (.t 9)), none⟩,
    ⟨(some 11), (.mv (.t 1)), none⟩,
    ⟨(some 12), (.bin .gtr (.t 10) (.t 11)), none⟩] none [0, 12])
  (.cond (.t 12) (.seq (.region [⟨(some 4), (.mv (.c (.p (.s (.int .i64 9))))), none⟩] none [4])
  .ret) .skip))
  (.seq (.seq (.region [⟨(some 5), (.mv (.c (.p (.s (.int .i64 0))))), none⟩] none [0, 5])
  (.block 0 (.loop ir119_0)))
  (.seq (.region [⟨(some 4), (.mv (.c (.p (.s (.int .i64 0))))), none⟩] none [4])
  .ret)))), [(4, none)], false⟩
/-- kinfolk/kinfolkref08.Fold -/
def ir120_0 : IRC := (.seq (.tidy [0, 3] [])
  (.seq (.seq (.region [⟨(some 30), (.mv (.t 3)), none⟩,
    ⟨(some 31), (.bin .add (.t 30) (.c (.p (.s (.int .i64 1))))), none⟩,
    ⟨(some 32), (.mv (.t 0)), none⟩,
    ⟨(some 33), (.len true (.t 32)), none⟩,
    ⟨(some 34), (.bin .lss (.t 31) (.t 33)), none⟩] none [0, 3, 34])
  (.cond (.t 34) .skip (.exit 4)))
  (.seq (.block 5 (.seq (.region [⟨(some 37), (.mv (.t 0)), none⟩,
    ⟨(some 38), (.mv (.t 3)), none⟩,
    ⟨(some 39), (.idxStr (.t 37) (.t 38)), none⟩,
    ⟨(some 40), (.bin .eql (.t 39) (.c (.p (.s (.int .u8 32))))), none⟩,
    ⟨(some 41), (.mv (.t 40)), none⟩,
    ⟨(some 42), (.mv (.t 0)), (some (41, true))⟩,
    ⟨(some 43), (.mv (.t 3)), (some (41, true))⟩,
    ⟨(some 44), (.bin .add (.t 43) (.c (.p (.s (.int .i64 1))))), (some (41, true))⟩,
    ⟨(some 45), (.idxStr (.t 42) (.t 44)), (some (41, true))⟩,
    ⟨(some 46), (.bin .eql (.t 45) (.c (.p (.s (.int .u8 32))))), (some (41, true))⟩,
    ⟨(some 47), (.pick (.t 41) (.t 46) (.c (.p (.s (.bool false))))), none⟩] none [0, 3, 47])
  (.cond (.t 47) (.seq (.region [⟨(some 48), (.mv (.t 0)), none⟩,
    ⟨(some 49), (.mv (.t 3)), none⟩,
    ⟨(some 50), (.slStr (.t 48) none (some (.t 49))), none⟩,
    ⟨(some 51), (.mv (.t 0)), none⟩,
    ⟨(some 52), (.mv (.t 3)), none⟩,
    ⟨(some 53), (.bin .add (.t 52) (.c (.p (.s (.int .i64 1))))), none⟩,
    ⟨(some 54), (.slStr (.t 51) (some (.t 53)) none), none⟩,
    ⟨(some 55), (.bin .add (.t 50) (.t 54)), none⟩,
    ⟨(some 56), (.call 120 [(.t 55)]), none⟩,
    ⟨(some 2), (.mv (.t 56)), none⟩] (some [0, 0, 3, 0, 0, 16, 56, 127, 255, 511]) [2])
  .ret) .skip)))
  (.region [⟨(some 35), (.mv (.t 3)), none⟩,
    ⟨(some 36), (.bin .add (.t 35) (.c (.p (.s (.int .i64 1))))), none⟩,
    ⟨(some 3), (.mv (.t 36)), none⟩] none [0, 3]))))
def ir120_1 : IRC := (.seq (.tidy [0] [])
  (.seq (.seq (.region [⟨(some 14), (.mv (.t 0)), none⟩,
    ⟨(some 15), (.len true (.t 14)), none⟩,
    ⟨(some 16), (.bin .gtr (.t 15) (.c (.p (.s (.int .i64 0))))), none⟩,
    ⟨(some 17), (.mv (.t 16)), none⟩,
    ⟨(some 18), (.mv (.t 0)), (some (17, true))⟩,
    ⟨(some 19), (.mv (.t 0)), (some (17, true))⟩,
    ⟨(some 20), (.len true (.t 19)), (some (17, true))⟩,
    ⟨(some 21), (.bin .sub (.t 20) (.c (.p (.s (.int .i64 1))))), (some (17, true))⟩,
    ⟨(some 22), (.idxStr (.t 18) (.t 21)), (some (17, true))⟩,
    ⟨(some 23), (.bin .eql (.t 22) (.c (.p (.s (.int .u8 32))))), (some (17, true))⟩,
    ⟨(some 24), (.pick (.t 17) (.t 23) (.c (.p (.s (.bool false))))), none⟩] none [0, 24])
  (.cond (.t 24) .skip (.exit 2)))
  (.block 3 (.region [⟨(some 25), (.mv (.t 0)), none⟩,
    ⟨(some 26), (.mv (.t 0)), none⟩,
    ⟨(some 27), (.len true (.t 26)), none⟩,
    ⟨(some 28), (.bin .sub (.t 27) (.c (.p (.s (.int .i64 1))))), none⟩,
    ⟨(some 29), (.slStr (.t 25) none (some (.t 28))), none⟩,
    ⟨(some 0), (.mv (.t 29)), none⟩] none [0]))))
def ir120_2 : IRC := (.seq (.tidy [0] [])
  (.seq (.seq (.region [⟨(some 4), (.mv (.t 0)), none⟩,
    ⟨(some 5), (.len true (.t 4)), none⟩,
    ⟨(some 6), (.bin .gtr (.t 5) (.c (.p (.s (.int .i64 0))))), none⟩,
    ⟨(some 7), (.mv (.t 6)), none⟩,
    ⟨(some 8), (.mv (.t 0)), (some (7, true))⟩,
    ⟨(some 9), (.idxStr (.t 8) (.c (.p (.s (.int .i64 0))))), (some (7, true))⟩,
    ⟨(some 10), (.bin .eql (.t 9) (.c (.p (.s (.int .u8 32))))), (some (7, true))⟩,
    ⟨(some 11), (.pick (.t 7) (.t 10) (.c (.p (.s (.bool false))))), none⟩] none [0, 11])
  (.cond (.t 11) .skip (.exit 0)))
  (.block 1 (.region [⟨(some 12), (.mv (.t 0)), none⟩,
    ⟨(some 13), (.slStr (.t 12) (some (.c (.p (.s (.int .i64 1))))) none), none⟩,
    ⟨(some 0), (.mv (.t 13)), none⟩] none [0]))))
def ir120 : IRF := ⟨[0], (.seq (.region [⟨(some 2), (.mv (.c (.p (.s (.string ⟨#[]⟩))))), none⟩] none [0])
  (.seq (.block 0 (.loop ir120_2))
  (.seq (.block 2 (.loop ir120_1))
  (.seq (.seq (.region [⟨(some 3), (.mv (.c (.p (.s (.int .i64 0))))), none⟩] none [0, 3])
  (.block 4 (.loop ir120_0)))
  (.seq (.region [⟨(some 57), (.mv (.t 0)), none⟩,
    ⟨(some 2), (.mv (.t 57)), none⟩] none [2])
  .ret))))), [(2, none)], false⟩
/-- kinfolk/card.KindName -/
def ir123 : IRF := ⟨[0], (.seq (.region [⟨(some 2), (.mv (.c (.p (.s (.string ⟨#[]⟩))))), none⟩] none [0])
  (.seq (.seq (.region [⟨(some 4), (.build [(.s (.string ⟨#[]⟩)), (.s (.string ⟨#[]⟩)), (.s (.string ⟨#[]⟩)), (.s (.string ⟨#[]⟩)), (.s (.string ⟨#[]⟩)), (.s (.string ⟨#[]⟩)), (.s (.string ⟨#[]⟩))] [(1, 1, (.c (.p (.s (.string ⟨#[110, 97, 109, 101]⟩))))), (2, 1, (.c (.p (.s (.string ⟨#[112, 104, 111, 110, 101]⟩))))), (3, 1, (.c (.p (.s (.string ⟨#[109, 97, 105, 108]⟩))))), (4, 1, (.c (.p (.s (.string ⟨#[97, 100, 100, 114, 101, 115, 115]⟩))))), (5, 1, (.c (.p (.s (.string ⟨#[110, 111, 116, 101]⟩))))), (6, 1, (.c (.p (.s (.string ⟨#[103, 114, 111, 117, 112]⟩)))))]), none⟩,
    ⟨(some 3), (.alloc false [(.s (.string ⟨#[]⟩)), (.s (.string ⟨#[]⟩)), (.s (.string ⟨#[]⟩)), (.s (.string ⟨#[]⟩)), (.s (.string ⟨#[]⟩)), (.s (.string ⟨#[]⟩)), (.s (.string ⟨#[]⟩))]), none⟩,
    ⟨none, (.store 7 (.t 3) (.t 4)), none⟩] none [0, 3])
  (.tidy [0] [3]))
  (.seq (.seq (.region [⟨(some 5), (.mv (.t 0)), none⟩,
    ⟨(some 6), (.bin .lss (.t 5) (.c (.p (.s (.int .i64 0))))), none⟩,
    ⟨(some 7), (.mv (.t 6)), none⟩,
    ⟨(some 8), (.mv (.t 0)), (some (7, false))⟩,
    ⟨(some 9), (.bin .geq (.t 8) (.c (.p (.s (.int .i64 7))))), (some (7, false))⟩,
    ⟨(some 10), (.pick (.t 7) (.c (.p (.s (.bool true)))) (.t 9)), none⟩] none [0, 3, 10])
  (.cond (.t 10) (.seq (.region [⟨(some 2), (.mv (.c (.p (.s (.string ⟨#[]⟩))))), none⟩] none [2])
  .ret) .skip))
  (.seq (.region [⟨(some 11), (.mv (.t 0)), none⟩,
    ⟨(some 12), (.idxAArr 7 1 (.t 3) (.t 11)), none⟩,
    ⟨(some 13), (.load 1 false (.t 12)), none⟩,
    ⟨(some 2), (.mv (.t 13)), none⟩] none [2])
  .ret)))), [(2, none)], false⟩
/-- kinfolk/text.Check -/
def ir124 : IRF := ⟨[0, 1], (.seq (.region [⟨(some 4), (.mv (.c (.p (.s (.int .i64 0))))), none⟩] none [0, 1])
  (.seq (.seq (.region [⟨(some 5), (.mv (.t 0)), none⟩,
    ⟨(some 6), (.len true (.t 5)), none⟩,
    ⟨(some 7), (.mv (.t 1)), none⟩,
    ⟨(some 8), (.bin .gtr (.t 6) (.t 7)), none⟩] none [0, 8])
  (.cond (.t 8) (.seq (.region [⟨(some 4), (.mv (.c (.p (.s (.int .i64 9))))), none⟩] none [4])
  .ret) .skip))
  (.seq (.seq (.region [⟨(some 9), (.mv (.t 0)), none⟩,
    ⟨(some 10), (.call 162 [(.t 9)]), none⟩,
    ⟨(some 11), (.un .not (.t 10)), none⟩,
    ⟨(some 12), (.mv (.t 11)), none⟩,
    ⟨(some 13), (.mv (.t 0)), (some (12, false))⟩,
    ⟨(some 14), (.call 163 [(.t 13), (.c (.fn 164 [] []))]), (some (12, false))⟩,
    ⟨(some 15), (.pick (.t 12) (.c (.p (.s (.bool true)))) (.t 14)), none⟩] none [15])
  (.cond (.t 15) (.seq (.region [⟨(some 4), (.mv (.c (.p (.s (.int .i64 7))))), none⟩] none [4])
  .ret) .skip))
  (.seq (.region [⟨(some 4), (.mv (.c (.p (.s (.int .i64 0))))), none⟩] none [4])
  .ret)))), [(4, none)], false⟩
/-- kinfolk/text.Fold -/
def ir125_0 : IRC := (.seq (.tidy [3, 4, 8, 9, 10] [])
  (.seq (.region [⟨(some 11), (.bin .lss (.t 10) (.t 9)), none⟩] none [3, 4, 8, 9, 10, 11])
  (.seq (.cond (.t 11) .skip (.exit 0))
  (.seq (.block 1 (.seq (.region [⟨(some 12), (.idxASl 1 (.t 8) (.t 10)), none⟩,
    ⟨(some 13), (.load 1 false (.t 12)), none⟩,
    ⟨(some 6), (.mv (.t 13)), none⟩] none [3, 4, 6, 8, 9, 10])
  (.seq (.seq (.region [⟨(some 14), (.mv (.t 6)), none⟩,
    ⟨(some 15), (.bin .neq (.t 14) (.c (.p (.s (.int .u8 32))))), none⟩,
    ⟨(some 16), (.mv (.t 15)), none⟩,
    ⟨(some 17), (.mv (.t 4)), (some (16, false))⟩,
    ⟨(some 18), (.un .not (.t 17)), (some (16, false))⟩,
    ⟨(some 19), (.pick (.t 16) (.c (.p (.s (.bool true)))) (.t 18)), none⟩] none [3, 6, 8, 9, 10, 19])
  (.cond (.t 19) (.region [⟨(some 20), (.mv (.t 3)), none⟩,
    ⟨(some 21), (.mv (.t 6)), none⟩,
    ⟨(some 22), (.mkSl true 1 1 [(.s (.int .u8 0))] [(0, 1, (.t 21))]), none⟩,
    ⟨(some 23), (.app 1 1 (.t 20) (.t 22)), none⟩,
    ⟨(some 3), (.mv (.t 23)), none⟩] none [3, 6, 8, 9, 10]) .skip))
  (.region [⟨(some 24), (.mv (.t 6)), none⟩,
    ⟨(some 25), (.bin .eql (.t 24) (.c (.p (.s (.int .u8 32))))), none⟩,
    ⟨(some 4), (.mv (.t 25)), none⟩] none [3, 4, 8, 9, 10]))))
  (.region [⟨(some 26), (.bin .add (.t 10) (.c (.p (.s (.int .i64 1))))), none⟩,
    ⟨(some 10), (.mv (.t 26)), none⟩] none [3, 4, 8, 9, 10])))))
def ir125 : IRF := ⟨[0], (.seq (.region [⟨(some 2), (.mv (.c (.p (.s (.string ⟨#[]⟩))))), none⟩] none [0])
  (.seq (.region [⟨(some 3), (.mv (.c (.p (.s (.slice none 0 0))))), none⟩] none [0, 3])
  (.seq (.region [⟨(some 4), (.mv (.c (.p (.s (.bool true))))), none⟩] none [0, 3, 4])
  (.seq (.seq (.region [⟨(some 7), (.mv (.t 0)), none⟩,
    ⟨(some 8), (.s2b true (.t 7)), none⟩,
    ⟨(some 9), (.len false (.t 8)), none⟩,
    ⟨(some 10), (.mv (.c (.p (.s (.int .i64 0))))), none⟩] none [3, 4, 8, 9, 10])
  (.seq (.block 0 (.loop ir125_0))
  (.tidy [] [3])))
  (.seq (.region [⟨(some 27), (.mv (.t 3)), none⟩,
    ⟨(some 28), (.b2s (.t 27)), none⟩,
    ⟨(some 29), (.call 166 [(.t 28), (.c (.p (.s (.string ⟨#[32]⟩))))]), none⟩,
    ⟨(some 2), (.mv (.t 29)), none⟩] none [2])
  .ret))))), [(2, none)], false⟩
/-- slices.Clone[[]kinfolk/card.Field,kinfolk/card.Field] -/
def ir128 : IRF := ⟨[0], (.seq (.region [⟨(some 2), (.mv (.c (.p (.s (.slice none 0 0))))), none⟩] none [0])
  (.seq (.seq (.region [⟨(some 3), (.mv (.t 0)), none⟩,
    ⟨(some 4), (.eq false .slice (.t 3) (.c (.p (.s (.slice none 0 0))))), none⟩] none [0, 4])
  (.cond (.t 4) (.seq (.region [⟨(some 2), (.mv (.c (.p (.s (.slice none 0 0))))), none⟩] none [2])
  .ret) .skip))
  (.seq (.region [⟨(some 5), (.mkSl false 0 3 [] []), none⟩,
    ⟨(some 6), (.mv (.t 0)), none⟩,
    ⟨(some 7), (.app 3 40 (.t 5) (.t 6)), none⟩,
    ⟨(some 2), (.mv (.t 7)), none⟩] none [2])
  .ret))), [(2, none)], false⟩
/-- slices.SortFunc[[]kinfolk/card.Field,kinfolk/card.Field] -/
def ir129 : IRF := ⟨[0, 1], (.seq (.region [⟨(some 5), (.mv (.t 0)), none⟩,
    ⟨(some 6), (.len false (.t 5)), none⟩,
    ⟨(some 4), (.mv (.t 6)), none⟩] none [0, 1, 4])
  (.region [⟨(some 7), (.mv (.t 0)), none⟩,
    ⟨(some 8), (.mv (.t 4)), none⟩,
    ⟨(some 9), (.mv (.t 4)), none⟩,
    ⟨(some 10), (.cvt .u64 (.t 9)), none⟩,
    ⟨(some 11), (.call 171 [(.t 10)]), none⟩,
    ⟨(some 12), (.mv (.t 1)), none⟩,
    ⟨(some 13), (.call 170 [(.t 7), (.c (.p (.s (.int .i64 0)))), (.t 8), (.t 11), (.t 12)]), none⟩] none [])), [], false⟩
/-- slices.Compact[[]kinfolk/card.Field,kinfolk/card.Field] -/
def ir131_0 : IRC := (.seq (.tidy [0, 3, 4, 5] [])
  (.seq (.seq (.region [⟨(some 29), (.mv (.t 5)), none⟩,
    ⟨(some 30), (.mv (.t 4)), none⟩,
    ⟨(some 31), (.len false (.t 30)), none⟩,
    ⟨(some 32), (.bin .lss (.t 29) (.t 31)), none⟩] none [0, 3, 4, 5, 32])
  (.cond (.t 32) .skip (.exit 2)))
  (.seq (.block 3 (.seq (.region [⟨(some 35), (.mv (.t 4)), none⟩,
    ⟨(some 36), (.mv (.t 5)), none⟩,
    ⟨(some 37), (.idxASl 3 (.t 35) (.t 36)), none⟩,
    ⟨(some 38), (.load 3 true (.t 37)), none⟩,
    ⟨(some 39), (.mv (.t 4)), none⟩,
    ⟨(some 40), (.mv (.t 5)), none⟩,
    ⟨(some 41), (.bin .sub (.t 40) (.c (.p (.s (.int .i64 1))))), none⟩,
    ⟨(some 42), (.idxASl 3 (.t 39) (.t 41)), none⟩,
    ⟨(some 43), (.load 3 true (.t 42)), none⟩,
    ⟨(some 44), (.bin .neq (.t 38) (.t 43)), none⟩] (some [0, 0, 3, 7, 0, 0, 32, 112, 240, 511]) [0, 3, 4, 5, 44])
  (.cond (.t 44) (.seq (.region [⟨(some 45), (.mv (.t 0)), none⟩,
    ⟨(some 46), (.mv (.t 3)), none⟩,
    ⟨(some 47), (.mv (.t 4)), none⟩,
    ⟨(some 48), (.mv (.t 5)), none⟩,
    ⟨(some 49), (.idxASl 3 (.t 47) (.t 48)), none⟩,
    ⟨(some 50), (.load 3 true (.t 49)), none⟩,
    ⟨(some 51), (.idxASl 3 (.t 45) (.t 46)), none⟩,
    ⟨none, (.store 3 (.t 51) (.t 50)), none⟩] none [0, 3, 4, 5])
  (.region [⟨(some 52), (.mv (.t 3)), none⟩,
    ⟨(some 53), (.bin .add (.t 52) (.c (.p (.s (.int .i64 1))))), none⟩,
    ⟨(some 3), (.mv (.t 53)), none⟩] none [0, 3, 4, 5])) .skip)))
  (.region [⟨(some 33), (.mv (.t 5)), none⟩,
    ⟨(some 34), (.bin .add (.t 33) (.c (.p (.s (.int .i64 1))))), none⟩,
    ⟨(some 5), (.mv (.t 34)), none⟩] none [0, 3, 4, 5]))))
def ir131_1 : IRC := (.seq (.tidy [0, 3] [])
  (.seq (.seq (.region [⟨(some 10), (.mv (.t 3)), none⟩,
    ⟨(some 11), (.mv (.t 0)), none⟩,
    ⟨(some 12), (.len false (.t 11)), none⟩,
    ⟨(some 13), (.bin .lss (.t 10) (.t 12)), none⟩] none [0, 3, 13])
  (.cond (.t 13) .skip (.exit 0)))
  (.seq (.block 1 (.seq (.region [⟨(some 16), (.mv (.t 0)), none⟩,
    ⟨(some 17), (.mv (.t 3)), none⟩,
    ⟨(some 18), (.idxASl 3 (.t 16) (.t 17)), none⟩,
    ⟨(some 19), (.load 3 true (.t 18)), none⟩,
    ⟨(some 20), (.mv (.t 0)), none⟩,
    ⟨(some 21), (.mv (.t 3)), none⟩,
    ⟨(some 22), (.bin .sub (.t 21) (.c (.p (.s (.int .i64 1))))), none⟩,
    ⟨(some 23), (.idxASl 3 (.t 20) (.t 22)), none⟩,
    ⟨(some 24), (.load 3 true (.t 23)), none⟩,
    ⟨(some 25), (.bin .eql (.t 19) (.t 24)), none⟩] (some [0, 0, 3, 7, 0, 0, 32, 112, 240, 511]) [0, 3, 25])
  (.cond (.t 25) (.seq (.region [⟨(some 26), (.mv (.t 0)), none⟩,
    ⟨(some 27), (.mv (.t 3)), none⟩,
    ⟨(some 28), (.slSl 3 (.t 26) (some (.t 27)) none none), none⟩,
    ⟨(some 4), (.mv (.t 28)), none⟩] none [0, 3, 4])
  (.seq (.seq (.region [⟨(some 5), (.mv (.c (.p (.s (.int .i64 1))))), none⟩] none [0, 3, 4, 5])
  (.block 2 (.loop ir131_0)))
  (.seq (.region [⟨(some 54), (.mv (.t 0)), none⟩,
    ⟨(some 55), (.mv (.t 3)), none⟩,
    ⟨(some 56), (.slSl 3 (.t 54) (some (.t 55)) none none), none⟩,
    ⟨none, (.clr 3 [(.s (.int .i64 0)), (.s (.string ⟨#[]⟩)), (.s (.string ⟨#[]⟩))] (.t 56)), none⟩] none [0, 3])
  (.seq (.region [⟨(some 57), (.mv (.t 0)), none⟩,
    ⟨(some 58), (.mv (.t 3)), none⟩,
    ⟨(some 59), (.slSl 3 (.t 57) none (some (.t 58)) none), none⟩,
    ⟨(some 2), (.mv (.t 59)), none⟩] none [2])
  .ret)))) .skip)))
  (.region [⟨(some 14), (.mv (.t 3)), none⟩,
    ⟨(some 15), (.bin .add (.t 14) (.c (.p (.s (.int .i64 1))))), none⟩,
    ⟨(some 3), (.mv (.t 15)), none⟩] none [0, 3]))))
def ir131 : IRF := ⟨[0], (.seq (.region [⟨(some 2), (.mv (.c (.p (.s (.slice none 0 0))))), none⟩] none [0])
  (.seq (.seq (.region [⟨(some 6), (.mv (.t 0)), none⟩,
    ⟨(some 7), (.len false (.t 6)), none⟩,
    ⟨(some 8), (.bin .lss (.t 7) (.c (.p (.s (.int .i64 2))))), none⟩] none [0, 8])
  (.cond (.t 8) (.seq (.region [⟨(some 9), (.mv (.t 0)), none⟩,
    ⟨(some 2), (.mv (.t 9)), none⟩] none [2])
  .ret) .skip))
  (.seq (.seq (.region [⟨(some 3), (.mv (.c (.p (.s (.int .i64 1))))), none⟩] none [0, 3])
  (.block 0 (.loop ir131_1)))
  (.seq (.region [⟨(some 60), (.mv (.t 0)), none⟩,
    ⟨(some 2), (.mv (.t 60)), none⟩] none [2])
  .ret)))), [(2, none)], false⟩
end Go.Proofs.YtppeggedcaabkaaGreatDoor
end

section
namespace Go.Proofs.YtppeggedcaabkaaGreatDoor
open Go Go.Sx Go.ChangeShapes Go.WideShapes
set_option linter.unusedVariables false

theorem has_lt {P : Program} {w : World} {r : Reach} {base : Nat} {a : Addr} {e : TypeId} {n : Nat} (h : w.has P r base a e n) : a.spot = none ∧ a.block < w.heap.size := by
  obtain ⟨_, h1, row, cells, h2, _⟩ := h
  refine ⟨h1, ?_⟩
  unfold World.shape? at h2
  cases hb : w.heap[a.block]? with
  | none => rw [hb] at h2; cases h2
  | some o => exact (Array.getElem?_eq_some_iff.1 hb).1

theorem sl_open {H : Type} {enc : TypeId × Value → H} {P : Program} {W : World} {base : Nat} {spare : Nat → Bool} {held : Bool} {t e : TypeId} {k : IntKind} {v : Value} {d : DataW H} {p : List MemPlace} (ht : P.underlying t = some (.slice e)) (he : P.underlying e = some (.int k)) (hc : P.cellsOf e = 1)
    (hval : Value.okWide P W .any base t v) (h : DataW.Trod enc P W 0 spare held t v d p) :
    v = .slice none 0 0 ∨ ∃ (zs : List Int), (∀ n ∈ zs, (Lit.int k n).wf = true) ∧ zs.length < 2 ^ 63 ∧ PR (fun b => b < W.heap.size) W (.sl (zs.map fun n => .s (.int k n)) zs.length 1 false) v := by
  obtain ⟨a0, len, cap, rfl⟩ := okWide_slice ht hval
  obtain ⟨fuel, hf⟩ := h
  rcases open_ints ht he hc hf with ⟨hcs, hx⟩ | ⟨a, len', cap', zs, hcs, _, hl, hm, hz, hx, hcell, hwz⟩
  · simp [Value.cells] at hcs
    obtain ⟨rfl, rfl, rfl⟩ := hcs
    exact .inl rfl
  · simp [Value.cells] at hcs
    obtain ⟨rfl, rfl, rfl⟩ := hcs
    right
    have hh : a.spot = none ∧ a.block < W.heap.size := by
      simp only [Value.okWide, ht, Cell.okWide, Cell.ok] at hval
      exact has_lt hval.2.2
    obtain ⟨b, off, spot⟩ := a
    obtain ⟨rfl, hb⟩ := hh
    have hlz : len ≤ zs.length := by rw [hz]; split <;> omega
    have hcell' : ∀ j, j < zs.length → W.cell? ⟨b, off + j, none⟩ = some (.int k (zs.getD j 0)) := fun j hj => by rw [← add_plain]; exact hcell j hj
    have hm62 : cap < 2 ^ 63 := by unfold maxLen at hm; omega
    refine ⟨zs.take len, fun n hn => hwz n (List.mem_of_mem_take hn), by simp; omega, ?_⟩
    have hlen : (zs.take len).length = len := by simp; omega
    rw [hlen]
    refine .sl _ len 1 false b off cap (fun j => .int k (zs.getD j 0)) hb ?_ ?_ ?_ hl (fun h => by cases h)
    · intro j hj
      rw [List.length_map, hlen] at hj
      exact hcell' j (by omega)
    · intro j hj; rfl
    · intro j l hj
      rw [List.getElem?_map, Option.map_eq_some_iff] at hj
      obtain ⟨n, h1, rfl⟩ := hj
      rw [List.getElem?_take] at h1
      split at h1
      · have : zs.getD j 0 = n := by rw [List.getD, h1]; rfl
        rw [this]
        exact .s _
      · cases h1
end Go.Proofs.YtppeggedcaabkaaGreatDoor
end

section
namespace Go.Proofs.YtppeggedcaabkaaGreatDoor
open Go Go.Sx Go.ChangeShapes Go.WideShapes
set_option linter.unusedVariables false

/-- A plain field's kind. -/
inductive SK where
  | int (k : IntKind)
  | bool
  | str
def SK.of (P : Program) (t : TypeId) : Option SK := match P.underlying t with
  | some (.int k) => some (.int k)
  | some .bool => some .bool
  | some .string => some .str
  | _ => none
def SK.fits : SK → Value → Prop
  | .int k, .int k' n => k' = k ∧ (Lit.int k n).wf = true
  | .bool, .bool _ => True
  | .str, .string s => s.size ≤ maxLen
  | _, _ => False
inductive Fits : List SK → List Value → Prop
  | nil : Fits [] []
  | cons {k : SK} {v : Value} {ks : List SK} {vs : List Value} : k.fits v → Fits ks vs → Fits (k :: ks) (v :: vs)
/-- The fields of a struct, one cell each. -/
def flatF (P : Program) : Nat → List Field → Option (List SK)
  | _, [] => some []
  | i, f :: r => if f.offset = i ∧ P.cellsOf f.type = 1 then (match SK.of P f.type, flatF P (i + 1) r with
    | some k, some l => some (k :: l)
    | _, _ => none) else none
def flatB (P : Program) (e : TypeId) : Option (List SK) := match P.underlying e with
  | some (.struct fs) => if P.cellsOf e = fs.size then flatF P 0 fs.toList else none
  | _ => none

section
variable {H : Type} {enc : TypeId × Value → H} {P : Program} {W : World} {base : Nat} {spare : Nat → Bool} {held : Bool}
theorem sk_fits {t : TypeId} {s : SK} {n : Nat} {v : Value} {x : DataW H × List MemPlace} (hs : SK.of P t = some s) (h : DataW.trod enc P W base spare held n t [v] = some x) : s.fits v := by
  unfold SK.of at hs
  cases n with
  | zero => simp [DataW.trod] at h
  | succ n =>
    unfold DataW.trod at h
    split at hs
    · rename_i k hk
      obtain rfl := Option.some.inj hs
      rw [hk] at h
      cases v <;> simp at h
      exact ⟨h.1.1, h.1.2⟩
    · rename_i hk
      obtain rfl := Option.some.inj hs
      rw [hk] at h
      cases v <;> simp at h
      trivial
    · rename_i hk
      obtain rfl := Option.some.inj hs
      rw [hk] at h
      cases v <;> simp at h
      exact h.1
    · cases hs
theorem one_cell {s : SK} {v : Value} (h : s.fits v) : v.oneCell' = true := by
  cases s <;> cases v <;> simp [SK.fits] at h <;> rfl
theorem flat_cells {n : Nat} : ∀ (fs : List Field) (i : Nat) (ks : List SK) (cs : List Value), flatF P i fs = some ks → (∀ (j : Nat) (f : Field), fs[j]? = some f → ∃ y, DataW.trod enc P W base spare held n f.type ((cs.drop f.offset).take (P.cellsOf f.type)) = some y) → cs.length = i + fs.length →
    Fits ks (cs.drop i)
  | [], i, ks, cs, h, _, hl => by
    simp only [flatF, Option.some.injEq] at h
    subst h
    rw [List.drop_eq_nil_of_le (by simp at hl; omega)]
    exact .nil
  | f :: r, i, ks, cs, h, hf, hl => by
    simp only [flatF] at h
    split at h
    · rename_i hc
      obtain ⟨ho, h1⟩ := hc
      split at h
      · rename_i k l hk hr
        obtain rfl := Option.some.inj h
        have hi : i < cs.length := by simp at hl; omega
        obtain ⟨y, hy⟩ := hf 0 f rfl
        have e : (cs.drop f.offset).take (P.cellsOf f.type) = [cs[i]] := by
          rw [ho, h1, List.drop_eq_getElem_cons hi]; rfl
        rw [e] at hy
        rw [List.drop_eq_getElem_cons hi]
        exact .cons (sk_fits hk hy) (flat_cells r (i + 1) l cs hr (fun j g hg => hf (j + 1) g hg) (by simp at hl ⊢; omega))
      · cases h
    · cases h
theorem Fits.len {ks : List SK} {vs : List Value} (h : Fits ks vs) : vs.length = ks.length := by
  induction h with
  | nil => rfl
  | cons _ _ ih => simp [ih]
theorem Fits.one {ks : List SK} {vs : List Value} (h : Fits ks vs) : ∀ v ∈ vs, v.oneCell' = true := by
  induction h with
  | nil => simp
  | cons hk _ ih =>
    intro v hv
    rcases List.mem_cons.1 hv with rfl | hv
    · exact one_cell hk
    · exact ih v hv

theorem flatten_get (rows : Nat → List Value) (m : Nat) : ∀ (n : Nat), (∀ i, i < n → (rows i).length = m) → ∀ j, j < n * m → (((List.range n).map rows).flatten)[j]? = (rows (j / m))[j % m]?
  | 0, _, j, hj => by omega
  | n + 1, h, j, hj => by
    have hm : 0 < m := by
      rcases Nat.eq_zero_or_pos m with rfl | h'
      · simp at hj
      · exact h'
    have hl : (((List.range n).map rows).flatten).length = n * m := by
      clear hj
      induction n with
      | zero => simp
      | succ n ih =>
        rw [List.range_succ, List.map_append, List.flatten_append, List.length_append, ih (fun i hi => h i (by omega))]
        simp [h n (by omega), Nat.add_mul]
    rw [List.range_succ, List.map_append, List.flatten_append]
    by_cases hlt : j < n * m
    · rw [List.getElem?_append_left (by omega), flatten_get rows m n (fun i hi => h i (by omega)) j hlt]
    · rw [List.getElem?_append_right (by omega), hl]
      have e1 : j / m = n := Nat.div_eq_of_lt_le (by omega) (by rw [Nat.add_mul] at *; omega)
      have e2 : j % m = j - n * m := by
        have := Nat.div_add_mod j m
        rw [e1, Nat.mul_comm] at this
        omega
      rw [e1, e2]; simp

theorem sl_flat {t e : TypeId} {ks : List SK} {v : Value} {d : DataW H} {p : List MemPlace} (ht : P.underlying t = some (.slice e)) (hk : flatB P e = some ks) (hpos : 0 < ks.length)
    (hval : Value.okWide P W .any base t v) (h : DataW.Trod enc P W 0 spare held t v d p) :
    v = .slice none 0 0 ∨ ∃ rows : List (List Value), (∀ r ∈ rows, Fits ks r) ∧ rows.length < 2 ^ 63 ∧ PR (fun b => b < W.heap.size) W (.sl (rows.flatten.map PV.s) rows.length ks.length false) v := by
  obtain ⟨a0, len, cap, rfl⟩ := okWide_slice ht hval
  obtain ⟨fuel, hf⟩ := h
  rcases Go.Deep.open_slice ht hf with ⟨hcs, hx⟩ | ⟨a, len', cap', m, n, D, Pl, hcs, _, hl, hm, hmm, hx, hel⟩
  · simp [Value.cells] at hcs
    obtain ⟨rfl, rfl, rfl⟩ := hcs
    exact .inl rfl
  · simp [Value.cells] at hcs
    obtain ⟨rfl, rfl, rfl⟩ := hcs
    right
    have hh : a.spot = none ∧ a.block < W.heap.size := by
      simp only [Value.okWide, ht, Cell.okWide, Cell.ok] at hval
      exact has_lt hval.2.2
    obtain ⟨b, off, spot⟩ := a
    obtain ⟨rfl, hb⟩ := hh
    unfold flatB at hk
    split at hk
    case h_2 => cases hk
    rename_i fs he
    split at hk
    case isFalse => cases hk
    rename_i hce
    have hkl : ∀ (fs : List Field) (i : Nat) (ks : List SK), flatF P i fs = some ks → ks.length = fs.length := by
      intro fs
      induction fs with
      | nil => intro i ks h; simp [flatF] at h; subst h; rfl
      | cons f r ih =>
        intro i ks h
        simp only [flatF] at h
        split at h
        · split at h
          · rename_i k l _ hr
            obtain rfl := Option.some.inj h
            simp [ih _ _ hr]
          · cases h
        · cases h
    have hks : ks.length = fs.size := by rw [hkl _ _ _ hk]; simp
    have hlm : len ≤ m := by rw [hmm]; split <;> omega
    have each : ∀ i, ∃ cs' : List Value, i < m → W.cells? 0 ((⟨b, off, none⟩ : Addr).add (i * P.cellsOf e)) (P.cellsOf e) = some cs' ∧ Fits ks cs' := by
      intro i
      by_cases hi : i < m
      · obtain ⟨cs', h1, h2⟩ := hel i hi
        obtain ⟨xs, q, _, _, h3, h4, h5⟩ := DataW.trod_struct he h2
        refine ⟨cs', fun _ => ⟨h1, ?_⟩⟩
        have := flat_cells (n := q) fs.toList 0 ks cs' hk (fun j f hj => by
          have hj' : fs[j]? = some f := by simpa using hj
          have hlt : j < xs.length := by rw [h4]; exact (Array.getElem?_eq_some_iff.1 hj').1
          exact ⟨xs[j], by rw [h5 j f hj', List.getElem?_eq_getElem hlt]⟩) (by rw [h3, hce]; simp)
        simpa using this
      · exact ⟨[], fun h => absurd h hi⟩
    obtain ⟨rows, hrows⟩ := Classical.axiomOfChoice each
    have hfit : ∀ i, i < len → Fits ks (rows i) := fun i hi => (hrows i (by omega)).2
    have hrl : ∀ i, i < len → (rows i).length = ks.length := fun i hi => (hfit i hi).len
    refine ⟨(List.range len).map rows, fun r hr => ?_, ?_, ?_⟩
    · obtain ⟨i, hi, rfl⟩ := List.mem_map.1 hr
      exact hfit i (List.mem_range.1 hi)
    · have hm' : cap ≤ maxLen := hm
      unfold maxLen at hm'
      rw [List.length_map, List.length_range]; omega
    · rw [List.length_map, List.length_range]
      have hget := flatten_get rows ks.length len hrl
      have hlen : (((List.range len).map rows).flatten).length = len * ks.length := by
        have : ∀ n, n ≤ len → (((List.range n).map rows).flatten).length = n * ks.length := by
          intro n
          induction n with
          | zero => intro _; simp
          | succ n ih =>
            intro hn
            rw [List.range_succ, List.map_append, List.flatten_append, List.length_append, ih (by omega)]
            simp [hrl n (by omega), Nat.add_mul]
        exact this len (Nat.le_refl _)
      have hcell : ∀ j, j < len * ks.length → ∃ u, (((List.range len).map rows).flatten)[j]? = some u ∧ W.cell? ⟨b, off + j, none⟩ = some u ∧ u.oneCell' = true := by
        intro j hj
        have hi : j / ks.length < len := Nat.div_lt_of_lt_mul (by rw [Nat.mul_comm]; exact hj)
        have hr : j % ks.length < ks.length := Nat.mod_lt _ hpos
        obtain ⟨h1, h2⟩ := hrows (j / ks.length) (by omega)
        obtain ⟨_, h3, h4⟩ := World.cells?_some h1
        have hlt : j % ks.length < (rows (j / ks.length)).length := by rw [hrl _ hi]; exact hr
        refine ⟨(rows (j / ks.length))[j % ks.length], by rw [hget j hj, List.getElem?_eq_getElem hlt], ?_, h2.one _ (List.getElem_mem hlt)⟩
        have h5 := h4 (j % ks.length) (by rw [hce, ← hks]; exact hr)
        rw [List.getElem?_eq_getElem hlt] at h5
        rw [← h5, add_plain, add_plain, hce, ← hks]
        congr 2
        have := Nat.div_add_mod j ks.length
        rw [Nat.mul_comm] at this
        omega
      refine .sl _ len ks.length false b off cap (fun j => (((List.range len).map rows).flatten).getD j default) hb ?_ ?_ ?_ hl (fun h => by cases h)
      · intro j hj
        rw [List.length_map, hlen] at hj
        obtain ⟨u, h1, h2, h3⟩ := hcell j hj
        rw [List.getD, h1]; exact h2
      · intro j hj
        rw [List.length_map, hlen] at hj
        obtain ⟨u, h1, h2, h3⟩ := hcell j hj
        show Value.oneCell' ((((List.range len).map rows).flatten).getD j default) = true
        rw [List.getD, h1]; exact h3
      · intro j l hj
        rw [List.getElem?_map, Option.map_eq_some_iff] at hj
        obtain ⟨u, h1, rfl⟩ := hj
        have : (((List.range len).map rows).flatten).getD j default = u := by rw [List.getD, h1]; rfl
        rw [this]
        exact .s _
end
end Go.Proofs.YtppeggedcaabkaaGreatDoor
end

section
namespace Go.Proofs.YtppeggedcaabkaaGreatDoor
open Go Go.Sx Go.ChangeShapes Go.WideShapes
set_option linter.unusedVariables false
set_option linter.unusedSimpArgs false

/-- A cell's kind. -/
inductive CT where
  | k (s : SK)
  | sl (ks : List CT)
/-- The kinds of the cells of a type. -/
def flatFs (g : TypeId → Option (List CT)) (P : Program) : Nat → List Field → Option (List CT)
  | _, [] => some []
  | i, f :: r => match g f.type with
    | some a => if f.offset = i ∧ P.cellsOf f.type = a.length then (match flatFs g P (i + a.length) r with
      | some b => some (a ++ b)
      | none => none) else none
    | none => none
def flatT (P : Program) : Nat → TypeId → Option (List CT)
  | 0, _ => none
  | m + 1, t => match P.underlying t with
    | some (.slice e) => match flatT P m e with
      | some ks => if P.cellsOf e = ks.length ∧ 0 < ks.length then some [.sl ks] else none
      | none => none
    | some (.struct fs) => match flatFs (flatT P m) P 0 fs.toList with
      | some ks => if P.cellsOf t = ks.length then some ks else none
      | none => none
    | _ => match SK.of P t with
      | some s => some [.k s]
      | none => none
/-- A cell, and what the value machine has for it. -/
inductive RV (W : World) : CT → Value → PV → Prop
  | k {s : SK} {v : Value} : s.fits v → RV W (.k s) v (.s v)
  | nil (ks : List CT) : RV W (.sl ks) (.slice none 0 0) (.s (.slice none 0 0))
  | sl0 (ks : List CT) (a : Addr) (cap : Nat) : RV W (.sl ks) (.slice (some a) 0 cap) (.sl [] 0 ks.length false)
  | sl (ks : List CT) (b off len cap : Nat) (u : Nat → Value) (xs : List PV) (c : Nat → CT) (hx : xs.length = len * ks.length) (hk : ∀ j, j < len * ks.length → ks[j % ks.length]? = some (c j))
      (hu : ∀ j, j < len * ks.length → W.cell? ⟨b, off + j, none⟩ = some (u j)) (h : ∀ (j : Nat) (x : PV), xs[j]? = some x → RV W (c j) (u j) x) (hcap : len ≤ cap) (hb : b < W.heap.size) (hm : len < 2 ^ 63) :
      RV W (.sl ks) (.slice (some ⟨b, off, none⟩) len cap) (.sl xs len ks.length false)
theorem RV.one {W : World} {c : CT} {v : Value} {x : PV} (h : RV W c v x) : v.oneCell' = true := by
  cases h with
  | k h => exact one_cell h
  | _ => rfl
theorem RV.pr {W : World} {c : CT} {v : Value} {x : PV} (h : RV W c v x) : PR (fun b => b < W.heap.size) W x v := by
  induction h with
  | k h => exact .s _
  | nil ks => exact .s _
  | sl0 ks a cap => exact .sl0 _ _ _ _ (fun h => by cases h)
  | sl ks b off len cap u xs c hx hk hu h hcap hb hm ih =>
    refine .sl _ len ks.length false b off cap u hb (fun j hj => hu j (by omega)) ?_ ?_ hcap (fun h => by cases h)
    · intro j hj
      obtain ⟨x, hx'⟩ : ∃ x, xs[j]? = some x := ⟨xs[j], by simp [hj]⟩
      exact (h j x hx').one
    · intro j l hj; exact ih j l hj
def AllR (W : World) (ks : List CT) (cs : List Value) (xs : List PV) : Prop :=
  cs.length = ks.length ∧ xs.length = ks.length ∧ ∀ (j : Nat) (c : CT) (v : Value) (x : PV), ks[j]? = some c → cs[j]? = some v → xs[j]? = some x → RV W c v x
theorem AllR.app {W : World} {ks ks' : List CT} {cs cs' : List Value} {xs xs' : List PV} (h : AllR W ks cs xs) (h' : AllR W ks' cs' xs') : AllR W (ks ++ ks') (cs ++ cs') (xs ++ xs') := by
  obtain ⟨a1, a2, a3⟩ := h
  obtain ⟨b1, b2, b3⟩ := h'
  refine ⟨by simp [a1, b1], by simp [a2, b2], ?_⟩
  intro j c v x h1 h2 h3
  by_cases hj : j < ks.length
  · rw [List.getElem?_append_left hj] at h1
    rw [List.getElem?_append_left (by omega)] at h2 h3
    exact a3 j c v x h1 h2 h3
  · rw [List.getElem?_append_right (by omega)] at h1 h2 h3
    rw [a1] at h2
    rw [a2] at h3
    exact b3 _ c v x h1 h2 h3
theorem flat_get {α : Type} (rows : Nat → List α) (m : Nat) : ∀ (n : Nat), (∀ i, i < n → (rows i).length = m) → (((List.range n).map rows).flatten).length = n * m ∧ ∀ j, j < n * m → (((List.range n).map rows).flatten)[j]? = (rows (j / m))[j % m]?
  | 0, _ => ⟨by simp, fun j hj => by omega⟩
  | n + 1, h => by
    obtain ⟨l1, l2⟩ := flat_get rows m n (fun i hi => h i (by omega))
    rw [List.range_succ, List.map_append, List.flatten_append]
    refine ⟨by rw [List.length_append, l1]; simp [h n (by omega), Nat.add_mul], ?_⟩
    intro j hj
    have hm : 0 < m := by
      rcases Nat.eq_zero_or_pos m with rfl | h'
      · simp at hj
      · exact h'
    by_cases hlt : j < n * m
    · rw [List.getElem?_append_left (by omega), l2 j hlt]
    · rw [List.getElem?_append_right (by omega), l1]
      have e1 : j / m = n := Nat.div_eq_of_lt_le (by omega) (by rw [Nat.add_mul] at *; omega)
      have e2 : j % m = j - n * m := by
        have := Nat.div_add_mod j m
        rw [e1, Nat.mul_comm] at this
        omega
      rw [e1, e2]; simp

section
variable {H : Type} {enc : TypeId × Value → H} {P : Program} {W : World} {base : Nat} {spare : Nat → Bool} {held : Bool}
theorem sk_reads {t : TypeId} {s : SK} {n : Nat} {cs : List Value} {x : DataW H × List MemPlace} (hs : SK.of P t = some s) (h : DataW.trod enc P W base spare held n t cs = some x) : ∃ v, cs = [v] ∧ s.fits v := by
  obtain ⟨v, rfl⟩ : ∃ v, cs = [v] := by
    unfold SK.of at hs
    cases n with
    | zero => simp [DataW.trod] at h
    | succ n =>
      unfold DataW.trod at h
      split at hs
      · rename_i k hk
        rw [hk] at h
        split at h <;> simp_all
      · rename_i hk
        rw [hk] at h
        split at h <;> simp_all
      · rename_i hk
        rw [hk] at h
        split at h <;> simp_all
      · cases hs
  exact ⟨v, rfl, sk_fits hs h⟩
theorem struct_reads {g : TypeId → Option (List CT)} (ih : ∀ t ks n cs y, g t = some ks → DataW.trod enc P W base spare held n t cs = some y → ∃ xs, AllR W ks cs xs) : ∀ (fs : List Field) (i : Nat) (ks : List CT) (cs : List Value), flatFs g P i fs = some ks →
    (∀ (j : Nat) (f : Field), fs[j]? = some f → ∃ n y, DataW.trod enc P W base spare held n f.type ((cs.drop f.offset).take (P.cellsOf f.type)) = some y) → cs.length = i + ks.length → ∃ xs, AllR W ks (cs.drop i) xs
  | [], i, ks, cs, h, _, hl => by
    simp only [flatFs, Option.some.injEq] at h
    subst h
    exact ⟨[], by simp at hl ⊢; omega, rfl, fun j c v x h => by simp at h⟩
  | f :: r, i, ks, cs, h, hf, hl => by
    simp only [flatFs] at h
    split at h
    case h_2 => cases h
    rename_i a ha
    split at h
    case isFalse => cases h
    rename_i hc
    obtain ⟨ho, hc⟩ := hc
    split at h
    case h_2 => cases h
    rename_i b hb
    obtain rfl := Option.some.inj h
    obtain ⟨n, y, hy⟩ := hf 0 f rfl
    obtain ⟨xs, h1⟩ := ih _ _ _ _ _ ha hy
    rw [List.length_append] at hl
    obtain ⟨ys, h2⟩ := struct_reads ih r (i + a.length) b cs hb (fun j g hg => hf (j + 1) g hg) (by omega)
    refine ⟨xs ++ ys, ?_⟩
    have e : cs.drop i = (cs.drop f.offset).take (P.cellsOf f.type) ++ cs.drop (i + a.length) := by
      rw [ho, hc, ← List.drop_drop, List.take_append_drop]
    rw [e]
    exact h1.app h2
theorem cell_some {W : World} {a : Addr} {v : Value} (h : W.cell? a = some v) : a.spot = none ∧ a.block < W.heap.size := by
  unfold World.cell? at h
  split at h
  · rename_i c _ _ hh
    split at h
    · cases h
    · rename_i hs
      refine ⟨by cases hq : a.spot with
        | none => rfl
        | some z => rw [hq] at hs; simp at hs, (Array.getElem?_eq_some_iff.1 hh).1⟩
  · cases h
/-- What may be read is what the value machine has. -/
theorem reads : ∀ (m : Nat) (t : TypeId) (ks : List CT) (n : Nat) (cs : List Value) (y : DataW H × List MemPlace), flatT P m t = some ks → DataW.trod enc P W base spare held n t cs = some y → ∃ xs, AllR W ks cs xs
  | 0, t, ks, n, cs, y, h, _ => by cases h
  | m + 1, t, ks, n, cs, y, h, ht => by
    rw [flatT] at h
    split at h
    · rename_i e he
      split at h
      case h_2 => cases h
      rename_i ks' hk
      split at h
      case isFalse => cases h
      rename_i hc
      obtain ⟨hce, hpos⟩ := hc
      obtain rfl := Option.some.inj h
      rcases Go.Deep.open_slice he ht with ⟨rfl, hx⟩ | ⟨a, len, cap, m', n', D, Pl, rfl, _, hl, hm, hmm, hx, hel⟩
      · refine ⟨[.s (.slice none 0 0)], rfl, rfl, ?_⟩
        intro j c v x h1 h2 h3
        match j with
        | 0 =>
          obtain rfl := Option.some.inj h1
          obtain rfl := Option.some.inj h2
          obtain rfl := Option.some.inj h3
          exact .nil _
        | j + 1 => simp at h1
      · have hlm : len ≤ m' := by rw [hmm]; split <;> omega
        have fin : ∀ x, RV W (.sl ks') (.slice (some a) len cap) x → ∃ xs, AllR W [.sl ks'] [.slice (some a) len cap] xs := by
          intro x hx
          refine ⟨[x], rfl, rfl, ?_⟩
          intro j c v x h1 h2 h3
          match j with
          | 0 =>
            obtain rfl := Option.some.inj h1
            obtain rfl := Option.some.inj h2
            obtain rfl := Option.some.inj h3
            exact hx
          | j + 1 => simp at h1
        rcases Nat.eq_zero_or_pos len with rfl | hlen
        · exact fin _ (.sl0 _ _ _)
        have each : ∀ i, ∃ r : List Value × List PV, i < m' → W.cells? 0 (a.add (i * P.cellsOf e)) (P.cellsOf e) = some r.1 ∧ AllR W ks' r.1 r.2 := by
          intro i
          by_cases hi : i < m'
          · obtain ⟨cs', h1, h2⟩ := hel i hi
            obtain ⟨xs, h3⟩ := reads m e ks' n' cs' _ hk h2
            refine ⟨(cs', xs), fun _ => ⟨?_, h3⟩⟩
            unfold World.cells? at h1 ⊢
            split at h1
            · rw [if_pos (Nat.zero_le _)]; exact h1
            · cases h1
          · exact ⟨([], []), fun h => absurd h hi⟩
        obtain ⟨rows, hrows⟩ := Classical.axiomOfChoice each
        have cellE : ∀ i, i < m' → ∀ j, j < ks'.length → W.cell? ((a.add (i * ks'.length)).add j) = (rows i).1[j]? := by
          intro i hi j hj
          obtain ⟨h1, h2⟩ := hrows i hi
          rw [hce] at h1
          exact (World.cells?_some h1).2.2 j hj
        obtain ⟨b, off, spot⟩ := a
        have h0 : spot = none ∧ b < W.heap.size := by
          have h1 := cellE 0 (by omega) 0 hpos
          have hl0 : 0 < (rows 0).1.length := by rw [(hrows 0 (by omega)).2.1]; exact hpos
          rw [List.getElem?_eq_getElem hl0] at h1
          have := cell_some h1
          simpa [Addr.add] using this
        obtain ⟨rfl, hb⟩ := h0
        have rl1 : ∀ i, i < len → (rows i).1.length = ks'.length := fun i hi => (hrows i (by omega)).2.1
        have rl2 : ∀ i, i < len → (rows i).2.length = ks'.length := fun i hi => (hrows i (by omega)).2.2.1
        obtain ⟨f1, f2⟩ := flat_get (fun i => (rows i).1) ks'.length len rl1
        obtain ⟨g1, g2⟩ := flat_get (fun i => (rows i).2) ks'.length len rl2
        have dv : ∀ j, j < len * ks'.length → j / ks'.length < len ∧ j % ks'.length < ks'.length := fun j hj => ⟨Nat.div_lt_of_lt_mul (by rw [Nat.mul_comm]; exact hj), Nat.mod_lt _ hpos⟩
        refine fin (.sl (((List.range len).map fun i => (rows i).2).flatten) len ks'.length false) (.sl ks' b off len cap (fun j => (((List.range len).map fun i => (rows i).1).flatten).getD j default) _ (fun j => ks'.getD (j % ks'.length) (.sl [])) g1 ?_ ?_ ?_ hl hb (by have hm' : cap ≤ maxLen := hm; unfold maxLen at hm'; omega))
        · intro j hj
          obtain ⟨d1, d2⟩ := dv j hj
          rw [List.getD_eq_getElem?_getD, List.getElem?_eq_getElem d2]; rfl
        · intro j hj
          obtain ⟨d1, d2⟩ := dv j hj
          have h1 := cellE (j / ks'.length) (by omega) (j % ks'.length) d2
          have hl1 : j % ks'.length < (rows (j / ks'.length)).1.length := by rw [rl1 _ d1]; exact d2
          rw [List.getD_eq_getElem?_getD, f2 j hj, List.getElem?_eq_getElem hl1]
          rw [List.getElem?_eq_getElem hl1] at h1
          rw [Option.getD_some, ← h1, add_plain, add_plain]
          have := Nat.div_add_mod j ks'.length
          rw [Nat.mul_comm] at this
          congr 2
          omega
        · intro j x hj
          have hj' : j < len * ks'.length := by rw [← g1]; exact (List.getElem?_eq_some_iff.1 hj).1
          obtain ⟨d1, d2⟩ := dv j hj'
          obtain ⟨_, r1, r2, r3⟩ := hrows (j / ks'.length) (by omega)
          rw [g2 j hj'] at hj
          have hl1 : j % ks'.length < (rows (j / ks'.length)).1.length := by rw [r1]; exact d2
          refine r3 (j % ks'.length) _ _ x ?_ ?_ hj
          · rw [List.getD_eq_getElem?_getD, List.getElem?_eq_getElem d2]; rfl
          · rw [List.getD_eq_getElem?_getD, f2 j hj', List.getElem?_eq_getElem hl1]; rfl
    · rename_i fs he
      split at h
      case h_2 => cases h
      rename_i ks' hk
      split at h
      case isFalse => cases h
      rename_i hc
      obtain rfl := Option.some.inj h
      obtain ⟨xs, q, _, _, h3, h4, h5⟩ := DataW.trod_struct he ht
      have := struct_reads (fun t ks n cs y h1 h2 => reads m t ks n cs y h1 h2) fs.toList 0 ks' cs hk (fun j f hj => by
        have hj' : fs[j]? = some f := by simpa using hj
        have hlt : j < xs.length := by rw [h4]; exact (Array.getElem?_eq_some_iff.1 hj').1
        exact ⟨q, xs[j], by rw [h5 j f hj', List.getElem?_eq_getElem hlt]⟩) (by rw [h3, hc]; simp)
      simpa using this
    · split at h
      case h_2 => cases h
      rename_i s hs
      obtain rfl := Option.some.inj h
      obtain ⟨v, rfl, hv⟩ := sk_reads hs ht
      refine ⟨[.s v], rfl, rfl, ?_⟩
      intro j c v x h1 h2 h3
      match j with
      | 0 =>
        obtain rfl := Option.some.inj h1
        obtain rfl := Option.some.inj h2
        obtain rfl := Option.some.inj h3
        exact .k hv
      | j + 1 => simp at h1
/-- A slice of one-cell things. -/
theorem list_of {α : Type} {f : α → PV} {Q : α → Prop} {c : CT} (hf : ∀ v x, RV W c v x → ∃ a, x = f a ∧ Q a) {v : Value} {x : PV} (h : RV W (.sl [c]) v x) : x = .s (.slice none 0 0) ∨ ∃ L : List α, x = .sl (L.map f) L.length 1 false ∧ (∀ a ∈ L, Q a) ∧ L.length < 2 ^ 63 := by
  generalize hc : CT.sl [c] = t at h
  cases h with
  | k h => cases hc
  | nil ks => exact .inl rfl
  | sl0 ks a cap =>
    obtain rfl := CT.sl.inj hc
    exact .inr ⟨[], rfl, by simp, by simp⟩
  | sl ks b off len cap u xs c' hx hk hu h hcap hb hm =>
    obtain rfl := CT.sl.inj hc
    right
    have hx' : xs.length = len := by simpa using hx
    have each : ∀ j : Fin xs.length, ∃ a, xs[j] = f a ∧ Q a := by
      intro j
      have h1 := hk j.1 (by rw [← hx]; exact j.2)
      have h2 := h j.1 xs[j] (by simp)
      have : c' j.1 = c := by
        have e : j.1 % [c].length = 0 := by simp [Nat.mod_one]
        rw [e] at h1
        exact (Option.some.inj h1).symm
      rw [this] at h2
      exact hf _ _ h2
    obtain ⟨L, hL⟩ := Classical.axiomOfChoice each
    refine ⟨List.ofFn L, ?_, ?_, by simp [hx', hm]⟩
    · have e : (List.ofFn L).map f = xs := by
        apply List.ext_getElem
        · simp
        · intro j h1 h2
          simp only [List.getElem_map, List.getElem_ofFn]
          exact (hL ⟨j, h2⟩).1.symm
      rw [e, List.length_ofFn, hx']; rfl
    · intro a ha
      obtain ⟨j, rfl⟩ := List.mem_ofFn.1 ha
      exact (hL j).2
end
end Go.Proofs.YtppeggedcaabkaaGreatDoor
end
