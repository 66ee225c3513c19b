/- The functions that the law reaches, as the value machine has them: printed by a program of mine. -/
import Derived.Test.YtnhkfjebkbkgeaaSxS
import Derived.Test.YtnhkfjebkbkgeaaChecked
import Derived.KernelRfl
namespace Go.Proofs.Ytnhkfjebkbkgeaa
open Go Go.Sx
def imT (t : TypeId) : Bool := [76, 92].contains t
def ow (f : FuncId) : Bool := [15, 17, 20, 33, 37, 46, 47].contains f
/-- kinfolk/kinfolklaw17.NoteKinds -/
def ir3 : IRF := ⟨[0], (.seq (.region [⟨(some 2), (.mv (.c (.p (.s (.bool false))))), none⟩] none [0])
  (.seq (.region [⟨(some 3), (.mv (.c (.p (.s (.string ⟨#[]⟩))))), none⟩] none [0, 3])
  (.seq (.region [⟨(some 6), (.mkSl 8 1 [(.s (.string ⟨#[]⟩)), (.s (.string ⟨#[]⟩)), (.s (.string ⟨#[]⟩)), (.s (.string ⟨#[]⟩)), (.s (.string ⟨#[]⟩)), (.s (.string ⟨#[]⟩)), (.s (.string ⟨#[]⟩)), (.s (.string ⟨#[]⟩))] [(0, 1, (.c (.p (.s (.string ⟨#[]⟩))))), (1, 1, (.c (.p (.s (.string ⟨#[104, 101, 108, 108, 111]⟩))))), (2, 1, (.c (.p (.s (.string ⟨#[100, 105, 103, 101, 115, 116]⟩))))), (3, 1, (.c (.p (.s (.string ⟨#[98, 97, 116, 99, 104]⟩))))), (4, 1, (.c (.p (.s (.string ⟨#[97, 99, 107]⟩))))), (5, 1, (.c (.p (.s (.string ⟨#[97, 115, 107]⟩))))), (6, 1, (.c (.p (.s (.string ⟨#[111, 102, 102, 101, 114]⟩))))), (7, 1, (.c (.p (.s (.string ⟨#[116, 97, 107, 101, 110]⟩)))))]), none⟩,
    ⟨(some 4), (.mv (.t 6)), none⟩] none [0, 3, 4])
  (.seq (.seq (.region [⟨(some 7), (.mv (.t 0)), none⟩,
    ⟨(some 8), (.bin .gtr (.t 7) (.c (.p (.s (.int .i64 0))))), none⟩,
    ⟨(some 9), (.mv (.t 8)), none⟩,
    ⟨(some 10), (.mv (.t 0)), (some (9, true))⟩,
    ⟨(some 11), (.bin .lss (.t 10) (.c (.p (.s (.int .i64 8))))), (some (9, true))⟩,
    ⟨(some 12), (.pick (.t 9) (.t 11) (.c (.p (.s (.bool false))))), none⟩] none [0, 3, 4, 12])
  (.cond (.t 12) (.region [⟨(some 13), (.mv (.t 4)), none⟩,
    ⟨(some 14), (.mv (.t 0)), none⟩,
    ⟨(some 15), (.idxASl 1 (.t 13) (.t 14)), none⟩,
    ⟨(some 16), (.load 1 false (.t 15)), none⟩,
    ⟨(some 3), (.mv (.t 16)), none⟩] none [0, 3]) .skip))
  (.seq (.region [⟨(some 17), (.mv (.t 0)), none⟩,
    ⟨(some 18), (.build [(.s (.int .i64 0)), (.s (.int .i64 0)), (.s (.int .i64 0)), (.s (.int .u64 0)), (.s (.int .i64 0)), (.s (.bool false)), (.s (.int .u64 0)), (.s (.pointer none)), (.s (.slice none 0 0)), (.s (.int .u64 0)), (.s (.int .i64 0)), (.s (.int .i64 0)), (.s (.bool false)), (.s (.pointer none)), (.s (.int .u64 0))] [(0, 1, (.t 17)), (1, 1, (.c (.p (.s (.int .i64 1)))))]), none⟩,
    ⟨(some 5), (.alloc false [(.s (.int .i64 0)), (.s (.int .i64 0)), (.s (.int .i64 0)), (.s (.int .u64 0)), (.s (.int .i64 0)), (.s (.bool false)), (.s (.int .u64 0)), (.s (.pointer none)), (.s (.slice none 0 0)), (.s (.int .u64 0)), (.s (.int .i64 0)), (.s (.int .i64 0)), (.s (.bool false)), (.s (.pointer none)), (.s (.int .u64 0))]), none⟩,
    ⟨none, (.store 15 (.t 5) (.t 18)), none⟩] none [0, 3, 5])
  (.seq (.region [⟨(some 19), (.call 4 []), none⟩,
    ⟨(some 20), (.mv (.t 19)), none⟩,
    ⟨(some 21), (.mv (.t 0)), (some (20, true))⟩,
    ⟨(some 22), (.call 5 [(.t 21)]), (some (20, true))⟩,
    ⟨(some 23), (.mv (.t 3)), (some (20, true))⟩,
    ⟨(some 24), (.bin .eql (.t 22) (.t 23)), (some (20, true))⟩,
    ⟨(some 25), (.pick (.t 20) (.t 24) (.c (.p (.s (.bool false))))), none⟩,
    ⟨(some 26), (.mv (.t 25)), none⟩,
    ⟨(some 27), (.load 15 true (.t 5)), (some (26, true))⟩,
    ⟨(some 28), (.call 6 [(.t 27)]), (some (26, true))⟩,
    ⟨(some 29), (.mv (.t 0)), (some (26, true))⟩,
    ⟨(some 30), (.bin .gtr (.t 29) (.c (.p (.s (.int .i64 0))))), (some (26, true))⟩,
    ⟨(some 31), (.mv (.t 30)), (some (26, true))⟩,
    ⟨(some 32), (.mv (.t 0)), (some (31, true))⟩,
    ⟨(some 33), (.bin .lss (.t 32) (.c (.p (.s (.int .i64 8))))), (some (31, true))⟩,
    ⟨(some 34), (.pick (.t 31) (.t 33) (.c (.p (.s (.bool false))))), (some (26, true))⟩,
    ⟨(some 35), (.mv (.t 34)), (some (26, true))⟩,
    ⟨(some 36), (.mv (.t 0)), (some (35, true))⟩,
    ⟨(some 37), (.bin .neq (.t 36) (.c (.p (.s (.int .i64 6))))), (some (35, true))⟩,
    ⟨(some 38), (.pick (.t 35) (.t 37) (.c (.p (.s (.bool false))))), (some (26, true))⟩,
    ⟨(some 39), (.eq false .bool (.t 28) (.t 38)), (some (26, true))⟩,
    ⟨(some 40), (.pick (.t 26) (.t 39) (.c (.p (.s (.bool false))))), none⟩,
    ⟨(some 2), (.mv (.t 40)), none⟩] none [2])
  .ret)))))), [(2, none)], false⟩
/-- kinfolk/kinfolklaw17.awake -/
def ir4 : IRF := ⟨[], (.seq (.region [⟨(some 0), (.mv (.c (.p (.s (.bool false))))), none⟩] none [])
  (.seq (.region [⟨(some 4), (.build [(.s (.int .i64 0)), (.s (.int .i64 0)), (.s (.int .i64 0)), (.s (.int .u64 0)), (.s (.int .i64 0)), (.s (.bool false)), (.s (.int .u64 0)), (.s (.pointer none)), (.s (.slice none 0 0)), (.s (.int .u64 0)), (.s (.int .i64 0)), (.s (.int .i64 0)), (.s (.bool false)), (.s (.pointer none)), (.s (.int .u64 0))] [(0, 1, (.c (.p (.s (.int .i64 5))))), (1, 1, (.c (.p (.s (.int .i64 1)))))]), none⟩,
    ⟨(some 5), (.call 7 [(.t 4)]), none⟩,
    ⟨(some 3), (.mv (.t 5)), none⟩,
    ⟨(some 6), (.ext (.t 3) 0), none⟩,
    ⟨(some 7), (.ext (.t 3) 1), none⟩,
    ⟨(some 1), (.mv (.t 6)), none⟩,
    ⟨(some 2), (.mv (.t 7)), none⟩] none [1, 2])
  (.seq (.region [⟨(some 8), (.mv (.t 2)), none⟩,
    ⟨(some 9), (.bin .eql (.t 8) (.c (.p (.s (.int .i64 0))))), none⟩,
    ⟨(some 10), (.mv (.t 9)), none⟩,
    ⟨(some 11), (.mv (.t 1)), (some (10, true))⟩,
    ⟨(some 12), (.mkSl 3 1 [(.s (.int .u8 0)), (.s (.int .u8 0)), (.s (.int .u8 0))] [(0, 1, (.c (.p (.s (.int .u8 5))))), (1, 1, (.c (.p (.s (.int .u8 1))))), (2, 1, (.c (.p (.s (.int .u8 0)))))]), (some (10, true))⟩,
    ⟨(some 13), (.call 9 [(.t 12)]), (some (10, true))⟩,
    ⟨(some 14), (.call 8 [(.t 11), (.t 13)]), (some (10, true))⟩,
    ⟨(some 15), (.pick (.t 10) (.t 14) (.c (.p (.s (.bool false))))), none⟩,
    ⟨(some 0), (.mv (.t 15)), none⟩] none [0])
  .ret))), [(0, none)], false⟩
/-- kinfolk/note.KindName -/
def ir5 : IRF := ⟨[0], (.seq (.region [⟨(some 2), (.mv (.c (.p (.s (.string ⟨#[]⟩))))), none⟩] none [0])
  (.seq (.region [⟨(some 4), (.mkSl 8 1 [(.s (.string ⟨#[]⟩)), (.s (.string ⟨#[]⟩)), (.s (.string ⟨#[]⟩)), (.s (.string ⟨#[]⟩)), (.s (.string ⟨#[]⟩)), (.s (.string ⟨#[]⟩)), (.s (.string ⟨#[]⟩)), (.s (.string ⟨#[]⟩))] [(0, 1, (.c (.p (.s (.string ⟨#[]⟩))))), (1, 1, (.c (.p (.s (.string ⟨#[104, 101, 108, 108, 111]⟩))))), (2, 1, (.c (.p (.s (.string ⟨#[100, 105, 103, 101, 115, 116]⟩))))), (3, 1, (.c (.p (.s (.string ⟨#[98, 97, 116, 99, 104]⟩))))), (4, 1, (.c (.p (.s (.string ⟨#[97, 99, 107]⟩))))), (5, 1, (.c (.p (.s (.string ⟨#[97, 115, 107]⟩))))), (6, 1, (.c (.p (.s (.string ⟨#[111, 102, 102, 101, 114]⟩))))), (7, 1, (.c (.p (.s (.string ⟨#[116, 97, 107, 101, 110]⟩)))))]), none⟩,
    ⟨(some 3), (.mv (.t 4)), none⟩] none [0, 3])
  (.seq (.seq (.region [⟨(some 5), (.mv (.t 0)), none⟩,
    ⟨(some 6), (.bin .lss (.t 5) (.c (.p (.s (.int .i64 0))))), none⟩,
    ⟨(some 7), (.mv (.t 6)), none⟩,
    ⟨(some 8), (.mv (.t 0)), (some (7, false))⟩,
    ⟨(some 9), (.mv (.t 3)), (some (7, false))⟩,
    ⟨(some 10), (.len false (.t 9)), (some (7, false))⟩,
    ⟨(some 11), (.bin .geq (.t 8) (.t 10)), (some (7, false))⟩,
    ⟨(some 12), (.pick (.t 7) (.c (.p (.s (.bool true)))) (.t 11)), none⟩] none [0, 3, 12])
  (.cond (.t 12) (.seq (.region [⟨(some 2), (.mv (.c (.p (.s (.string ⟨#[]⟩))))), none⟩] none [2])
  .ret) .skip))
  (.seq (.region [⟨(some 13), (.mv (.t 3)), none⟩,
    ⟨(some 14), (.mv (.t 0)), none⟩,
    ⟨(some 15), (.idxASl 1 (.t 13) (.t 14)), none⟩,
    ⟨(some 16), (.load 1 false (.t 15)), none⟩,
    ⟨(some 2), (.mv (.t 16)), none⟩] none [2])
  .ret)))), [(2, none)], false⟩
/-- (kinfolk/note.Note).Right -/
def ir6 : IRF := ⟨[0], (.seq (.region [⟨(some 1), (.box false (.t 0)), none⟩,
    ⟨(some 2), (.mv (.c (.p (.s (.bool false))))), none⟩] none [1])
  (.seq (.block 0 (.seq (.region [⟨(some 4), (.fieldAddr 0 (.t 1)), none⟩,
    ⟨(some 5), (.load 1 false (.t 4)), none⟩,
    ⟨(some 6), (.call 10 [(.t 5)]), none⟩,
    ⟨(some 7), (.bin .lss (.t 6) (.c (.p (.s (.int .i64 0))))), none⟩,
    ⟨(some 8), (.mv (.t 7)), none⟩,
    ⟨(some 9), (.fieldAddr 1 (.t 1)), (some (8, false))⟩,
    ⟨(some 10), (.load 1 false (.t 9)), (some (8, false))⟩,
    ⟨(some 11), (.call 11 [(.t 10)]), (some (8, false))⟩,
    ⟨(some 12), (.un .not (.t 11)), (some (8, false))⟩,
    ⟨(some 13), (.pick (.t 8) (.c (.p (.s (.bool true)))) (.t 12)), none⟩,
    ⟨(some 14), (.mv (.t 13)), none⟩,
    ⟨(some 15), (.fieldAddr 2 (.t 1)), (some (14, false))⟩,
    ⟨(some 16), (.load 1 false (.t 15)), (some (14, false))⟩,
    ⟨(some 17), (.call 11 [(.t 16)]), (some (14, false))⟩,
    ⟨(some 18), (.un .not (.t 17)), (some (14, false))⟩,
    ⟨(some 19), (.pick (.t 14) (.c (.p (.s (.bool true)))) (.t 18)), none⟩,
    ⟨(some 20), (.mv (.t 19)), none⟩,
    ⟨(some 21), (.fieldAddr 1 (.t 1)), (some (20, false))⟩,
    ⟨(some 22), (.load 1 false (.t 21)), (some (20, false))⟩,
    ⟨(some 23), (.fieldAddr 2 (.t 1)), (some (20, false))⟩,
    ⟨(some 24), (.load 1 false (.t 23)), (some (20, false))⟩,
    ⟨(some 25), (.bin .eql (.t 22) (.t 24)), (some (20, false))⟩,
    ⟨(some 26), (.pick (.t 20) (.c (.p (.s (.bool true)))) (.t 25)), none⟩,
    ⟨(some 3), (.mv (.t 26)), none⟩] none [1, 3])
  (.cond (.t 3) (.seq (.region [⟨(some 2), (.mv (.c (.p (.s (.bool false))))), none⟩] none [2])
  .ret) (.seq (.region [⟨(some 28), (.load 15 true (.t 1)), none⟩,
    ⟨(some 29), (.call 12 [(.t 28)]), none⟩,
    ⟨(some 30), (.un .not (.t 29)), none⟩,
    ⟨(some 31), (.mv (.t 30)), none⟩,
    ⟨(some 32), (.fieldAddr 4 (.t 1)), (some (31, false))⟩,
    ⟨(some 33), (.load 1 false (.t 32)), (some (31, false))⟩,
    ⟨(some 34), (.bin .lss (.t 33) (.c (.p (.s (.int .i64 0))))), (some (31, false))⟩,
    ⟨(some 35), (.pick (.t 31) (.c (.p (.s (.bool true)))) (.t 34)), none⟩,
    ⟨(some 36), (.mv (.t 35)), none⟩,
    ⟨(some 37), (.fieldAddr 4 (.t 1)), (some (36, false))⟩,
    ⟨(some 38), (.load 1 false (.t 37)), (some (36, false))⟩,
    ⟨(some 39), (.bin .geq (.t 38) (.c (.p (.s (.int .i64 256))))), (some (36, false))⟩,
    ⟨(some 40), (.pick (.t 36) (.c (.p (.s (.bool true)))) (.t 39)), none⟩,
    ⟨(some 41), (.mv (.t 40)), none⟩,
    ⟨(some 42), (.load 15 true (.t 1)), (some (41, false))⟩,
    ⟨(some 43), (.call 13 [(.t 42)]), (some (41, false))⟩,
    ⟨(some 44), (.un .not (.t 43)), (some (41, false))⟩,
    ⟨(some 45), (.pick (.t 41) (.c (.p (.s (.bool true)))) (.t 44)), none⟩,
    ⟨(some 27), (.mv (.t 45)), none⟩] none [1, 27])
  (.cond (.t 27) (.seq (.region [⟨(some 2), (.mv (.c (.p (.s (.bool false))))), none⟩] none [2])
  .ret) (.seq (.region [⟨(some 47), (.fieldAddr 0 (.t 1)), none⟩,
    ⟨(some 48), (.load 1 false (.t 47)), none⟩,
    ⟨(some 49), (.bin .eql (.t 48) (.c (.p (.s (.int .i64 3))))), none⟩,
    ⟨(some 46), (.mv (.t 49)), none⟩] none [1, 46])
  (.cond (.t 46) (.seq (.region [⟨(some 50), (.fieldAddr 8 (.t 1)), none⟩,
    ⟨(some 51), (.load 1 false (.t 50)), none⟩,
    ⟨(some 52), (.len false (.t 51)), none⟩,
    ⟨(some 53), (.bin .leq (.t 52) (.c (.p (.s (.int .i64 4))))), none⟩,
    ⟨(some 2), (.mv (.t 53)), none⟩] none [2])
  .ret) (.seq (.region [⟨(some 55), (.fieldAddr 0 (.t 1)), none⟩,
    ⟨(some 56), (.load 1 false (.t 55)), none⟩,
    ⟨(some 57), (.bin .eql (.t 56) (.c (.p (.s (.int .i64 6))))), none⟩,
    ⟨(some 54), (.mv (.t 57)), none⟩] none [1, 54])
  (.cond (.t 54) (.seq (.region [⟨(some 58), (.fieldAddr 9 (.t 1)), none⟩,
    ⟨(some 59), (.load 5 true (.t 58)), none⟩,
    ⟨(some 60), (.call 14 [(.t 59)]), none⟩,
    ⟨(some 61), (.mv (.t 60)), none⟩,
    ⟨(some 62), (.fieldAddr 9 (.t 1)), (some (61, true))⟩,
    ⟨(some 63), (.fieldAddr 1 (.t 62)), (some (61, true))⟩,
    ⟨(some 64), (.load 1 false (.t 63)), (some (61, true))⟩,
    ⟨(some 65), (.fieldAddr 1 (.t 1)), (some (61, true))⟩,
    ⟨(some 66), (.load 1 false (.t 65)), (some (61, true))⟩,
    ⟨(some 67), (.bin .eql (.t 64) (.t 66)), (some (61, true))⟩,
    ⟨(some 68), (.pick (.t 61) (.t 67) (.c (.p (.s (.bool false))))), none⟩,
    ⟨(some 69), (.mv (.t 68)), none⟩,
    ⟨(some 70), (.fieldAddr 9 (.t 1)), (some (69, true))⟩,
    ⟨(some 71), (.fieldAddr 2 (.t 70)), (some (69, true))⟩,
    ⟨(some 72), (.load 1 false (.t 71)), (some (69, true))⟩,
    ⟨(some 73), (.fieldAddr 2 (.t 1)), (some (69, true))⟩,
    ⟨(some 74), (.load 1 false (.t 73)), (some (69, true))⟩,
    ⟨(some 75), (.bin .eql (.t 72) (.t 74)), (some (69, true))⟩,
    ⟨(some 76), (.pick (.t 69) (.t 75) (.c (.p (.s (.bool false))))), none⟩,
    ⟨(some 2), (.mv (.t 76)), none⟩] none [2])
  .ret) .skip)))))))))
  (.seq (.region [⟨(some 2), (.mv (.c (.p (.s (.bool true))))), none⟩] none [2])
  .ret))), [(2, none)], false⟩
/-- (kinfolk/note.Note).Bytes -/
def ir7 : IRF := ⟨[0], (.seq (.region [⟨(some 1), (.box false (.t 0)), none⟩,
    ⟨(some 2), (.mv (.c (.p (.s (.slice none 0 0))))), none⟩,
    ⟨(some 3), (.mv (.c (.p (.s (.int .i64 0))))), none⟩] none [1])
  (.seq (.seq (.region [⟨(some 7), (.load 15 true (.t 1)), none⟩,
    ⟨(some 8), (.call 6 [(.t 7)]), none⟩,
    ⟨(some 9), (.un .not (.t 8)), none⟩] none [1, 9])
  (.cond (.t 9) (.seq (.region [⟨(some 2), (.mv (.c (.p (.s (.slice none 0 0))))), none⟩,
    ⟨(some 3), (.mv (.c (.p (.s (.int .i64 1))))), none⟩] none [2, 3])
  .ret) .skip))
  (.seq (.region [⟨(some 10), (.fieldAddr 0 (.t 1)), none⟩,
    ⟨(some 11), (.load 1 false (.t 10)), none⟩,
    ⟨(some 12), (.call 10 [(.t 11)]), none⟩,
    ⟨(some 4), (.mv (.t 12)), none⟩] none [1, 4])
  (.seq (.region [⟨(some 13), (.fieldAddr 0 (.t 1)), none⟩,
    ⟨(some 14), (.load 1 false (.t 13)), none⟩,
    ⟨(some 15), (.cvt .u8 (.t 14)), none⟩,
    ⟨(some 16), (.fieldAddr 1 (.t 1)), none⟩,
    ⟨(some 17), (.load 1 false (.t 16)), none⟩,
    ⟨(some 18), (.cvt .u8 (.t 17)), none⟩,
    ⟨(some 19), (.fieldAddr 2 (.t 1)), none⟩,
    ⟨(some 20), (.load 1 false (.t 19)), none⟩,
    ⟨(some 21), (.cvt .u8 (.t 20)), none⟩,
    ⟨(some 22), (.mkSl 3 1 [(.s (.int .u8 0)), (.s (.int .u8 0)), (.s (.int .u8 0))] [(0, 1, (.t 15)), (1, 1, (.t 18)), (2, 1, (.t 21))]), none⟩,
    ⟨(some 5), (.mv (.t 22)), none⟩] none [1, 4, 5])
  (.seq (.seq (.region [⟨(some 23), (.mv (.t 4)), none⟩,
    ⟨(some 24), (.bin .and (.t 23) (.c (.p (.s (.int .i64 1))))), none⟩,
    ⟨(some 25), (.bin .gtr (.t 24) (.c (.p (.s (.int .i64 0))))), none⟩] none [1, 4, 5, 25])
  (.cond (.t 25) (.region [⟨(some 26), (.mv (.t 5)), none⟩,
    ⟨(some 27), (.fieldAddr 3 (.t 1)), none⟩,
    ⟨(some 28), (.load 1 false (.t 27)), none⟩,
    ⟨(some 29), (.call 15 [(.t 26), (.t 28)]), none⟩,
    ⟨(some 5), (.mv (.t 29)), none⟩] none [1, 4, 5]) .skip))
  (.seq (.seq (.region [⟨(some 30), (.mv (.t 4)), none⟩,
    ⟨(some 31), (.bin .and (.t 30) (.c (.p (.s (.int .i64 2))))), none⟩,
    ⟨(some 32), (.bin .gtr (.t 31) (.c (.p (.s (.int .i64 0))))), none⟩] none [1, 4, 5, 32])
  (.cond (.t 32) (.region [⟨(some 33), (.mv (.t 5)), none⟩,
    ⟨(some 34), (.fieldAddr 4 (.t 1)), none⟩,
    ⟨(some 35), (.load 1 false (.t 34)), none⟩,
    ⟨(some 36), (.cvt .u8 (.t 35)), none⟩,
    ⟨(some 37), (.mkSl 1 1 [(.s (.int .u8 0))] [(0, 1, (.t 36))]), none⟩,
    ⟨(some 38), (.app 1 1 (.t 33) (.t 37)), none⟩,
    ⟨(some 5), (.mv (.t 38)), none⟩] none [1, 4, 5]) .skip))
  (.seq (.seq (.region [⟨(some 39), (.mv (.t 4)), none⟩,
    ⟨(some 40), (.bin .and (.t 39) (.c (.p (.s (.int .i64 16))))), none⟩,
    ⟨(some 41), (.bin .gtr (.t 40) (.c (.p (.s (.int .i64 0))))), none⟩] none [1, 4, 5, 41])
  (.cond (.t 41) (.seq (.region [⟨(some 6), (.mv (.c (.p (.s (.int .u8 0))))), none⟩] none [1, 4, 5, 6])
  (.seq (.seq (.region [⟨(some 42), (.fieldAddr 5 (.t 1)), none⟩,
    ⟨(some 43), (.load 1 false (.t 42)), none⟩] none [1, 4, 5, 6, 43])
  (.cond (.t 43) (.region [⟨(some 6), (.mv (.c (.p (.s (.int .u8 1))))), none⟩] none [1, 4, 5, 6]) .skip))
  (.region [⟨(some 44), (.mv (.t 5)), none⟩,
    ⟨(some 45), (.mv (.t 6)), none⟩,
    ⟨(some 46), (.mkSl 1 1 [(.s (.int .u8 0))] [(0, 1, (.t 45))]), none⟩,
    ⟨(some 47), (.app 1 1 (.t 44) (.t 46)), none⟩,
    ⟨(some 5), (.mv (.t 47)), none⟩] none [1, 4, 5]))) .skip))
  (.seq (.seq (.region [⟨(some 48), (.mv (.t 4)), none⟩,
    ⟨(some 49), (.bin .and (.t 48) (.c (.p (.s (.int .i64 32))))), none⟩,
    ⟨(some 50), (.bin .gtr (.t 49) (.c (.p (.s (.int .i64 0))))), none⟩] none [1, 4, 5, 50])
  (.cond (.t 50) (.region [⟨(some 51), (.mv (.t 5)), none⟩,
    ⟨(some 52), (.fieldAddr 9 (.t 1)), none⟩,
    ⟨(some 53), (.load 5 true (.t 52)), none⟩,
    ⟨(some 54), (.call 16 [(.t 51), (.t 53)]), none⟩,
    ⟨(some 5), (.mv (.t 54)), none⟩] none [1, 4, 5]) .skip))
  (.seq (.seq (.region [⟨(some 55), (.mv (.t 4)), none⟩,
    ⟨(some 56), (.bin .and (.t 55) (.c (.p (.s (.int .i64 8))))), none⟩,
    ⟨(some 57), (.bin .gtr (.t 56) (.c (.p (.s (.int .i64 0))))), none⟩] none [1, 4, 5, 57])
  (.cond (.t 57) (.region [⟨(some 58), (.mv (.t 5)), none⟩,
    ⟨(some 59), (.fieldAddr 6 (.t 1)), none⟩,
    ⟨(some 60), (.load 2 true (.t 59)), none⟩,
    ⟨(some 61), (.call 18 [(.t 60)]), none⟩,
    ⟨(some 62), (.b2s (.t 61)), none⟩,
    ⟨(some 63), (.call 17 [(.t 58), (.t 62)]), none⟩,
    ⟨(some 5), (.mv (.t 63)), none⟩] none [1, 4, 5]) .skip))
  (.seq (.seq (.region [⟨(some 64), (.mv (.t 4)), none⟩,
    ⟨(some 65), (.bin .and (.t 64) (.c (.p (.s (.int .i64 4))))), none⟩,
    ⟨(some 66), (.bin .gtr (.t 65) (.c (.p (.s (.int .i64 0))))), none⟩] none [1, 4, 5, 66])
  (.cond (.t 66) (.region [⟨(some 67), (.mv (.t 5)), none⟩,
    ⟨(some 68), (.fieldAddr 8 (.t 1)), none⟩,
    ⟨(some 69), (.load 1 false (.t 68)), none⟩,
    ⟨(some 70), (.call 19 [(.t 67), (.t 69)]), none⟩,
    ⟨(some 5), (.mv (.t 70)), none⟩] none [1, 4, 5]) .skip))
  (.seq (.seq (.region [⟨(some 71), (.mv (.t 4)), none⟩,
    ⟨(some 72), (.bin .and (.t 71) (.c (.p (.s (.int .i64 64))))), none⟩,
    ⟨(some 73), (.bin .gtr (.t 72) (.c (.p (.s (.int .i64 0))))), none⟩] none [1, 5, 73])
  (.cond (.t 73) (.region [⟨(some 74), (.mv (.t 5)), none⟩,
    ⟨(some 75), (.fieldAddr 14 (.t 1)), none⟩,
    ⟨(some 76), (.load 1 false (.t 75)), none⟩,
    ⟨(some 77), (.call 15 [(.t 74), (.t 76)]), none⟩,
    ⟨(some 5), (.mv (.t 77)), none⟩] none [5]) .skip))
  (.seq (.seq (.region [⟨(some 78), (.mv (.t 5)), none⟩,
    ⟨(some 79), (.len false (.t 78)), none⟩,
    ⟨(some 80), (.bin .gtr (.t 79) (.c (.p (.s (.int .i64 1048576))))), none⟩] none [5, 80])
  (.cond (.t 80) (.seq (.region [⟨(some 2), (.mv (.c (.p (.s (.slice none 0 0))))), none⟩,
    ⟨(some 3), (.mv (.c (.p (.s (.int .i64 9))))), none⟩] none [2, 3])
  .ret) .skip))
  (.seq (.region [⟨(some 81), (.mv (.t 5)), none⟩,
    ⟨(some 82), (.call 20 [(.t 81)]), none⟩,
    ⟨(some 2), (.mv (.t 82)), none⟩,
    ⟨(some 3), (.mv (.c (.p (.s (.int .i64 0))))), none⟩] none [2, 3])
  .ret))))))))))))), [(2, none), (3, none)], false⟩
/-- kinfolk/kinfolkref06.Same -/
def ir8 : IRF := ⟨[0, 1], (.seq (.region [⟨(some 4), (.mv (.c (.p (.s (.bool false))))), none⟩] none [0, 1])
  (.seq (.seq (.region [⟨(some 6), (.mv (.t 0)), none⟩,
    ⟨(some 7), (.len false (.t 6)), none⟩,
    ⟨(some 8), (.mv (.t 1)), none⟩,
    ⟨(some 9), (.len false (.t 8)), none⟩,
    ⟨(some 10), (.bin .neq (.t 7) (.t 9)), none⟩] none [0, 1, 10])
  (.cond (.t 10) (.seq (.region [⟨(some 4), (.mv (.c (.p (.s (.bool false))))), none⟩] none [4])
  .ret) .skip))
  (.seq (.seq (.region [⟨(some 11), (.mv (.t 0)), none⟩,
    ⟨(some 12), (.len false (.t 11)), none⟩,
    ⟨(some 13), (.mv (.c (.p (.s (.int .i64 0))))), none⟩] none [0, 1, 12, 13])
  (.block 0 (.loop (.seq (.region [⟨(some 14), (.bin .lss (.t 13) (.t 12)), none⟩] none [0, 1, 12, 13, 14])
  (.seq (.cond (.t 14) .skip (.exit 0))
  (.seq (.block 1 (.seq (.region [⟨(some 15), (.mv (.t 13)), none⟩,
    ⟨(some 5), (.mv (.t 15)), none⟩] none [0, 1, 5, 12, 13])
  (.seq (.region [⟨(some 16), (.mv (.t 0)), none⟩,
    ⟨(some 17), (.mv (.t 5)), none⟩,
    ⟨(some 18), (.idxASl 1 (.t 16) (.t 17)), none⟩,
    ⟨(some 19), (.load 1 false (.t 18)), none⟩,
    ⟨(some 20), (.mv (.t 1)), none⟩,
    ⟨(some 21), (.mv (.t 5)), none⟩,
    ⟨(some 22), (.idxASl 1 (.t 20) (.t 21)), none⟩,
    ⟨(some 23), (.load 1 false (.t 22)), none⟩,
    ⟨(some 24), (.bin .neq (.t 19) (.t 23)), none⟩] (some [0, 0, 3, 7, 0, 0, 48, 112, 255]) [0, 1, 12, 13, 24])
  (.cond (.t 24) (.seq (.region [⟨(some 4), (.mv (.c (.p (.s (.bool false))))), none⟩] none [4])
  .ret) .skip))))
  (.region [⟨(some 25), (.bin .add (.t 13) (.c (.p (.s (.int .i64 1))))), none⟩,
    ⟨(some 13), (.mv (.t 25)), none⟩] none [0, 1, 12, 13])))))))
  (.seq (.region [⟨(some 4), (.mv (.c (.p (.s (.bool true))))), none⟩] none [4])
  .ret)))), [(4, none)], false⟩
/-- kinfolk/kinfolkref06.Frame -/
def ir9 : IRF := ⟨[0], (.seq (.region [⟨(some 2), (.mv (.c (.p (.s (.slice none 0 0))))), none⟩] none [0])
  (.seq (.region [⟨(some 4), (.mv (.t 0)), none⟩,
    ⟨(some 5), (.len false (.t 4)), none⟩,
    ⟨(some 6), (.cvt .u32 (.t 5)), none⟩,
    ⟨(some 7), (.call 21 [(.t 6)]), none⟩,
    ⟨(some 3), (.mv (.t 7)), none⟩] none [0, 3])
  (.seq (.region [⟨(some 8), (.mv (.t 3)), none⟩,
    ⟨(some 9), (.mv (.t 3)), none⟩,
    ⟨(some 10), (.mv (.t 0)), none⟩,
    ⟨(some 11), (.mkSl 2 1 [(.s (.slice none 0 0)), (.s (.slice none 0 0))] [(0, 1, (.t 9)), (1, 1, (.t 10))]), none⟩,
    ⟨(some 12), (.call 22 [(.t 11)]), none⟩,
    ⟨(some 13), (.call 23 [(.t 12)]), none⟩,
    ⟨(some 14), (.call 21 [(.t 13)]), none⟩,
    ⟨(some 15), (.mv (.t 0)), none⟩,
    ⟨(some 16), (.mkSl 3 1 [(.s (.slice none 0 0)), (.s (.slice none 0 0)), (.s (.slice none 0 0))] [(0, 1, (.t 8)), (1, 1, (.t 14)), (2, 1, (.t 15))]), none⟩,
    ⟨(some 17), (.call 22 [(.t 16)]), none⟩,
    ⟨(some 2), (.mv (.t 17)), none⟩] none [2])
  .ret))), [(2, none)], false⟩
/-- kinfolk/note.has -/
def ir10 : IRF := ⟨[0], (.seq (.region [⟨(some 2), (.mv (.c (.p (.s (.int .i64 0))))), none⟩] none [0])
  (.seq (.seq (.region [⟨(some 3), (.mv (.t 0)), none⟩] none [3])
  (.block 0 (.seq (.seq (.region [⟨(some 5), (.bin .eql (.t 3) (.c (.p (.s (.int .i64 1))))), none⟩,
    ⟨(some 4), (.mv (.t 5)), none⟩] none [3, 4])
  (.cond (.t 4) .skip (.region [⟨(some 6), (.bin .eql (.t 3) (.c (.p (.s (.int .i64 2))))), none⟩,
    ⟨(some 4), (.mv (.t 6)), none⟩] none [3, 4])))
  (.cond (.t 4) (.seq (.region [⟨(some 2), (.mv (.c (.p (.s (.int .i64 9))))), none⟩] none [2])
  .ret) (.seq (.region [⟨(some 8), (.bin .eql (.t 3) (.c (.p (.s (.int .i64 3))))), none⟩,
    ⟨(some 7), (.mv (.t 8)), none⟩] none [3, 7])
  (.cond (.t 7) (.seq (.region [⟨(some 2), (.mv (.c (.p (.s (.int .i64 31))))), none⟩] none [2])
  .ret) (.seq (.region [⟨(some 10), (.bin .eql (.t 3) (.c (.p (.s (.int .i64 4))))), none⟩,
    ⟨(some 9), (.mv (.t 10)), none⟩] none [3, 9])
  (.cond (.t 9) (.seq (.region [⟨(some 2), (.mv (.c (.p (.s (.int .i64 3))))), none⟩] none [2])
  .ret) (.seq (.region [⟨(some 12), (.bin .eql (.t 3) (.c (.p (.s (.int .i64 5))))), none⟩,
    ⟨(some 11), (.mv (.t 12)), none⟩] none [3, 11])
  (.cond (.t 11) (.seq (.region [⟨(some 2), (.mv (.c (.p (.s (.int .i64 0))))), none⟩] none [2])
  .ret) (.seq (.region [⟨(some 14), (.bin .eql (.t 3) (.c (.p (.s (.int .i64 6))))), none⟩,
    ⟨(some 13), (.mv (.t 14)), none⟩] none [3, 13])
  (.cond (.t 13) (.seq (.region [⟨(some 2), (.mv (.c (.p (.s (.int .i64 44))))), none⟩] none [2])
  .ret) (.seq (.region [⟨(some 16), (.bin .eql (.t 3) (.c (.p (.s (.int .i64 7))))), none⟩,
    ⟨(some 15), (.mv (.t 16)), none⟩] none [15])
  (.cond (.t 15) (.seq (.region [⟨(some 2), (.mv (.c (.p (.s (.int .i64 64))))), none⟩] none [2])
  .ret) .skip))))))))))))))
  (.seq (.region [⟨(some 2), (.mv (.c (.p (.s (.int .i64 (-1)))))), none⟩] none [2])
  .ret))), [(2, none)], false⟩
/-- kinfolk/note.node -/
def ir11 : IRF := ⟨[0], (.seq (.region [⟨(some 2), (.mv (.c (.p (.s (.bool false))))), none⟩] none [0])
  (.seq (.region [⟨(some 3), (.mv (.t 0)), none⟩,
    ⟨(some 4), (.bin .geq (.t 3) (.c (.p (.s (.int .i64 0))))), none⟩,
    ⟨(some 5), (.mv (.t 4)), none⟩,
    ⟨(some 6), (.mv (.t 0)), (some (5, true))⟩,
    ⟨(some 7), (.bin .lss (.t 6) (.c (.p (.s (.int .i64 12))))), (some (5, true))⟩,
    ⟨(some 8), (.pick (.t 5) (.t 7) (.c (.p (.s (.bool false))))), none⟩,
    ⟨(some 2), (.mv (.t 8)), none⟩] none [2])
  .ret)), [(2, none)], false⟩
/-- (kinfolk/note.Note).zero -/
def ir12 : IRF := ⟨[0], (.seq (.region [⟨(some 1), (.box false (.t 0)), none⟩,
    ⟨(some 2), (.mv (.c (.p (.s (.bool false))))), none⟩] none [1])
  (.seq (.region [⟨(some 7), (.fieldAddr 0 (.t 1)), none⟩,
    ⟨(some 8), (.load 1 false (.t 7)), none⟩,
    ⟨(some 9), (.call 10 [(.t 8)]), none⟩,
    ⟨(some 3), (.alloc false [(.s (.int .i64 0))]), none⟩,
    ⟨none, (.store 1 (.t 3) (.t 9)), none⟩] none [1, 3])
  (.seq (.region [⟨(some 10), (.mkFn 24 [] [(.t 3)]), none⟩,
    ⟨(some 4), (.mv (.t 10)), none⟩] none [1, 4])
  (.seq (.region [⟨(some 11), (.fieldAddr 6 (.t 1)), none⟩,
    ⟨(some 12), (.load 2 true (.t 11)), none⟩,
    ⟨(some 13), (.build [(.s (.int .u64 0)), (.s (.pointer none))] []), none⟩,
    ⟨(some 14), (.call 25 [(.t 12), (.t 13)]), none⟩,
    ⟨(some 5), (.mv (.t 14)), none⟩] none [1, 4, 5])
  (.seq (.region [⟨(some 15), (.fieldAddr 9 (.t 1)), none⟩,
    ⟨(some 16), (.fieldAddr 0 (.t 15)), none⟩,
    ⟨(some 17), (.load 1 false (.t 16)), none⟩,
    ⟨(some 18), (.bin .eql (.t 17) (.c (.p (.s (.int .u64 0))))), none⟩,
    ⟨(some 19), (.mv (.t 18)), none⟩,
    ⟨(some 20), (.fieldAddr 9 (.t 1)), (some (19, true))⟩,
    ⟨(some 21), (.fieldAddr 1 (.t 20)), (some (19, true))⟩,
    ⟨(some 22), (.load 1 false (.t 21)), (some (19, true))⟩,
    ⟨(some 23), (.bin .eql (.t 22) (.c (.p (.s (.int .i64 0))))), (some (19, true))⟩,
    ⟨(some 24), (.pick (.t 19) (.t 23) (.c (.p (.s (.bool false))))), none⟩,
    ⟨(some 25), (.mv (.t 24)), none⟩,
    ⟨(some 26), (.fieldAddr 9 (.t 1)), (some (25, true))⟩,
    ⟨(some 27), (.fieldAddr 2 (.t 26)), (some (25, true))⟩,
    ⟨(some 28), (.load 1 false (.t 27)), (some (25, true))⟩,
    ⟨(some 29), (.bin .eql (.t 28) (.c (.p (.s (.int .i64 0))))), (some (25, true))⟩,
    ⟨(some 30), (.pick (.t 25) (.t 29) (.c (.p (.s (.bool false))))), none⟩,
    ⟨(some 31), (.mv (.t 30)), none⟩,
    ⟨(some 32), (.fieldAddr 9 (.t 1)), (some (31, true))⟩,
    ⟨(some 33), (.fieldAddr 3 (.t 32)), (some (31, true))⟩,
    ⟨(some 34), (.load 2 true (.t 33)), (some (31, true))⟩,
    ⟨(some 35), (.call 26 [(.t 34)]), (some (31, true))⟩,
    ⟨(some 36), (.pick (.t 31) (.t 35) (.c (.p (.s (.bool false))))), none⟩,
    ⟨(some 6), (.mv (.t 36)), none⟩] none [1, 4, 5, 6])
  (.seq (.region [⟨(some 37), (.mv (.t 4)), none⟩,
    ⟨(some 38), (.fieldAddr 3 (.t 1)), none⟩,
    ⟨(some 39), (.load 1 false (.t 38)), none⟩,
    ⟨(some 40), (.bin .eql (.t 39) (.c (.p (.s (.int .u64 0))))), none⟩,
    ⟨(some 41), (.callv (.t 37) [(.c (.p (.s (.int .i64 1)))), (.t 40)]), none⟩,
    ⟨(some 42), (.mv (.t 41)), none⟩,
    ⟨(some 43), (.mv (.t 4)), (some (42, true))⟩,
    ⟨(some 44), (.fieldAddr 4 (.t 1)), (some (42, true))⟩,
    ⟨(some 45), (.load 1 false (.t 44)), (some (42, true))⟩,
    ⟨(some 46), (.bin .eql (.t 45) (.c (.p (.s (.int .i64 0))))), (some (42, true))⟩,
    ⟨(some 47), (.callv (.t 43) [(.c (.p (.s (.int .i64 2)))), (.t 46)]), (some (42, true))⟩,
    ⟨(some 48), (.pick (.t 42) (.t 47) (.c (.p (.s (.bool false))))), none⟩,
    ⟨(some 49), (.mv (.t 48)), none⟩,
    ⟨(some 50), (.mv (.t 4)), (some (49, true))⟩,
    ⟨(some 51), (.fieldAddr 5 (.t 1)), (some (49, true))⟩,
    ⟨(some 52), (.load 1 false (.t 51)), (some (49, true))⟩,
    ⟨(some 53), (.un .not (.t 52)), (some (49, true))⟩,
    ⟨(some 54), (.callv (.t 50) [(.c (.p (.s (.int .i64 16)))), (.t 53)]), (some (49, true))⟩,
    ⟨(some 55), (.pick (.t 49) (.t 54) (.c (.p (.s (.bool false))))), none⟩,
    ⟨(some 56), (.mv (.t 55)), none⟩,
    ⟨(some 57), (.mv (.t 4)), (some (56, true))⟩,
    ⟨(some 58), (.mv (.t 5)), (some (56, true))⟩,
    ⟨(some 59), (.callv (.t 57) [(.c (.p (.s (.int .i64 8)))), (.t 58)]), (some (56, true))⟩,
    ⟨(some 60), (.pick (.t 56) (.t 59) (.c (.p (.s (.bool false))))), none⟩,
    ⟨(some 61), (.mv (.t 60)), none⟩,
    ⟨(some 62), (.mv (.t 4)), (some (61, true))⟩,
    ⟨(some 63), (.fieldAddr 8 (.t 1)), (some (61, true))⟩,
    ⟨(some 64), (.load 1 false (.t 63)), (some (61, true))⟩,
    ⟨(some 65), (.len false (.t 64)), (some (61, true))⟩,
    ⟨(some 66), (.bin .eql (.t 65) (.c (.p (.s (.int .i64 0))))), (some (61, true))⟩,
    ⟨(some 67), (.callv (.t 62) [(.c (.p (.s (.int .i64 4)))), (.t 66)]), (some (61, true))⟩,
    ⟨(some 68), (.pick (.t 61) (.t 67) (.c (.p (.s (.bool false))))), none⟩,
    ⟨(some 69), (.mv (.t 68)), none⟩,
    ⟨(some 70), (.mv (.t 4)), (some (69, true))⟩,
    ⟨(some 71), (.mv (.t 6)), (some (69, true))⟩,
    ⟨(some 72), (.callv (.t 70) [(.c (.p (.s (.int .i64 32)))), (.t 71)]), (some (69, true))⟩,
    ⟨(some 73), (.pick (.t 69) (.t 72) (.c (.p (.s (.bool false))))), none⟩,
    ⟨(some 74), (.mv (.t 73)), none⟩,
    ⟨(some 75), (.mv (.t 4)), (some (74, true))⟩,
    ⟨(some 76), (.fieldAddr 14 (.t 1)), (some (74, true))⟩,
    ⟨(some 77), (.load 1 false (.t 76)), (some (74, true))⟩,
    ⟨(some 78), (.bin .eql (.t 77) (.c (.p (.s (.int .u64 0))))), (some (74, true))⟩,
    ⟨(some 79), (.callv (.t 75) [(.c (.p (.s (.int .i64 64)))), (.t 78)]), (some (74, true))⟩,
    ⟨(some 80), (.pick (.t 74) (.t 79) (.c (.p (.s (.bool false))))), none⟩,
    ⟨(some 2), (.mv (.t 80)), none⟩] none [2])
  .ret)))))), [(2, none)], false⟩
/-- (kinfolk/note.Note).told -/
def ir13 : IRF := ⟨[0], (.seq (.region [⟨(some 1), (.box false (.t 0)), none⟩,
    ⟨(some 2), (.mv (.c (.p (.s (.bool false))))), none⟩] none [1])
  (.seq (.region [⟨(some 3), (.fieldAddr 8 (.t 1)), none⟩,
    ⟨(some 4), (.load 1 false (.t 3)), none⟩,
    ⟨(some 5), (.mkFn 28 [] [(.t 1)]), none⟩,
    ⟨(some 6), (.call 27 [(.t 4), (.t 5)]), none⟩,
    ⟨(some 7), (.un .not (.t 6)), none⟩,
    ⟨(some 2), (.mv (.t 7)), none⟩] none [2])
  .ret)), [(2, none)], false⟩
/-- (kinfolk/deed.Gift).Right -/
def ir14 : IRF := ⟨[0], (.seq (.region [⟨(some 1), (.box false (.t 0)), none⟩,
    ⟨(some 2), (.mv (.c (.p (.s (.bool false))))), none⟩] none [1])
  (.seq (.region [⟨(some 3), (.fieldAddr 0 (.t 1)), none⟩,
    ⟨(some 4), (.load 1 false (.t 3)), none⟩,
    ⟨(some 5), (.bin .geq (.t 4) (.c (.p (.s (.int .u64 1))))), none⟩,
    ⟨(some 6), (.mv (.t 5)), none⟩,
    ⟨(some 7), (.fieldAddr 0 (.t 1)), (some (6, true))⟩,
    ⟨(some 8), (.load 1 false (.t 7)), (some (6, true))⟩,
    ⟨(some 9), (.bin .lss (.t 8) (.c (.p (.s (.int .u64 4611686018427387904))))), (some (6, true))⟩,
    ⟨(some 10), (.pick (.t 6) (.t 9) (.c (.p (.s (.bool false))))), none⟩,
    ⟨(some 11), (.mv (.t 10)), none⟩,
    ⟨(some 12), (.fieldAddr 1 (.t 1)), (some (11, true))⟩,
    ⟨(some 13), (.load 1 false (.t 12)), (some (11, true))⟩,
    ⟨(some 14), (.call 31 [(.t 13)]), (some (11, true))⟩,
    ⟨(some 15), (.pick (.t 11) (.t 14) (.c (.p (.s (.bool false))))), none⟩,
    ⟨(some 16), (.mv (.t 15)), none⟩,
    ⟨(some 17), (.fieldAddr 2 (.t 1)), (some (16, true))⟩,
    ⟨(some 18), (.load 1 false (.t 17)), (some (16, true))⟩,
    ⟨(some 19), (.call 31 [(.t 18)]), (some (16, true))⟩,
    ⟨(some 20), (.pick (.t 16) (.t 19) (.c (.p (.s (.bool false))))), none⟩,
    ⟨(some 21), (.mv (.t 20)), none⟩,
    ⟨(some 22), (.fieldAddr 1 (.t 1)), (some (21, true))⟩,
    ⟨(some 23), (.load 1 false (.t 22)), (some (21, true))⟩,
    ⟨(some 24), (.fieldAddr 2 (.t 1)), (some (21, true))⟩,
    ⟨(some 25), (.load 1 false (.t 24)), (some (21, true))⟩,
    ⟨(some 26), (.bin .neq (.t 23) (.t 25)), (some (21, true))⟩,
    ⟨(some 27), (.pick (.t 21) (.t 26) (.c (.p (.s (.bool false))))), none⟩,
    ⟨(some 28), (.mv (.t 27)), none⟩,
    ⟨(some 29), (.fieldAddr 3 (.t 1)), (some (28, true))⟩,
    ⟨(some 30), (.load 2 true (.t 29)), (some (28, true))⟩,
    ⟨(some 31), (.call 26 [(.t 30)]), (some (28, true))⟩,
    ⟨(some 32), (.un .not (.t 31)), (some (28, true))⟩,
    ⟨(some 33), (.pick (.t 28) (.t 32) (.c (.p (.s (.bool false))))), none⟩,
    ⟨(some 2), (.mv (.t 33)), none⟩] none [2])
  .ret)), [(2, none)], false⟩
/-- kinfolk/wire.Num -/
def ir15 : IRF := ⟨[0, 1], (.seq (.region [⟨(some 4), (.mv (.c (.p (.s (.slice none 0 0))))), none⟩] none [0, 1])
  (.seq (.region [⟨(some 5), (.mv (.t 0)), none⟩,
    ⟨(some 6), (.mv (.t 0)), none⟩,
    ⟨(some 7), (.len false (.t 6)), none⟩,
    ⟨(some 8), (.mv (.t 0)), none⟩,
    ⟨(some 9), (.len false (.t 8)), none⟩,
    ⟨(some 10), (.slSl 1 (.t 5) none (some (.t 7)) (some (.t 9))), none⟩,
    ⟨(some 0), (.mv (.t 10)), none⟩] none [0, 1])
  (.seq (.block 0 (.loop (.seq (.seq (.region [⟨(some 11), (.mv (.t 1)), none⟩,
    ⟨(some 12), (.bin .geq (.t 11) (.c (.p (.s (.int .u64 128))))), none⟩] none [0, 1, 12])
  (.cond (.t 12) .skip (.exit 0)))
  (.seq (.block 1 (.region [⟨(some 15), (.mv (.t 0)), none⟩,
    ⟨(some 16), (.mv (.t 1)), none⟩,
    ⟨(some 17), (.cvt .u8 (.t 16)), none⟩,
    ⟨(some 18), (.bin .or (.t 17) (.c (.p (.s (.int .u8 128))))), none⟩,
    ⟨(some 19), (.mkSl 1 1 [(.s (.int .u8 0))] [(0, 1, (.t 18))]), none⟩,
    ⟨(some 20), (.app 1 1 (.t 15) (.t 19)), none⟩,
    ⟨(some 0), (.mv (.t 20)), none⟩] none [0, 1]))
  (.region [⟨(some 13), (.mv (.t 1)), none⟩,
    ⟨(some 14), (.bin .shr (.t 13) (.c (.p (.s (.int .u64 7))))), none⟩,
    ⟨(some 1), (.mv (.t 14)), none⟩] none [0, 1])))))
  (.seq (.region [⟨(some 21), (.mv (.t 0)), none⟩,
    ⟨(some 22), (.mv (.t 1)), none⟩,
    ⟨(some 23), (.cvt .u8 (.t 22)), none⟩,
    ⟨(some 24), (.mkSl 1 1 [(.s (.int .u8 0))] [(0, 1, (.t 23))]), none⟩,
    ⟨(some 25), (.app 1 1 (.t 21) (.t 24)), none⟩,
    ⟨(some 4), (.mv (.t 25)), none⟩] none [4])
  .ret)))), [(4, none)], true⟩
/-- kinfolk/deed.PutGift -/
def ir16 : IRF := ⟨[0, 1], (.seq (.region [⟨(some 3), (.box false (.t 1)), none⟩,
    ⟨(some 4), (.mv (.c (.p (.s (.slice none 0 0))))), none⟩] none [0, 3])
  (.seq (.region [⟨(some 5), (.mv (.t 0)), none⟩,
    ⟨(some 6), (.fieldAddr 0 (.t 3)), none⟩,
    ⟨(some 7), (.load 1 false (.t 6)), none⟩,
    ⟨(some 8), (.call 15 [(.t 5), (.t 7)]), none⟩,
    ⟨(some 9), (.fieldAddr 1 (.t 3)), none⟩,
    ⟨(some 10), (.load 1 false (.t 9)), none⟩,
    ⟨(some 11), (.cvt .u64 (.t 10)), none⟩,
    ⟨(some 12), (.call 15 [(.t 8), (.t 11)]), none⟩,
    ⟨(some 13), (.fieldAddr 2 (.t 3)), none⟩,
    ⟨(some 14), (.load 1 false (.t 13)), none⟩,
    ⟨(some 15), (.cvt .u64 (.t 14)), none⟩,
    ⟨(some 16), (.call 15 [(.t 12), (.t 15)]), none⟩,
    ⟨(some 0), (.mv (.t 16)), none⟩] (some [0, 0, 2, 7, 0, 16, 48, 127, 0, 256, 768, 2047, 4095]) [0, 3])
  (.seq (.region [⟨(some 17), (.mv (.t 0)), none⟩,
    ⟨(some 18), (.fieldAddr 3 (.t 3)), none⟩,
    ⟨(some 19), (.load 2 true (.t 18)), none⟩,
    ⟨(some 20), (.call 32 [(.t 19)]), none⟩,
    ⟨(some 21), (.b2s (.t 20)), none⟩,
    ⟨(some 22), (.call 17 [(.t 17), (.t 21)]), none⟩,
    ⟨(some 4), (.mv (.t 22)), none⟩] none [4])
  .ret))), [(4, none)], false⟩
/-- kinfolk/wire.Text -/
def ir17 : IRF := ⟨[0, 1], (.seq (.region [⟨(some 4), (.mv (.c (.p (.s (.slice none 0 0))))), none⟩] none [0, 1])
  (.seq (.region [⟨(some 5), (.mv (.t 0)), none⟩,
    ⟨(some 6), (.mv (.t 1)), none⟩,
    ⟨(some 7), (.len true (.t 6)), none⟩,
    ⟨(some 8), (.cvt .u64 (.t 7)), none⟩,
    ⟨(some 9), (.call 15 [(.t 5), (.t 8)]), none⟩,
    ⟨(some 10), (.mv (.t 1)), none⟩,
    ⟨(some 11), (.app 1 1 (.t 9) (.t 10)), none⟩,
    ⟨(some 4), (.mv (.t 11)), none⟩] none [4])
  .ret)), [(4, none)], true⟩
/-- kinfolk/code.Event -/
def ir18 : IRF := ⟨[0], (.seq (.region [⟨(some 1), (.box false (.t 0)), none⟩,
    ⟨(some 2), (.mv (.c (.p (.s (.slice none 0 0))))), none⟩] none [1])
  (.seq (.region [⟨(some 4), (.call 33 []), none⟩,
    ⟨(some 3), (.mv (.t 4)), none⟩] none [1, 3])
  (.seq (.region [⟨(some 5), (.mv (.t 3)), none⟩,
    ⟨(some 6), (.load 2 true (.t 1)), none⟩,
    ⟨(some 7), (.call 34 [(.t 5), (.t 6)]), none⟩] none [3])
  (.seq (.region [⟨(some 8), (.mv (.t 3)), none⟩,
    ⟨(some 9), (.call 35 [(.t 8)]), none⟩,
    ⟨(some 2), (.mv (.t 9)), none⟩] none [2])
  .ret)))), [(2, none)], false⟩
/-- kinfolk/book.PutEntries -/
def ir19 : IRF := ⟨[0, 1], (.seq (.region [⟨(some 4), (.mv (.c (.p (.s (.slice none 0 0))))), none⟩] none [0, 1])
  (.seq (.region [⟨(some 7), (.mv (.t 0)), none⟩,
    ⟨(some 8), (.mv (.t 1)), none⟩,
    ⟨(some 9), (.len false (.t 8)), none⟩,
    ⟨(some 10), (.cvt .u64 (.t 9)), none⟩,
    ⟨(some 11), (.call 15 [(.t 7), (.t 10)]), none⟩,
    ⟨(some 0), (.mv (.t 11)), none⟩] none [0, 1])
  (.seq (.seq (.region [⟨(some 12), (.mv (.t 1)), none⟩,
    ⟨(some 13), (.len false (.t 12)), none⟩,
    ⟨(some 14), (.mv (.c (.p (.s (.int .i64 0))))), none⟩] none [0, 12, 13, 14])
  (.block 0 (.loop (.seq (.region [⟨(some 15), (.bin .lss (.t 14) (.t 13)), none⟩] none [0, 12, 13, 14, 15])
  (.seq (.cond (.t 15) .skip (.exit 0))
  (.seq (.block 1 (.seq (.region [⟨(some 16), (.idxASl 5 (.t 12) (.t 14)), none⟩,
    ⟨(some 17), (.load 5 true (.t 16)), none⟩,
    ⟨(some 6), (.alloc false [(.s (.int .u32 0)), (.s (.int .u64 0)), (.s (.pointer none)), (.s (.slice none 0 0)), (.s (.bool false))]), none⟩,
    ⟨none, (.store 5 (.t 6) (.t 17)), none⟩] none [0, 6, 12, 13, 14])
  (.region [⟨(some 18), (.mv (.t 0)), none⟩,
    ⟨(some 19), (.fieldAddr 0 (.t 6)), none⟩,
    ⟨(some 20), (.load 1 false (.t 19)), none⟩,
    ⟨(some 21), (.cvt .u64 (.t 20)), none⟩,
    ⟨(some 22), (.call 15 [(.t 18), (.t 21)]), none⟩,
    ⟨(some 23), (.fieldAddr 1 (.t 6)), none⟩,
    ⟨(some 24), (.load 4 true (.t 23)), none⟩,
    ⟨(some 25), (.call 36 [(.t 24)]), none⟩,
    ⟨(some 26), (.b2s (.t 25)), none⟩,
    ⟨(some 27), (.call 17 [(.t 22), (.t 26)]), none⟩,
    ⟨(some 0), (.mv (.t 27)), none⟩] (some [0, 0, 2, 6, 15, 0, 32, 127, 255, 511, 1023]) [0, 12, 13, 14])))
  (.region [⟨(some 28), (.bin .add (.t 14) (.c (.p (.s (.int .i64 1))))), none⟩,
    ⟨(some 14), (.mv (.t 28)), none⟩] none [0, 12, 13, 14])))))))
  (.seq (.region [⟨(some 29), (.mv (.t 0)), none⟩,
    ⟨(some 4), (.mv (.t 29)), none⟩] none [4])
  .ret)))), [(4, none)], false⟩
/-- kinfolk/wire.Frame -/
def ir20 : IRF := ⟨[0], (.seq (.region [⟨(some 2), (.mv (.c (.p (.s (.slice none 0 0))))), none⟩] none [0])
  (.seq (.region [⟨(some 5), (.mv (.t 0)), none⟩,
    ⟨(some 6), (.len false (.t 5)), none⟩,
    ⟨(some 7), (.cvt .u32 (.t 6)), none⟩,
    ⟨(some 8), (.call 37 [(.c (.p (.s (.slice none 0 0)))), (.t 7)]), none⟩,
    ⟨(some 3), (.mv (.t 8)), none⟩] none [0, 3])
  (.seq (.region [⟨(some 9), (.mv (.t 3)), none⟩,
    ⟨(some 10), (.slSl 1 (.t 9) none (some (.c (.p (.s (.int .i64 4))))) (some (.c (.p (.s (.int .i64 4)))))), none⟩,
    ⟨(some 11), (.mv (.t 3)), none⟩,
    ⟨(some 12), (.slSl 1 (.t 11) none (some (.c (.p (.s (.int .i64 4))))) (some (.c (.p (.s (.int .i64 4)))))), none⟩,
    ⟨(some 13), (.mv (.t 0)), none⟩,
    ⟨(some 14), (.app 1 1 (.t 12) (.t 13)), none⟩,
    ⟨(some 15), (.call 38 [(.t 14)]), none⟩,
    ⟨(some 16), (.call 37 [(.t 10), (.t 15)]), none⟩,
    ⟨(some 4), (.mv (.t 16)), none⟩] (some [0, 1, 0, 4, 0, 28, 60, 127, 255]) [0, 4])
  (.seq (.region [⟨(some 17), (.mv (.t 4)), none⟩,
    ⟨(some 18), (.mv (.t 0)), none⟩,
    ⟨(some 19), (.app 1 1 (.t 17) (.t 18)), none⟩,
    ⟨(some 2), (.mv (.t 19)), none⟩] none [2])
  .ret)))), [(2, none)], true⟩
/-- kinfolk/kinfolkref06.Four -/
def ir21 : IRF := ⟨[0], (.seq (.region [⟨(some 2), (.mv (.c (.p (.s (.slice none 0 0))))), none⟩] none [0])
  (.seq (.region [⟨(some 3), (.mv (.t 0)), none⟩,
    ⟨(some 4), (.cvt .u8 (.t 3)), none⟩,
    ⟨(some 5), (.mv (.t 0)), none⟩,
    ⟨(some 6), (.bin .quo (.t 5) (.c (.p (.s (.int .u32 256))))), none⟩,
    ⟨(some 7), (.cvt .u8 (.t 6)), none⟩,
    ⟨(some 8), (.mv (.t 0)), none⟩,
    ⟨(some 9), (.bin .quo (.t 8) (.c (.p (.s (.int .u32 65536))))), none⟩,
    ⟨(some 10), (.cvt .u8 (.t 9)), none⟩,
    ⟨(some 11), (.mv (.t 0)), none⟩,
    ⟨(some 12), (.bin .quo (.t 11) (.c (.p (.s (.int .u32 16777216))))), none⟩,
    ⟨(some 13), (.cvt .u8 (.t 12)), none⟩,
    ⟨(some 14), (.mkSl 4 1 [(.s (.int .u8 0)), (.s (.int .u8 0)), (.s (.int .u8 0)), (.s (.int .u8 0))] [(0, 1, (.t 4)), (1, 1, (.t 7)), (2, 1, (.t 10)), (3, 1, (.t 13))]), none⟩,
    ⟨(some 2), (.mv (.t 14)), none⟩] none [2])
  .ret)), [(2, none)], false⟩
/-- kinfolk/kinfolkref06.Join -/
def ir22 : IRF := ⟨[0], (.seq (.region [⟨(some 2), (.mv (.c (.p (.s (.slice none 0 0))))), none⟩] none [0])
  (.seq (.region [⟨(some 3), (.mv (.c (.p (.s (.slice none 0 0))))), none⟩] none [0, 3])
  (.seq (.seq (.region [⟨(some 6), (.mv (.t 0)), none⟩,
    ⟨(some 7), (.len false (.t 6)), none⟩,
    ⟨(some 8), (.mv (.c (.p (.s (.int .i64 0))))), none⟩] none [3, 6, 7, 8])
  (.block 0 (.loop (.seq (.region [⟨(some 9), (.bin .lss (.t 8) (.t 7)), none⟩] none [3, 6, 7, 8, 9])
  (.seq (.cond (.t 9) .skip (.exit 0))
  (.seq (.block 1 (.seq (.region [⟨(some 10), (.idxASl 1 (.t 6) (.t 8)), none⟩,
    ⟨(some 11), (.load 1 false (.t 10)), none⟩,
    ⟨(some 5), (.mv (.t 11)), none⟩] none [3, 5, 6, 7, 8])
  (.region [⟨(some 12), (.mv (.t 3)), none⟩,
    ⟨(some 13), (.mv (.t 5)), none⟩,
    ⟨(some 14), (.app 1 1 (.t 12) (.t 13)), none⟩,
    ⟨(some 3), (.mv (.t 14)), none⟩] none [3, 6, 7, 8])))
  (.region [⟨(some 15), (.bin .add (.t 8) (.c (.p (.s (.int .i64 1))))), none⟩,
    ⟨(some 8), (.mv (.t 15)), none⟩] none [3, 6, 7, 8])))))))
  (.seq (.region [⟨(some 16), (.mv (.t 3)), none⟩,
    ⟨(some 2), (.mv (.t 16)), none⟩] none [2])
  .ret)))), [(2, none)], false⟩
/-- kinfolk/kinfolkref06.Sum -/
def ir23 : IRF := ⟨[0], (.seq (.region [⟨(some 2), (.mv (.c (.p (.s (.int .u32 0))))), none⟩] none [0])
  (.seq (.region [⟨(some 3), (.mv (.c (.p (.s (.int .u32 4294967295))))), none⟩] none [0, 3])
  (.seq (.seq (.region [⟨(some 8), (.mv (.t 0)), none⟩,
    ⟨(some 9), (.len false (.t 8)), none⟩,
    ⟨(some 10), (.mv (.c (.p (.s (.int .i64 0))))), none⟩] none [3, 8, 9, 10])
  (.block 0 (.loop (.seq (.region [⟨(some 11), (.bin .lss (.t 10) (.t 9)), none⟩] none [3, 8, 9, 10, 11])
  (.seq (.cond (.t 11) .skip (.exit 0))
  (.seq (.block 1 (.seq (.region [⟨(some 12), (.idxASl 1 (.t 8) (.t 10)), none⟩,
    ⟨(some 13), (.load 1 false (.t 12)), none⟩,
    ⟨(some 5), (.mv (.t 13)), none⟩] none [3, 5, 8, 9, 10])
  (.seq (.region [⟨(some 6), (.mv (.c (.p (.s (.int .i64 0))))), none⟩] none [3, 5, 6, 8, 9, 10])
  (.block 2 (.loop (.seq (.seq (.region [⟨(some 14), (.mv (.t 6)), none⟩,
    ⟨(some 15), (.bin .lss (.t 14) (.c (.p (.s (.int .i64 8))))), none⟩] none [3, 5, 6, 8, 9, 10, 15])
  (.cond (.t 15) .skip (.exit 2)))
  (.seq (.block 3 (.seq (.region [⟨(some 18), (.mv (.t 3)), none⟩,
    ⟨(some 19), (.bin .rem (.t 18) (.c (.p (.s (.int .u32 2))))), none⟩,
    ⟨(some 20), (.mv (.t 5)), none⟩,
    ⟨(some 21), (.bin .rem (.t 20) (.c (.p (.s (.int .u8 2))))), none⟩,
    ⟨(some 22), (.cvt .u32 (.t 21)), none⟩,
    ⟨(some 23), (.bin .neq (.t 19) (.t 22)), none⟩,
    ⟨(some 7), (.mv (.t 23)), none⟩] none [3, 5, 6, 7, 8, 9, 10])
  (.seq (.region [⟨(some 24), (.mv (.t 3)), none⟩,
    ⟨(some 25), (.bin .quo (.t 24) (.c (.p (.s (.int .u32 2))))), none⟩,
    ⟨(some 3), (.mv (.t 25)), none⟩] none [3, 5, 6, 7, 8, 9, 10])
  (.seq (.region [⟨(some 26), (.mv (.t 5)), none⟩,
    ⟨(some 27), (.bin .quo (.t 26) (.c (.p (.s (.int .u8 2))))), none⟩,
    ⟨(some 5), (.mv (.t 27)), none⟩] none [3, 5, 6, 7, 8, 9, 10])
  (.seq (.region [⟨(some 28), (.mv (.t 7)), none⟩] none [3, 5, 6, 8, 9, 10, 28])
  (.cond (.t 28) (.region [⟨(some 29), (.mv (.t 3)), none⟩,
    ⟨(some 30), (.bin .xor (.t 29) (.c (.p (.s (.int .u32 3988292384))))), none⟩,
    ⟨(some 3), (.mv (.t 30)), none⟩] none [3, 5, 6, 8, 9, 10]) .skip))))))
  (.region [⟨(some 16), (.mv (.t 6)), none⟩,
    ⟨(some 17), (.bin .add (.t 16) (.c (.p (.s (.int .i64 1))))), none⟩,
    ⟨(some 6), (.mv (.t 17)), none⟩] none [3, 5, 6, 8, 9, 10]))))))))
  (.region [⟨(some 31), (.bin .add (.t 10) (.c (.p (.s (.int .i64 1))))), none⟩,
    ⟨(some 10), (.mv (.t 31)), none⟩] none [3, 8, 9, 10])))))))
  (.seq (.region [⟨(some 32), (.mv (.t 3)), none⟩,
    ⟨(some 33), (.bin .sub (.c (.p (.s (.int .u32 4294967295)))) (.t 32)), none⟩,
    ⟨(some 2), (.mv (.t 33)), none⟩] none [2])
  .ret)))), [(2, none)], false⟩
/-- (kinfolk/note.Note).zero$1 -/
def ir24 : IRF := ⟨[0, 1, 2], (.seq (.region [⟨(some 5), (.mv (.c (.p (.s (.bool false))))), none⟩] none [0, 1, 2])
  (.seq (.region [⟨(some 6), (.load 1 false (.t 2)), none⟩,
    ⟨(some 7), (.mv (.t 0)), none⟩,
    ⟨(some 8), (.bin .and (.t 6) (.t 7)), none⟩,
    ⟨(some 9), (.bin .gtr (.t 8) (.c (.p (.s (.int .i64 0))))), none⟩,
    ⟨(some 10), (.mv (.t 9)), none⟩,
    ⟨(some 11), (.mv (.t 1)), (some (10, false))⟩,
    ⟨(some 12), (.pick (.t 10) (.c (.p (.s (.bool true)))) (.t 11)), none⟩,
    ⟨(some 5), (.mv (.t 12)), none⟩] none [5])
  .ret)), [(5, none)], false⟩
/-- kinfolk/event.Same -/
def ir25 : IRF := ⟨[0, 1], (.seq (.region [⟨(some 2), (.box false (.t 0)), none⟩,
    ⟨(some 3), (.box false (.t 1)), none⟩,
    ⟨(some 4), (.mv (.c (.p (.s (.bool false))))), none⟩] none [2, 3])
  (.seq (.region [⟨(some 5), (.load 2 true (.t 2)), none⟩,
    ⟨(some 6), (.load 2 true (.t 3)), none⟩,
    ⟨(some 7), (.call 30 [(.t 5), (.t 6)]), none⟩,
    ⟨(some 8), (.mv (.t 7)), none⟩,
    ⟨(some 9), (.load 2 true (.t 3)), (some (8, true))⟩,
    ⟨(some 10), (.load 2 true (.t 2)), (some (8, true))⟩,
    ⟨(some 11), (.call 30 [(.t 9), (.t 10)]), (some (8, true))⟩,
    ⟨(some 12), (.pick (.t 8) (.t 11) (.c (.p (.s (.bool false))))), none⟩,
    ⟨(some 4), (.mv (.t 12)), none⟩] none [4])
  .ret)), [(4, none)], false⟩
/-- (kinfolk/id.ID).IsZero -/
def ir26 : IRF := ⟨[0], (.seq (.region [⟨(some 1), (.box false (.t 0)), none⟩,
    ⟨(some 2), (.mv (.c (.p (.s (.bool false))))), none⟩] none [1])
  (.seq (.region [⟨(some 3), (.fieldAddr 0 (.t 1)), none⟩,
    ⟨(some 4), (.load 1 false (.t 3)), none⟩,
    ⟨(some 5), (.un .not (.t 4)), none⟩,
    ⟨(some 6), (.mv (.t 5)), none⟩,
    ⟨(some 7), (.fieldAddr 1 (.t 1)), (some (6, true))⟩,
    ⟨(some 8), (.load 1 false (.t 7)), (some (6, true))⟩,
    ⟨(some 9), (.eq false .ptr (.t 8) (.c (.p (.s (.pointer none))))), (some (6, true))⟩,
    ⟨(some 10), (.pick (.t 6) (.t 9) (.c (.p (.s (.bool false))))), none⟩,
    ⟨(some 2), (.mv (.t 10)), none⟩] none [2])
  .ret)), [(2, none)], false⟩
/-- slices.ContainsFunc[[]kinfolk/book.Entry,kinfolk/book.Entry] -/
def ir27 : IRF := ⟨[0, 1], (.seq (.region [⟨(some 4), (.mv (.c (.p (.s (.bool false))))), none⟩] none [0, 1])
  (.seq (.region [⟨(some 5), (.mv (.t 0)), none⟩,
    ⟨(some 6), (.mv (.t 1)), none⟩,
    ⟨(some 7), (.call 39 [(.t 5), (.t 6)]), none⟩,
    ⟨(some 8), (.bin .geq (.t 7) (.c (.p (.s (.int .i64 0))))), none⟩,
    ⟨(some 4), (.mv (.t 8)), none⟩] none [4])
  .ret)), [(4, none)], false⟩
/-- (kinfolk/note.Note).told$1 -/
def ir28 : IRF := ⟨[0, 1], (.seq (.region [⟨(some 2), (.box false (.t 0)), none⟩,
    ⟨(some 3), (.mv (.c (.p (.s (.bool false))))), none⟩] none [1, 2])
  (.seq (.region [⟨(some 4), (.fieldAddr 1 (.t 2)), none⟩,
    ⟨(some 5), (.load 4 true (.t 4)), none⟩,
    ⟨(some 6), (.call 29 [(.t 5)]), none⟩,
    ⟨(some 7), (.un .not (.t 6)), none⟩,
    ⟨(some 8), (.mv (.t 7)), none⟩,
    ⟨(some 9), (.fieldAddr 1 (.t 2)), (some (8, false))⟩,
    ⟨(some 10), (.fieldAddr 0 (.t 9)), (some (8, false))⟩,
    ⟨(some 11), (.load 2 true (.t 10)), (some (8, false))⟩,
    ⟨(some 12), (.fieldAddr 6 (.t 1)), (some (8, false))⟩,
    ⟨(some 13), (.load 2 true (.t 12)), (some (8, false))⟩,
    ⟨(some 14), (.call 30 [(.t 11), (.t 13)]), (some (8, false))⟩,
    ⟨(some 15), (.un .not (.t 14)), (some (8, false))⟩,
    ⟨(some 16), (.pick (.t 8) (.c (.p (.s (.bool true)))) (.t 15)), none⟩,
    ⟨(some 3), (.mv (.t 16)), none⟩] none [3])
  .ret)), [(3, none)], false⟩
/-- (kinfolk/sibs.Version).Right -/
def ir29 : IRF := ⟨[0], (.seq (.region [⟨(some 1), (.box false (.t 0)), none⟩,
    ⟨(some 2), (.mv (.c (.p (.s (.bool false))))), none⟩] none [1])
  (.seq (.region [⟨(some 3), (.fieldAddr 3 (.t 1)), none⟩,
    ⟨(some 4), (.load 1 false (.t 3)), none⟩,
    ⟨(some 5), (.un .not (.t 4)), none⟩,
    ⟨(some 6), (.mv (.t 5)), none⟩,
    ⟨(some 7), (.fieldAddr 2 (.t 1)), (some (6, false))⟩,
    ⟨(some 8), (.load 1 true (.t 7)), (some (6, false))⟩,
    ⟨(some 9), (.call 40 [(.t 8)]), (some (6, false))⟩,
    ⟨(some 10), (.bin .eql (.t 9) (.c (.p (.s (.int .i64 0))))), (some (6, false))⟩,
    ⟨(some 11), (.pick (.t 6) (.c (.p (.s (.bool true)))) (.t 10)), none⟩,
    ⟨(some 2), (.mv (.t 11)), none⟩] none [2])
  .ret)), [(2, none)], false⟩
/-- kinfolk/event.Leq -/
def ir30 : IRF := ⟨[0, 1], (.seq (.region [⟨(some 2), (.box false (.t 0)), none⟩,
    ⟨(some 3), (.box false (.t 1)), none⟩,
    ⟨(some 4), (.mv (.c (.p (.s (.bool false))))), none⟩] none [2, 3])
  (.seq (.seq (.region [⟨(some 5), (.fieldAddr 1 (.t 2)), none⟩,
    ⟨(some 6), (.load 1 false (.t 5)), none⟩,
    ⟨(some 7), (.eq false .ptr (.t 6) (.c (.p (.s (.pointer none))))), none⟩] none [2, 3, 7])
  (.cond (.t 7) (.seq (.region [⟨(some 8), (.fieldAddr 0 (.t 2)), none⟩,
    ⟨(some 9), (.load 1 false (.t 8)), none⟩,
    ⟨(some 10), (.fieldAddr 0 (.t 3)), none⟩,
    ⟨(some 11), (.load 1 false (.t 10)), none⟩,
    ⟨(some 12), (.bin .leq (.t 9) (.t 11)), none⟩,
    ⟨(some 4), (.mv (.t 12)), none⟩] none [4])
  .ret) .skip))
  (.seq (.seq (.region [⟨(some 13), (.fieldAddr 0 (.t 2)), none⟩,
    ⟨(some 14), (.load 1 false (.t 13)), none⟩,
    ⟨(some 15), (.fieldAddr 0 (.t 3)), none⟩,
    ⟨(some 16), (.load 1 false (.t 15)), none⟩,
    ⟨(some 17), (.bin .gtr (.t 14) (.t 16)), none⟩,
    ⟨(some 18), (.mv (.t 17)), none⟩,
    ⟨(some 19), (.fieldAddr 1 (.t 3)), (some (18, true))⟩,
    ⟨(some 20), (.load 1 false (.t 19)), (some (18, true))⟩,
    ⟨(some 21), (.eq false .ptr (.t 20) (.c (.p (.s (.pointer none))))), (some (18, true))⟩,
    ⟨(some 22), (.pick (.t 18) (.t 21) (.c (.p (.s (.bool false))))), none⟩] none [2, 3, 22])
  (.cond (.t 22) (.seq (.region [⟨(some 4), (.mv (.c (.p (.s (.bool false))))), none⟩] none [4])
  .ret) .skip))
  (.seq (.region [⟨(some 23), (.fieldAddr 1 (.t 2)), none⟩,
    ⟨(some 24), (.load 1 false (.t 23)), none⟩,
    ⟨(some 25), (.nilCk (.t 24)), none⟩,
    ⟨(some 26), (.fieldAddr 0 (.t 25)), none⟩,
    ⟨(some 27), (.load 2 true (.t 26)), none⟩,
    ⟨(some 28), (.fieldAddr 0 (.t 2)), none⟩,
    ⟨(some 29), (.load 1 false (.t 28)), none⟩,
    ⟨(some 30), (.call 41 [(.t 27), (.t 29)]), none⟩,
    ⟨(some 31), (.load 2 true (.t 3)), none⟩,
    ⟨(some 32), (.call 42 [(.t 31)]), none⟩,
    ⟨(some 33), (.fieldAddr 0 (.t 3)), none⟩,
    ⟨(some 34), (.load 1 false (.t 33)), none⟩,
    ⟨(some 35), (.call 41 [(.t 32), (.t 34)]), none⟩,
    ⟨(some 36), (.call 30 [(.t 30), (.t 35)]), none⟩,
    ⟨(some 37), (.mv (.t 36)), none⟩,
    ⟨(some 38), (.fieldAddr 1 (.t 2)), (some (37, true))⟩,
    ⟨(some 39), (.load 1 false (.t 38)), (some (37, true))⟩,
    ⟨(some 40), (.nilCk (.t 39)), (some (37, true))⟩,
    ⟨(some 41), (.fieldAddr 2 (.t 40)), (some (37, true))⟩,
    ⟨(some 42), (.load 2 true (.t 41)), (some (37, true))⟩,
    ⟨(some 43), (.fieldAddr 0 (.t 2)), (some (37, true))⟩,
    ⟨(some 44), (.load 1 false (.t 43)), (some (37, true))⟩,
    ⟨(some 45), (.call 41 [(.t 42), (.t 44)]), (some (37, true))⟩,
    ⟨(some 46), (.load 2 true (.t 3)), (some (37, true))⟩,
    ⟨(some 47), (.call 43 [(.t 46)]), (some (37, true))⟩,
    ⟨(some 48), (.fieldAddr 0 (.t 3)), (some (37, true))⟩,
    ⟨(some 49), (.load 1 false (.t 48)), (some (37, true))⟩,
    ⟨(some 50), (.call 41 [(.t 47), (.t 49)]), (some (37, true))⟩,
    ⟨(some 51), (.call 30 [(.t 45), (.t 50)]), (some (37, true))⟩,
    ⟨(some 52), (.pick (.t 37) (.t 51) (.c (.p (.s (.bool false))))), none⟩,
    ⟨(some 4), (.mv (.t 52)), none⟩] (some [0, 1, 3, 7, 15, 0, 32, 127, 0, 511, 0, 1024, 4095, 8191, 16383, 32767, 65535, 131071, 262143, 524287, 32767, 1081343, 4194303, 32767, 16777215, 32767, 33587199, 134217727, 268435455, 536870911, 1073741823]) [4])
  .ret)))), [(4, none)], false⟩
/-- kinfolk/deed.node -/
def ir31 : IRF := ⟨[0], (.seq (.region [⟨(some 2), (.mv (.c (.p (.s (.bool false))))), none⟩] none [0])
  (.seq (.region [⟨(some 3), (.mv (.t 0)), none⟩,
    ⟨(some 4), (.bin .geq (.t 3) (.c (.p (.s (.int .i64 0))))), none⟩,
    ⟨(some 5), (.mv (.t 4)), none⟩,
    ⟨(some 6), (.mv (.t 0)), (some (5, true))⟩,
    ⟨(some 7), (.bin .lss (.t 6) (.c (.p (.s (.int .i64 12))))), (some (5, true))⟩,
    ⟨(some 8), (.pick (.t 5) (.t 7) (.c (.p (.s (.bool false))))), none⟩,
    ⟨(some 2), (.mv (.t 8)), none⟩] none [2])
  .ret)), [(2, none)], false⟩
/-- kinfolk/code.ID -/
def ir32 : IRF := ⟨[0], (.seq (.region [⟨(some 1), (.box false (.t 0)), none⟩,
    ⟨(some 2), (.mv (.c (.p (.s (.slice none 0 0))))), none⟩] none [1])
  (.seq (.region [⟨(some 4), (.call 33 []), none⟩,
    ⟨(some 3), (.mv (.t 4)), none⟩] none [1, 3])
  (.seq (.region [⟨(some 5), (.mv (.t 3)), none⟩,
    ⟨(some 6), (.load 2 true (.t 1)), none⟩,
    ⟨(some 7), (.call 44 [(.t 5), (.t 6)]), none⟩] none [3])
  (.seq (.region [⟨(some 8), (.mv (.t 3)), none⟩,
    ⟨(some 9), (.call 35 [(.t 8)]), none⟩,
    ⟨(some 2), (.mv (.t 9)), none⟩] none [2])
  .ret)))), [(2, none)], false⟩
/-- kinfolk/bits.NewWriter -/
def ir33 : IRF := ⟨[], (.seq (.region [⟨(some 0), (.mv (.c (.p (.s (.pointer none))))), none⟩] none [])
  (.seq (.region [⟨(some 1), (.build [(.s (.slice none 0 0)), (.s (.int .i64 0))] []), none⟩,
    ⟨(some 2), (.box false (.t 1)), none⟩,
    ⟨(some 0), (.mv (.t 2)), none⟩] none [0])
  .ret)), [(0, none)], true⟩
/-- kinfolk/code.PutEvent -/
def ir34 : IRF := ⟨[0, 1], (.seq (.region [⟨(some 3), (.box false (.t 1)), none⟩] none [0, 3])
  (.seq (.region [⟨(some 8), (.load 2 true (.t 3)), none⟩,
    ⟨(some 9), (.call 42 [(.t 8)]), none⟩,
    ⟨(some 10), (.load 2 true (.t 3)), none⟩,
    ⟨(some 11), (.call 43 [(.t 10)]), none⟩,
    ⟨(some 4), (.alloc false [(.s (.int .u64 0)), (.s (.pointer none))]), none⟩,
    ⟨(some 5), (.alloc false [(.s (.int .u64 0)), (.s (.pointer none))]), none⟩,
    ⟨none, (.store 2 (.t 4) (.t 9)), none⟩,
    ⟨none, (.store 2 (.t 5) (.t 11)), none⟩] (some [0, 1, 0, 7, 0, 0, 63, 127]) [0, 3, 4, 5])
  (.seq (.seq (.region [⟨(some 12), (.load 2 true (.t 3)), none⟩,
    ⟨(some 13), (.call 45 [(.t 12)]), none⟩] none [0, 3, 4, 5, 13])
  (.cond (.t 13) (.seq (.region [⟨(some 14), (.mv (.t 0)), none⟩,
    ⟨(some 15), (.call 46 [(.t 14), (.c (.p (.s (.int .u64 1)))), (.c (.p (.s (.int .i64 1))))]), none⟩] none [0, 3])
  (.seq (.region [⟨(some 16), (.mv (.t 0)), none⟩,
    ⟨(some 17), (.load 2 true (.t 3)), none⟩,
    ⟨(some 18), (.call 48 [(.t 17)]), none⟩,
    ⟨(some 19), (.call 47 [(.t 16), (.t 18)]), none⟩] none [])
  .ret)) .skip))
  (.seq (.region [⟨(some 20), (.mv (.t 0)), none⟩,
    ⟨(some 21), (.call 46 [(.t 20), (.c (.p (.s (.int .u64 0)))), (.c (.p (.s (.int .i64 1))))]), none⟩] none [0, 3, 4, 5])
  (.seq (.block 0 (.seq (.region [⟨(some 27), (.load 2 true (.t 3)), none⟩,
    ⟨(some 28), (.call 48 [(.t 27)]), none⟩,
    ⟨(some 29), (.bin .eql (.t 28) (.c (.p (.s (.int .u64 0))))), none⟩,
    ⟨(some 30), (.mv (.t 29)), none⟩,
    ⟨(some 31), (.load 2 true (.t 4)), (some (30, true))⟩,
    ⟨(some 32), (.call 49 [(.t 31)]), (some (30, true))⟩,
    ⟨(some 33), (.pick (.t 30) (.t 32) (.c (.p (.s (.bool false))))), none⟩,
    ⟨(some 26), (.mv (.t 33)), none⟩] none [0, 3, 4, 5, 26])
  (.cond (.t 26) (.region [⟨(some 34), (.mv (.t 0)), none⟩,
    ⟨(some 35), (.call 46 [(.t 34), (.c (.p (.s (.int .u64 0)))), (.c (.p (.s (.int .i64 2))))]), none⟩] none [0, 3, 4, 5]) (.seq (.region [⟨(some 37), (.load 2 true (.t 3)), none⟩,
    ⟨(some 38), (.call 48 [(.t 37)]), none⟩,
    ⟨(some 39), (.bin .eql (.t 38) (.c (.p (.s (.int .u64 0))))), none⟩,
    ⟨(some 40), (.mv (.t 39)), none⟩,
    ⟨(some 41), (.load 2 true (.t 5)), (some (40, true))⟩,
    ⟨(some 42), (.call 49 [(.t 41)]), (some (40, true))⟩,
    ⟨(some 43), (.pick (.t 40) (.t 42) (.c (.p (.s (.bool false))))), none⟩,
    ⟨(some 36), (.mv (.t 43)), none⟩] none [0, 3, 4, 5, 36])
  (.cond (.t 36) (.region [⟨(some 44), (.mv (.t 0)), none⟩,
    ⟨(some 45), (.call 46 [(.t 44), (.c (.p (.s (.int .u64 1)))), (.c (.p (.s (.int .i64 2))))]), none⟩] none [0, 3, 4, 5]) (.seq (.region [⟨(some 47), (.load 2 true (.t 3)), none⟩,
    ⟨(some 48), (.call 48 [(.t 47)]), none⟩,
    ⟨(some 49), (.bin .eql (.t 48) (.c (.p (.s (.int .u64 0))))), none⟩,
    ⟨(some 46), (.mv (.t 49)), none⟩] none [0, 3, 4, 5, 46])
  (.cond (.t 46) (.region [⟨(some 50), (.mv (.t 0)), none⟩,
    ⟨(some 51), (.call 46 [(.t 50), (.c (.p (.s (.int .u64 2)))), (.c (.p (.s (.int .i64 2))))]), none⟩] none [0, 3, 4, 5]) (.seq (.region [⟨(some 53), (.load 2 true (.t 4)), none⟩,
    ⟨(some 54), (.call 49 [(.t 53)]), none⟩,
    ⟨(some 52), (.mv (.t 54)), none⟩] none [0, 3, 4, 5, 52])
  (.cond (.t 52) (.seq (.region [⟨(some 55), (.mv (.t 0)), none⟩,
    ⟨(some 56), (.call 46 [(.t 55), (.c (.p (.s (.int .u64 3)))), (.c (.p (.s (.int .i64 2))))]), none⟩] none [0, 3, 4, 5])
  (.region [⟨(some 57), (.mv (.t 0)), none⟩,
    ⟨(some 58), (.call 46 [(.t 57), (.c (.p (.s (.int .u64 0)))), (.c (.p (.s (.int .i64 2))))]), none⟩] none [0, 3, 4, 5])) (.seq (.region [⟨(some 60), (.load 2 true (.t 5)), none⟩,
    ⟨(some 61), (.call 49 [(.t 60)]), none⟩,
    ⟨(some 59), (.mv (.t 61)), none⟩] none [0, 3, 4, 5, 59])
  (.cond (.t 59) (.seq (.region [⟨(some 62), (.mv (.t 0)), none⟩,
    ⟨(some 63), (.call 46 [(.t 62), (.c (.p (.s (.int .u64 3)))), (.c (.p (.s (.int .i64 2))))]), none⟩] none [0, 3, 4, 5])
  (.region [⟨(some 64), (.mv (.t 0)), none⟩,
    ⟨(some 65), (.call 46 [(.t 64), (.c (.p (.s (.int .u64 1)))), (.c (.p (.s (.int .i64 2))))]), none⟩] none [0, 3, 4, 5])) (.seq (.region [⟨(some 22), (.mv (.t 0)), none⟩,
    ⟨(some 23), (.call 46 [(.t 22), (.c (.p (.s (.int .u64 3)))), (.c (.p (.s (.int .i64 2))))]), none⟩] none [0, 3, 4, 5])
  (.region [⟨(some 24), (.mv (.t 0)), none⟩,
    ⟨(some 25), (.call 46 [(.t 24), (.c (.p (.s (.int .u64 1)))), (.c (.p (.s (.int .i64 1))))]), none⟩] none [0, 3, 4, 5])))))))))))))
  (.seq (.seq (.region [⟨(some 66), (.load 2 true (.t 3)), none⟩,
    ⟨(some 67), (.call 48 [(.t 66)]), none⟩,
    ⟨(some 68), (.bin .gtr (.t 67) (.c (.p (.s (.int .u64 0))))), none⟩] none [0, 3, 4, 5, 68])
  (.cond (.t 68) (.region [⟨(some 69), (.mv (.t 0)), none⟩,
    ⟨(some 70), (.load 2 true (.t 3)), none⟩,
    ⟨(some 71), (.call 48 [(.t 70)]), none⟩,
    ⟨(some 72), (.call 47 [(.t 69), (.t 71)]), none⟩] none [0, 4, 5]) .skip))
  (.seq (.region [⟨(some 73), (.load 2 true (.t 4)), none⟩,
    ⟨(some 74), (.load 2 true (.t 5)), none⟩,
    ⟨(some 75), (.mkSl 2 2 [(.s (.int .u64 0)), (.s (.pointer none)), (.s (.int .u64 0)), (.s (.pointer none))] [(0, 2, (.t 73)), (2, 2, (.t 74))]), none⟩,
    ⟨(some 76), (.len false (.t 75)), none⟩,
    ⟨(some 77), (.mv (.c (.p (.s (.int .i64 0))))), none⟩] none [0, 75, 76, 77])
  (.block 1 (.loop (.seq (.region [⟨(some 78), (.bin .lss (.t 77) (.t 76)), none⟩] none [0, 75, 76, 77, 78])
  (.seq (.cond (.t 78) .skip (.exit 1))
  (.seq (.block 2 (.seq (.region [⟨(some 79), (.idxASl 2 (.t 75) (.t 77)), none⟩,
    ⟨(some 80), (.load 2 true (.t 79)), none⟩,
    ⟨(some 7), (.alloc false [(.s (.int .u64 0)), (.s (.pointer none))]), none⟩,
    ⟨none, (.store 2 (.t 7) (.t 80)), none⟩] none [0, 7, 75, 76, 77])
  (.seq (.region [⟨(some 81), (.load 2 true (.t 7)), none⟩,
    ⟨(some 82), (.call 49 [(.t 81)]), none⟩,
    ⟨(some 83), (.un .not (.t 82)), none⟩] none [0, 7, 75, 76, 77, 83])
  (.cond (.t 83) (.region [⟨(some 84), (.mv (.t 0)), none⟩,
    ⟨(some 85), (.load 2 true (.t 7)), none⟩,
    ⟨(some 86), (.call 34 [(.t 84), (.t 85)]), none⟩] none [0, 75, 76, 77]) .skip))))
  (.region [⟨(some 87), (.bin .add (.t 77) (.c (.p (.s (.int .i64 1))))), none⟩,
    ⟨(some 77), (.mv (.t 87)), none⟩] none [0, 75, 76, 77]))))))))))))), [], false⟩
/-- (*kinfolk/bits.Writer).Bytes -/
def ir35 : IRF := ⟨[0], (.seq (.region [⟨(some 2), (.mv (.c (.p (.s (.slice none 0 0))))), none⟩] none [0])
  (.seq (.seq (.region [⟨(some 3), (.mv (.t 0)), none⟩,
    ⟨(some 4), (.eq false .ptr (.t 3) (.c (.p (.s (.pointer none))))), none⟩] none [0, 4])
  (.cond (.t 4) (.seq (.region [⟨(some 2), (.mv (.c (.p (.s (.slice none 0 0))))), none⟩] none [2])
  .ret) .skip))
  (.seq (.region [⟨(some 5), (.mv (.t 0)), none⟩,
    ⟨(some 6), (.nilCk (.t 5)), none⟩,
    ⟨(some 7), (.fieldAddr 0 (.t 6)), none⟩,
    ⟨(some 8), (.load 1 false (.t 7)), none⟩,
    ⟨(some 9), (.call 50 [(.t 8)]), none⟩,
    ⟨(some 2), (.mv (.t 9)), none⟩] none [2])
  .ret))), [(2, none)], false⟩
/-- (kinfolk/sibs.Version).Bytes -/
def ir36 : IRF := ⟨[0], (.seq (.region [⟨(some 1), (.box false (.t 0)), none⟩,
    ⟨(some 2), (.mv (.c (.p (.s (.slice none 0 0))))), none⟩] none [1])
  (.seq (.region [⟨(some 4), (.fieldAddr 0 (.t 1)), none⟩,
    ⟨(some 5), (.load 2 true (.t 4)), none⟩,
    ⟨(some 6), (.call 18 [(.t 5)]), none⟩,
    ⟨(some 7), (.b2s (.t 6)), none⟩,
    ⟨(some 8), (.call 17 [(.c (.p (.s (.slice none 0 0)))), (.t 7)]), none⟩,
    ⟨(some 3), (.mv (.t 8)), none⟩] none [1, 3])
  (.seq (.seq (.region [⟨(some 9), (.fieldAddr 3 (.t 1)), none⟩,
    ⟨(some 10), (.load 1 false (.t 9)), none⟩] none [1, 3, 10])
  (.cond (.t 10) (.seq (.region [⟨(some 11), (.mv (.t 3)), none⟩,
    ⟨(some 12), (.mkSl 1 1 [(.s (.int .u8 0))] [(0, 1, (.c (.p (.s (.int .u8 1)))))]), none⟩,
    ⟨(some 13), (.app 1 1 (.t 11) (.t 12)), none⟩,
    ⟨(some 2), (.mv (.t 13)), none⟩] none [2])
  .ret) .skip))
  (.seq (.region [⟨(some 14), (.mv (.t 3)), none⟩,
    ⟨(some 15), (.mkSl 1 1 [(.s (.int .u8 0))] [(0, 1, (.c (.p (.s (.int .u8 0)))))]), none⟩,
    ⟨(some 16), (.app 1 1 (.t 14) (.t 15)), none⟩,
    ⟨(some 17), (.fieldAddr 2 (.t 1)), none⟩,
    ⟨(some 18), (.load 1 true (.t 17)), none⟩,
    ⟨(some 19), (.call 51 [(.t 16), (.t 18)]), none⟩,
    ⟨(some 2), (.mv (.t 19)), none⟩] (some [0, 0, 3, 0, 8, 31, 63]) [2])
  .ret)))), [(2, none)], false⟩
/-- kinfolk/wire.lay -/
def ir37 : IRF := ⟨[0, 1], (.seq (.region [⟨(some 4), (.mv (.c (.p (.s (.slice none 0 0))))), none⟩] none [0, 1])
  (.seq (.seq (.region [⟨(some 6), (.mv (.c (.p (.s (.int .i64 0))))), none⟩] none [0, 1, 6])
  (.block 0 (.loop (.seq (.region [⟨(some 7), (.bin .lss (.t 6) (.c (.p (.s (.int .i64 4))))), none⟩] none [0, 1, 6, 7])
  (.seq (.cond (.t 7) .skip (.exit 0))
  (.seq (.block 1 (.seq (.region [⟨(some 8), (.mv (.t 6)), none⟩,
    ⟨(some 5), (.mv (.t 8)), none⟩] none [0, 1, 5, 6])
  (.region [⟨(some 9), (.mv (.t 0)), none⟩,
    ⟨(some 10), (.mv (.t 1)), none⟩,
    ⟨(some 11), (.mv (.t 5)), none⟩,
    ⟨(some 12), (.bin .mul (.c (.p (.s (.int .i64 8)))) (.t 11)), none⟩,
    ⟨(some 13), (.bin .shr (.t 10) (.t 12)), none⟩,
    ⟨(some 14), (.cvt .u8 (.t 13)), none⟩,
    ⟨(some 15), (.mkSl 1 1 [(.s (.int .u8 0))] [(0, 1, (.t 14))]), none⟩,
    ⟨(some 16), (.app 1 1 (.t 9) (.t 15)), none⟩,
    ⟨(some 0), (.mv (.t 16)), none⟩] none [0, 1, 6])))
  (.region [⟨(some 17), (.bin .add (.t 6) (.c (.p (.s (.int .i64 1))))), none⟩,
    ⟨(some 6), (.mv (.t 17)), none⟩] none [0, 1, 6])))))))
  (.seq (.region [⟨(some 18), (.mv (.t 0)), none⟩,
    ⟨(some 4), (.mv (.t 18)), none⟩] none [4])
  .ret))), [(4, none)], true⟩
/-- kinfolk/wire.Sum -/
def ir38 : IRF := ⟨[0], (.seq (.region [⟨(some 2), (.mv (.c (.p (.s (.int .u32 0))))), none⟩] none [0])
  (.seq (.region [⟨(some 3), (.mv (.c (.p (.s (.int .u32 4294967295))))), none⟩] none [0, 3])
  (.seq (.seq (.region [⟨(some 6), (.mv (.t 0)), none⟩,
    ⟨(some 7), (.len false (.t 6)), none⟩,
    ⟨(some 8), (.mv (.c (.p (.s (.int .i64 0))))), none⟩] none [3, 6, 7, 8])
  (.block 0 (.loop (.seq (.region [⟨(some 9), (.bin .lss (.t 8) (.t 7)), none⟩] none [3, 6, 7, 8, 9])
  (.seq (.cond (.t 9) .skip (.exit 0))
  (.seq (.block 1 (.seq (.region [⟨(some 10), (.idxASl 1 (.t 6) (.t 8)), none⟩,
    ⟨(some 11), (.load 1 false (.t 10)), none⟩,
    ⟨(some 5), (.mv (.t 11)), none⟩] none [3, 5, 6, 7, 8])
  (.seq (.region [⟨(some 12), (.mv (.t 3)), none⟩,
    ⟨(some 13), (.mv (.t 5)), none⟩,
    ⟨(some 14), (.cvt .u32 (.t 13)), none⟩,
    ⟨(some 15), (.bin .xor (.t 12) (.t 14)), none⟩,
    ⟨(some 3), (.mv (.t 15)), none⟩] none [3, 6, 7, 8])
  (.seq (.region [⟨(some 16), (.mv (.c (.p (.s (.int .i64 0))))), none⟩] none [3, 6, 7, 8, 16])
  (.block 2 (.loop (.seq (.region [⟨(some 17), (.bin .lss (.t 16) (.c (.p (.s (.int .i64 8))))), none⟩] none [3, 6, 7, 8, 16, 17])
  (.seq (.cond (.t 17) .skip (.exit 2))
  (.seq (.block 3 (.seq (.region [⟨(some 18), (.mv (.t 3)), none⟩,
    ⟨(some 19), (.bin .and (.t 18) (.c (.p (.s (.int .u32 1))))), none⟩,
    ⟨(some 20), (.bin .eql (.t 19) (.c (.p (.s (.int .u32 1))))), none⟩] none [3, 6, 7, 8, 16, 20])
  (.cond (.t 20) (.region [⟨(some 21), (.mv (.t 3)), none⟩,
    ⟨(some 22), (.bin .shr (.t 21) (.c (.p (.s (.int .u64 1))))), none⟩,
    ⟨(some 23), (.bin .xor (.t 22) (.c (.p (.s (.int .u32 3988292384))))), none⟩,
    ⟨(some 3), (.mv (.t 23)), none⟩] none [3, 6, 7, 8, 16]) (.region [⟨(some 24), (.mv (.t 3)), none⟩,
    ⟨(some 25), (.bin .shr (.t 24) (.c (.p (.s (.int .u64 1))))), none⟩,
    ⟨(some 3), (.mv (.t 25)), none⟩] none [3, 6, 7, 8, 16]))))
  (.region [⟨(some 26), (.bin .add (.t 16) (.c (.p (.s (.int .i64 1))))), none⟩,
    ⟨(some 16), (.mv (.t 26)), none⟩] none [3, 6, 7, 8, 16]))))))))))
  (.region [⟨(some 27), (.bin .add (.t 8) (.c (.p (.s (.int .i64 1))))), none⟩,
    ⟨(some 8), (.mv (.t 27)), none⟩] none [3, 6, 7, 8])))))))
  (.seq (.region [⟨(some 28), (.mv (.t 3)), none⟩,
    ⟨(some 29), (.un .xor (.t 28)), none⟩,
    ⟨(some 2), (.mv (.t 29)), none⟩] none [2])
  .ret)))), [(2, none)], false⟩
/-- slices.IndexFunc[[]kinfolk/book.Entry,kinfolk/book.Entry] -/
def ir39 : IRF := ⟨[0, 1], (.seq (.region [⟨(some 4), (.mv (.c (.p (.s (.int .i64 0))))), none⟩] none [0, 1])
  (.seq (.seq (.region [⟨(some 6), (.mv (.t 0)), none⟩,
    ⟨(some 7), (.len false (.t 6)), none⟩,
    ⟨(some 8), (.mv (.c (.p (.s (.int .i64 0))))), none⟩] none [0, 1, 7, 8])
  (.block 0 (.loop (.seq (.region [⟨(some 9), (.bin .lss (.t 8) (.t 7)), none⟩] none [0, 1, 7, 8, 9])
  (.seq (.cond (.t 9) .skip (.exit 0))
  (.seq (.block 1 (.seq (.region [⟨(some 10), (.mv (.t 8)), none⟩,
    ⟨(some 5), (.mv (.t 10)), none⟩] none [0, 1, 5, 7, 8])
  (.seq (.region [⟨(some 11), (.mv (.t 1)), none⟩,
    ⟨(some 12), (.mv (.t 0)), none⟩,
    ⟨(some 13), (.mv (.t 5)), none⟩,
    ⟨(some 14), (.idxASl 5 (.t 12) (.t 13)), none⟩,
    ⟨(some 15), (.load 5 true (.t 14)), none⟩,
    ⟨(some 16), (.callv (.t 11) [(.t 15)]), none⟩] none [0, 1, 5, 7, 8, 16])
  (.cond (.t 16) (.seq (.region [⟨(some 17), (.mv (.t 5)), none⟩,
    ⟨(some 4), (.mv (.t 17)), none⟩] none [4])
  .ret) .skip))))
  (.region [⟨(some 18), (.bin .add (.t 8) (.c (.p (.s (.int .i64 1))))), none⟩,
    ⟨(some 8), (.mv (.t 18)), none⟩] none [0, 1, 7, 8])))))))
  (.seq (.region [⟨(some 4), (.mv (.c (.p (.s (.int .i64 (-1)))))), none⟩] none [4])
  .ret))), [(4, none)], false⟩
/-- (kinfolk/card.Card).Len -/
def ir40 : IRF := ⟨[0], (.seq (.region [⟨(some 1), (.box false (.t 0)), none⟩,
    ⟨(some 2), (.mv (.c (.p (.s (.int .i64 0))))), none⟩] none [1])
  (.seq (.region [⟨(some 3), (.fieldAddr 0 (.t 1)), none⟩,
    ⟨(some 4), (.load 1 false (.t 3)), none⟩,
    ⟨(some 5), (.len false (.t 4)), none⟩,
    ⟨(some 2), (.mv (.t 5)), none⟩] none [2])
  .ret)), [(2, none)], false⟩
/-- (kinfolk/event.Event).up -/
def ir41 : IRF := ⟨[0, 1], (.seq (.region [⟨(some 2), (.box false (.t 0)), none⟩,
    ⟨(some 4), (.alloc false [(.s (.int .u64 0)), (.s (.pointer none))]), none⟩] none [1, 2, 4])
  (.seq (.region [⟨(some 5), (.fieldAddr 0 (.t 2)), none⟩,
    ⟨(some 6), (.load 1 false (.t 5)), none⟩,
    ⟨(some 7), (.mv (.t 1)), none⟩,
    ⟨(some 8), (.bin .add (.t 6) (.t 7)), none⟩,
    ⟨(some 9), (.fieldAddr 0 (.t 2)), none⟩,
    ⟨none, (.store 1 (.t 9) (.t 8)), none⟩] none [2, 4])
  (.seq (.region [⟨(some 10), (.load 2 true (.t 2)), none⟩,
    ⟨none, (.store 2 (.t 4) (.t 10)), none⟩] none [4])
  .ret))), [(4, some (2, true))], false⟩
/-- (kinfolk/event.Event).Left -/
def ir42 : IRF := ⟨[0], (.seq (.region [⟨(some 1), (.box false (.t 0)), none⟩,
    ⟨(some 2), (.alloc false [(.s (.int .u64 0)), (.s (.pointer none))]), none⟩] none [1, 2])
  (.seq (.seq (.region [⟨(some 3), (.fieldAddr 1 (.t 1)), none⟩,
    ⟨(some 4), (.load 1 false (.t 3)), none⟩,
    ⟨(some 5), (.eq false .ptr (.t 4) (.c (.p (.s (.pointer none))))), none⟩] none [1, 2, 5])
  (.cond (.t 5) (.seq (.region [⟨(some 6), (.build [(.s (.int .u64 0)), (.s (.pointer none))] []), none⟩,
    ⟨none, (.store 2 (.t 2) (.t 6)), none⟩] none [2])
  .ret) .skip))
  (.seq (.region [⟨(some 7), (.fieldAddr 1 (.t 1)), none⟩,
    ⟨(some 8), (.load 1 false (.t 7)), none⟩,
    ⟨(some 9), (.nilCk (.t 8)), none⟩,
    ⟨(some 10), (.fieldAddr 0 (.t 9)), none⟩,
    ⟨(some 11), (.load 2 true (.t 10)), none⟩,
    ⟨none, (.store 2 (.t 2) (.t 11)), none⟩] none [2])
  .ret))), [(2, some (2, true))], false⟩
/-- (kinfolk/event.Event).Right -/
def ir43 : IRF := ⟨[0], (.seq (.region [⟨(some 1), (.box false (.t 0)), none⟩,
    ⟨(some 2), (.alloc false [(.s (.int .u64 0)), (.s (.pointer none))]), none⟩] none [1, 2])
  (.seq (.seq (.region [⟨(some 3), (.fieldAddr 1 (.t 1)), none⟩,
    ⟨(some 4), (.load 1 false (.t 3)), none⟩,
    ⟨(some 5), (.eq false .ptr (.t 4) (.c (.p (.s (.pointer none))))), none⟩] none [1, 2, 5])
  (.cond (.t 5) (.seq (.region [⟨(some 6), (.build [(.s (.int .u64 0)), (.s (.pointer none))] []), none⟩,
    ⟨none, (.store 2 (.t 2) (.t 6)), none⟩] none [2])
  .ret) .skip))
  (.seq (.region [⟨(some 7), (.fieldAddr 1 (.t 1)), none⟩,
    ⟨(some 8), (.load 1 false (.t 7)), none⟩,
    ⟨(some 9), (.nilCk (.t 8)), none⟩,
    ⟨(some 10), (.fieldAddr 2 (.t 9)), none⟩,
    ⟨(some 11), (.load 2 true (.t 10)), none⟩,
    ⟨none, (.store 2 (.t 2) (.t 11)), none⟩] none [2])
  .ret))), [(2, some (2, true))], false⟩
/-- kinfolk/code.PutID -/
def ir44 : IRF := ⟨[0, 1], (.seq (.region [⟨(some 3), (.box false (.t 1)), none⟩] none [0, 3])
  (.seq (.region [⟨(some 6), (.load 2 true (.t 3)), none⟩,
    ⟨(some 7), (.call 52 [(.t 6)]), none⟩,
    ⟨(some 8), (.load 2 true (.t 3)), none⟩,
    ⟨(some 9), (.call 53 [(.t 8)]), none⟩,
    ⟨(some 4), (.alloc false [(.s (.bool false)), (.s (.pointer none))]), none⟩,
    ⟨(some 5), (.alloc false [(.s (.bool false)), (.s (.pointer none))]), none⟩,
    ⟨none, (.store 2 (.t 4) (.t 7)), none⟩,
    ⟨none, (.store 2 (.t 5) (.t 9)), none⟩] (some [0, 1, 0, 7, 0, 0, 63, 127]) [0, 3, 4, 5])
  (.block 0 (.seq (.region [⟨(some 19), (.load 2 true (.t 3)), none⟩,
    ⟨(some 20), (.call 26 [(.t 19)]), none⟩,
    ⟨(some 18), (.mv (.t 20)), none⟩] none [0, 3, 4, 5, 18])
  (.cond (.t 18) (.seq (.region [⟨(some 21), (.mv (.t 0)), none⟩,
    ⟨(some 22), (.call 46 [(.t 21), (.c (.p (.s (.int .u64 0)))), (.c (.p (.s (.int .i64 2))))]), none⟩] none [0])
  (.region [⟨(some 23), (.mv (.t 0)), none⟩,
    ⟨(some 24), (.call 46 [(.t 23), (.c (.p (.s (.int .u64 0)))), (.c (.p (.s (.int .i64 1))))]), none⟩] none [])) (.seq (.region [⟨(some 26), (.load 2 true (.t 3)), none⟩,
    ⟨(some 27), (.call 54 [(.t 26)]), none⟩,
    ⟨(some 25), (.mv (.t 27)), none⟩] none [0, 4, 5, 25])
  (.cond (.t 25) (.seq (.region [⟨(some 28), (.mv (.t 0)), none⟩,
    ⟨(some 29), (.call 46 [(.t 28), (.c (.p (.s (.int .u64 0)))), (.c (.p (.s (.int .i64 2))))]), none⟩] none [0])
  (.region [⟨(some 30), (.mv (.t 0)), none⟩,
    ⟨(some 31), (.call 46 [(.t 30), (.c (.p (.s (.int .u64 1)))), (.c (.p (.s (.int .i64 1))))]), none⟩] none [])) (.seq (.region [⟨(some 33), (.load 2 true (.t 4)), none⟩,
    ⟨(some 34), (.call 26 [(.t 33)]), none⟩,
    ⟨(some 32), (.mv (.t 34)), none⟩] none [0, 4, 5, 32])
  (.cond (.t 32) (.seq (.region [⟨(some 35), (.mv (.t 0)), none⟩,
    ⟨(some 36), (.call 46 [(.t 35), (.c (.p (.s (.int .u64 1)))), (.c (.p (.s (.int .i64 2))))]), none⟩] none [0, 5])
  (.region [⟨(some 37), (.mv (.t 0)), none⟩,
    ⟨(some 38), (.load 2 true (.t 5)), none⟩,
    ⟨(some 39), (.call 44 [(.t 37), (.t 38)]), none⟩] none [])) (.seq (.region [⟨(some 41), (.load 2 true (.t 5)), none⟩,
    ⟨(some 42), (.call 26 [(.t 41)]), none⟩,
    ⟨(some 40), (.mv (.t 42)), none⟩] none [0, 4, 5, 40])
  (.cond (.t 40) (.seq (.region [⟨(some 43), (.mv (.t 0)), none⟩,
    ⟨(some 44), (.call 46 [(.t 43), (.c (.p (.s (.int .u64 2)))), (.c (.p (.s (.int .i64 2))))]), none⟩] none [0, 4])
  (.region [⟨(some 45), (.mv (.t 0)), none⟩,
    ⟨(some 46), (.load 2 true (.t 4)), none⟩,
    ⟨(some 47), (.call 44 [(.t 45), (.t 46)]), none⟩] none [])) (.seq (.region [⟨(some 10), (.mv (.t 0)), none⟩,
    ⟨(some 11), (.call 46 [(.t 10), (.c (.p (.s (.int .u64 3)))), (.c (.p (.s (.int .i64 2))))]), none⟩] none [0, 4, 5])
  (.seq (.region [⟨(some 12), (.mv (.t 0)), none⟩,
    ⟨(some 13), (.load 2 true (.t 4)), none⟩,
    ⟨(some 14), (.call 44 [(.t 12), (.t 13)]), none⟩] none [0, 5])
  (.region [⟨(some 15), (.mv (.t 0)), none⟩,
    ⟨(some 16), (.load 2 true (.t 5)), none⟩,
    ⟨(some 17), (.call 44 [(.t 15), (.t 16)]), none⟩] none [])))))))))))))), [], false⟩
/-- (kinfolk/event.Event).IsLeaf -/
def ir45 : IRF := ⟨[0], (.seq (.region [⟨(some 1), (.box false (.t 0)), none⟩,
    ⟨(some 2), (.mv (.c (.p (.s (.bool false))))), none⟩] none [1])
  (.seq (.region [⟨(some 3), (.fieldAddr 1 (.t 1)), none⟩,
    ⟨(some 4), (.load 1 false (.t 3)), none⟩,
    ⟨(some 5), (.eq false .ptr (.t 4) (.c (.p (.s (.pointer none))))), none⟩,
    ⟨(some 2), (.mv (.t 5)), none⟩] none [2])
  .ret)), [(2, none)], false⟩
/-- (*kinfolk/bits.Writer).Put -/
def ir46 : IRF := ⟨[0, 1, 2], (.seq (.seq (.region [⟨(some 7), (.mv (.t 0)), none⟩,
    ⟨(some 8), (.eq false .ptr (.t 7) (.c (.p (.s (.pointer none))))), none⟩] none [0, 1, 2, 8])
  (.cond (.t 8) .ret .skip))
  (.seq (.region [⟨(some 9), (.mv (.t 2)), none⟩,
    ⟨(some 10), (.call 55 [(.t 9)]), none⟩,
    ⟨(some 11), (.bin .sub (.t 10) (.c (.p (.s (.int .i64 1))))), none⟩,
    ⟨(some 6), (.mv (.t 11)), none⟩] none [0, 1, 6])
  (.block 0 (.loop (.seq (.seq (.region [⟨(some 12), (.mv (.t 6)), none⟩,
    ⟨(some 13), (.bin .geq (.t 12) (.c (.p (.s (.int .i64 0))))), none⟩] none [0, 1, 6, 13])
  (.cond (.t 13) .skip (.exit 0)))
  (.seq (.block 1 (.seq (.seq (.region [⟨(some 16), (.mv (.t 0)), none⟩,
    ⟨(some 17), (.nilCk (.t 16)), none⟩,
    ⟨(some 18), (.fieldAddr 1 (.t 17)), none⟩,
    ⟨(some 19), (.load 1 false (.t 18)), none⟩,
    ⟨(some 20), (.bin .rem (.t 19) (.c (.p (.s (.int .i64 8))))), none⟩,
    ⟨(some 21), (.bin .eql (.t 20) (.c (.p (.s (.int .i64 0))))), none⟩] none [0, 1, 6, 21])
  (.cond (.t 21) (.region [⟨(some 22), (.mv (.t 0)), none⟩,
    ⟨(some 23), (.mv (.t 0)), none⟩,
    ⟨(some 24), (.nilCk (.t 23)), none⟩,
    ⟨(some 25), (.fieldAddr 0 (.t 24)), none⟩,
    ⟨(some 26), (.load 1 false (.t 25)), none⟩,
    ⟨(some 27), (.mkSl 1 1 [(.s (.int .u8 0))] [(0, 1, (.c (.p (.s (.int .u8 0)))))]), none⟩,
    ⟨(some 28), (.app 1 1 (.t 26) (.t 27)), none⟩,
    ⟨(some 29), (.nilCk (.t 22)), none⟩,
    ⟨(some 30), (.fieldAddr 0 (.t 29)), none⟩,
    ⟨none, (.store 1 (.t 30) (.t 28)), none⟩] none [0, 1, 6]) .skip))
  (.seq (.seq (.region [⟨(some 31), (.mv (.t 1)), none⟩,
    ⟨(some 32), (.mv (.t 6)), none⟩,
    ⟨(some 33), (.bin .shr (.t 31) (.t 32)), none⟩,
    ⟨(some 34), (.bin .and (.t 33) (.c (.p (.s (.int .u64 1))))), none⟩,
    ⟨(some 35), (.bin .eql (.t 34) (.c (.p (.s (.int .u64 1))))), none⟩] none [0, 1, 6, 35])
  (.cond (.t 35) (.region [⟨(some 36), (.mv (.t 0)), none⟩,
    ⟨(some 37), (.nilCk (.t 36)), none⟩,
    ⟨(some 38), (.fieldAddr 0 (.t 37)), none⟩,
    ⟨(some 39), (.load 1 false (.t 38)), none⟩,
    ⟨(some 40), (.mv (.t 0)), none⟩,
    ⟨(some 41), (.nilCk (.t 40)), none⟩,
    ⟨(some 42), (.fieldAddr 1 (.t 41)), none⟩,
    ⟨(some 43), (.load 1 false (.t 42)), none⟩,
    ⟨(some 44), (.bin .quo (.t 43) (.c (.p (.s (.int .i64 8))))), none⟩,
    ⟨(some 45), (.idxASl 1 (.t 39) (.t 44)), none⟩,
    ⟨(some 46), (.load 1 false (.t 45)), none⟩,
    ⟨(some 47), (.mv (.t 0)), none⟩,
    ⟨(some 48), (.nilCk (.t 47)), none⟩,
    ⟨(some 49), (.fieldAddr 1 (.t 48)), none⟩,
    ⟨(some 50), (.load 1 false (.t 49)), none⟩,
    ⟨(some 51), (.bin .rem (.t 50) (.c (.p (.s (.int .i64 8))))), none⟩,
    ⟨(some 52), (.bin .shr (.c (.p (.s (.int .u8 128)))) (.t 51)), none⟩,
    ⟨(some 53), (.bin .or (.t 46) (.t 52)), none⟩,
    ⟨(some 54), (.idxASl 1 (.t 39) (.t 44)), none⟩,
    ⟨none, (.store 1 (.t 54) (.t 53)), none⟩] (some [0, 1, 3, 7, 0, 16, 48, 112, 240, 511, 1023, 0, 2048, 6144, 14336, 30720, 63488, 131071, 262143, 524287]) [0, 1, 6]) .skip))
  (.region [⟨(some 55), (.mv (.t 0)), none⟩,
    ⟨(some 56), (.nilCk (.t 55)), none⟩,
    ⟨(some 57), (.fieldAddr 1 (.t 56)), none⟩,
    ⟨(some 58), (.load 1 false (.t 57)), none⟩,
    ⟨(some 59), (.bin .add (.t 58) (.c (.p (.s (.int .i64 1))))), none⟩,
    ⟨(some 60), (.nilCk (.t 55)), none⟩,
    ⟨(some 61), (.fieldAddr 1 (.t 60)), none⟩,
    ⟨none, (.store 1 (.t 61) (.t 59)), none⟩] none [0, 1, 6]))))
  (.region [⟨(some 14), (.mv (.t 6)), none⟩,
    ⟨(some 15), (.bin .sub (.t 14) (.c (.p (.s (.int .i64 1))))), none⟩,
    ⟨(some 6), (.mv (.t 15)), none⟩] none [0, 1, 6]))))))), [], true⟩
/-- (*kinfolk/bits.Writer).Num -/
def ir47 : IRF := ⟨[0, 1], (.seq (.region [⟨(some 4), (.mv (.c (.p (.s (.int .i64 2))))), none⟩] none [0, 1, 4])
  (.seq (.block 0 (.loop (.seq (.seq (.region [⟨(some 5), (.mv (.t 4)), none⟩,
    ⟨(some 6), (.bin .lss (.t 5) (.c (.p (.s (.int .i64 64))))), none⟩,
    ⟨(some 7), (.mv (.t 6)), none⟩,
    ⟨(some 8), (.mv (.t 1)), (some (7, true))⟩,
    ⟨(some 9), (.mv (.t 4)), (some (7, true))⟩,
    ⟨(some 10), (.bin .shr (.t 8) (.t 9)), (some (7, true))⟩,
    ⟨(some 11), (.bin .gtr (.t 10) (.c (.p (.s (.int .u64 0))))), (some (7, true))⟩,
    ⟨(some 12), (.pick (.t 7) (.t 11) (.c (.p (.s (.bool false))))), none⟩] none [0, 1, 4, 12])
  (.cond (.t 12) .skip (.exit 0)))
  (.block 1 (.seq (.region [⟨(some 13), (.mv (.t 0)), none⟩,
    ⟨(some 14), (.call 46 [(.t 13), (.c (.p (.s (.int .u64 1)))), (.c (.p (.s (.int .i64 1))))]), none⟩] none [0, 1, 4])
  (.seq (.region [⟨(some 15), (.mv (.t 1)), none⟩,
    ⟨(some 16), (.mv (.t 4)), none⟩,
    ⟨(some 17), (.bin .shl (.c (.p (.s (.int .u64 1)))) (.t 16)), none⟩,
    ⟨(some 18), (.bin .sub (.t 15) (.t 17)), none⟩,
    ⟨(some 1), (.mv (.t 18)), none⟩] none [0, 1, 4])
  (.region [⟨(some 19), (.mv (.t 4)), none⟩,
    ⟨(some 20), (.bin .add (.t 19) (.c (.p (.s (.int .i64 1))))), none⟩,
    ⟨(some 4), (.mv (.t 20)), none⟩] none [0, 1, 4])))))))
  (.seq (.region [⟨(some 21), (.mv (.t 0)), none⟩,
    ⟨(some 22), (.call 46 [(.t 21), (.c (.p (.s (.int .u64 0)))), (.c (.p (.s (.int .i64 1))))]), none⟩] none [0, 1, 4])
  (.region [⟨(some 23), (.mv (.t 0)), none⟩,
    ⟨(some 24), (.mv (.t 1)), none⟩,
    ⟨(some 25), (.mv (.t 4)), none⟩,
    ⟨(some 26), (.call 46 [(.t 23), (.t 24), (.t 25)]), none⟩] none [])))), [], true⟩
/-- (kinfolk/event.Event).Base -/
def ir48 : IRF := ⟨[0], (.seq (.region [⟨(some 1), (.box false (.t 0)), none⟩,
    ⟨(some 2), (.mv (.c (.p (.s (.int .u64 0))))), none⟩] none [1])
  (.seq (.region [⟨(some 3), (.fieldAddr 0 (.t 1)), none⟩,
    ⟨(some 4), (.load 1 false (.t 3)), none⟩,
    ⟨(some 2), (.mv (.t 4)), none⟩] none [2])
  .ret)), [(2, none)], false⟩
/-- kinfolk/code.zero -/
def ir49 : IRF := ⟨[0], (.seq (.region [⟨(some 1), (.box false (.t 0)), none⟩,
    ⟨(some 2), (.mv (.c (.p (.s (.bool false))))), none⟩] none [1])
  (.seq (.region [⟨(some 3), (.load 2 true (.t 1)), none⟩,
    ⟨(some 4), (.call 45 [(.t 3)]), none⟩,
    ⟨(some 5), (.mv (.t 4)), none⟩,
    ⟨(some 6), (.load 2 true (.t 1)), (some (5, true))⟩,
    ⟨(some 7), (.call 48 [(.t 6)]), (some (5, true))⟩,
    ⟨(some 8), (.bin .eql (.t 7) (.c (.p (.s (.int .u64 0))))), (some (5, true))⟩,
    ⟨(some 9), (.pick (.t 5) (.t 8) (.c (.p (.s (.bool false))))), none⟩,
    ⟨(some 2), (.mv (.t 9)), none⟩] none [2])
  .ret)), [(2, none)], false⟩
/-- bytes.Clone -/
def ir50 : IRF := ⟨[0], (.seq (.region [⟨(some 2), (.mv (.c (.p (.s (.slice none 0 0))))), none⟩] none [0])
  (.seq (.seq (.region [⟨(some 3), (.mv (.t 0)), none⟩,
    ⟨(some 4), (.eq false .slice (.t 3) (.c (.p (.s (.slice none 0 0))))), none⟩] none [0, 4])
  (.cond (.t 4) (.seq (.region [⟨(some 2), (.mv (.c (.p (.s (.slice none 0 0))))), none⟩] none [2])
  .ret) .skip))
  (.seq (.region [⟨(some 5), (.mkSl 0 1 [] []), none⟩,
    ⟨(some 6), (.mv (.t 0)), none⟩,
    ⟨(some 7), (.app 1 1 (.t 5) (.t 6)), none⟩,
    ⟨(some 2), (.mv (.t 7)), none⟩] none [2])
  .ret))), [(2, none)], false⟩
/-- kinfolk/paper.PutCard -/
def ir51 : IRF := ⟨[0, 1], (.seq (.region [⟨(some 3), (.box false (.t 1)), none⟩,
    ⟨(some 4), (.mv (.c (.p (.s (.slice none 0 0))))), none⟩] none [0, 3])
  (.seq (.region [⟨(some 5), (.mv (.t 0)), none⟩,
    ⟨(some 6), (.load 1 true (.t 3)), none⟩,
    ⟨(some 7), (.call 57 [(.t 6)]), none⟩,
    ⟨(some 8), (.call 56 [(.t 5), (.t 7)]), none⟩,
    ⟨(some 4), (.mv (.t 8)), none⟩] none [4])
  .ret)), [(4, none)], false⟩
/-- (kinfolk/id.ID).Left -/
def ir52 : IRF := ⟨[0], (.seq (.region [⟨(some 1), (.box false (.t 0)), none⟩,
    ⟨(some 2), (.alloc false [(.s (.bool false)), (.s (.pointer none))]), none⟩] none [1, 2])
  (.seq (.seq (.region [⟨(some 3), (.fieldAddr 1 (.t 1)), none⟩,
    ⟨(some 4), (.load 1 false (.t 3)), none⟩,
    ⟨(some 5), (.eq false .ptr (.t 4) (.c (.p (.s (.pointer none))))), none⟩] none [1, 2, 5])
  (.cond (.t 5) (.seq (.region [⟨(some 6), (.load 2 true (.t 1)), none⟩,
    ⟨none, (.store 2 (.t 2) (.t 6)), none⟩] none [2])
  .ret) .skip))
  (.seq (.region [⟨(some 7), (.fieldAddr 1 (.t 1)), none⟩,
    ⟨(some 8), (.load 1 false (.t 7)), none⟩,
    ⟨(some 9), (.nilCk (.t 8)), none⟩,
    ⟨(some 10), (.fieldAddr 0 (.t 9)), none⟩,
    ⟨(some 11), (.load 2 true (.t 10)), none⟩,
    ⟨none, (.store 2 (.t 2) (.t 11)), none⟩] none [2])
  .ret))), [(2, some (2, true))], false⟩
/-- (kinfolk/id.ID).Right -/
def ir53 : IRF := ⟨[0], (.seq (.region [⟨(some 1), (.box false (.t 0)), none⟩,
    ⟨(some 2), (.alloc false [(.s (.bool false)), (.s (.pointer none))]), none⟩] none [1, 2])
  (.seq (.seq (.region [⟨(some 3), (.fieldAddr 1 (.t 1)), none⟩,
    ⟨(some 4), (.load 1 false (.t 3)), none⟩,
    ⟨(some 5), (.eq false .ptr (.t 4) (.c (.p (.s (.pointer none))))), none⟩] none [1, 2, 5])
  (.cond (.t 5) (.seq (.region [⟨(some 6), (.load 2 true (.t 1)), none⟩,
    ⟨none, (.store 2 (.t 2) (.t 6)), none⟩] none [2])
  .ret) .skip))
  (.seq (.region [⟨(some 7), (.fieldAddr 1 (.t 1)), none⟩,
    ⟨(some 8), (.load 1 false (.t 7)), none⟩,
    ⟨(some 9), (.nilCk (.t 8)), none⟩,
    ⟨(some 10), (.fieldAddr 2 (.t 9)), none⟩,
    ⟨(some 11), (.load 2 true (.t 10)), none⟩,
    ⟨none, (.store 2 (.t 2) (.t 11)), none⟩] none [2])
  .ret))), [(2, some (2, true))], false⟩
/-- (kinfolk/id.ID).IsOne -/
def ir54 : IRF := ⟨[0], (.seq (.region [⟨(some 1), (.box false (.t 0)), none⟩,
    ⟨(some 2), (.mv (.c (.p (.s (.bool false))))), none⟩] none [1])
  (.seq (.region [⟨(some 3), (.fieldAddr 0 (.t 1)), none⟩,
    ⟨(some 4), (.load 1 false (.t 3)), none⟩,
    ⟨(some 2), (.mv (.t 4)), none⟩] none [2])
  .ret)), [(2, none)], false⟩
/-- kinfolk/bits.within -/
def ir55 : IRF := ⟨[0], (.seq (.region [⟨(some 2), (.mv (.c (.p (.s (.int .i64 0))))), none⟩] none [0])
  (.seq (.region [⟨(some 3), (.mv (.t 0)), none⟩,
    ⟨(some 4), (.minmax true [(.t 3), (.c (.p (.s (.int .i64 0))))]), none⟩,
    ⟨(some 5), (.minmax false [(.t 4), (.c (.p (.s (.int .i64 64))))]), none⟩,
    ⟨(some 2), (.mv (.t 5)), none⟩] none [2])
  .ret)), [(2, none)], false⟩
/-- kinfolk/paper.fields -/
def ir56 : IRF := ⟨[0, 1], (.seq (.region [⟨(some 4), (.mv (.c (.p (.s (.slice none 0 0))))), none⟩] none [0, 1])
  (.seq (.region [⟨(some 7), (.mv (.t 0)), none⟩,
    ⟨(some 8), (.mv (.t 1)), none⟩,
    ⟨(some 9), (.len false (.t 8)), none⟩,
    ⟨(some 10), (.cvt .u64 (.t 9)), none⟩,
    ⟨(some 11), (.call 15 [(.t 7), (.t 10)]), none⟩,
    ⟨(some 0), (.mv (.t 11)), none⟩] none [0, 1])
  (.seq (.seq (.region [⟨(some 12), (.mv (.t 1)), none⟩,
    ⟨(some 13), (.len false (.t 12)), none⟩,
    ⟨(some 14), (.mv (.c (.p (.s (.int .i64 0))))), none⟩] none [0, 12, 13, 14])
  (.block 0 (.loop (.seq (.region [⟨(some 15), (.bin .lss (.t 14) (.t 13)), none⟩] none [0, 12, 13, 14, 15])
  (.seq (.cond (.t 15) .skip (.exit 0))
  (.seq (.block 1 (.seq (.region [⟨(some 16), (.idxASl 3 (.t 12) (.t 14)), none⟩,
    ⟨(some 17), (.load 3 true (.t 16)), none⟩,
    ⟨(some 6), (.alloc false [(.s (.int .i64 0)), (.s (.string ⟨#[]⟩)), (.s (.string ⟨#[]⟩))]), none⟩,
    ⟨none, (.store 3 (.t 6) (.t 17)), none⟩] none [0, 6, 12, 13, 14])
  (.region [⟨(some 18), (.mv (.t 0)), none⟩,
    ⟨(some 19), (.fieldAddr 0 (.t 6)), none⟩,
    ⟨(some 20), (.load 1 false (.t 19)), none⟩,
    ⟨(some 21), (.cvt .u8 (.t 20)), none⟩,
    ⟨(some 22), (.mkSl 1 1 [(.s (.int .u8 0))] [(0, 1, (.t 21))]), none⟩,
    ⟨(some 23), (.app 1 1 (.t 18) (.t 22)), none⟩,
    ⟨(some 24), (.fieldAddr 1 (.t 6)), none⟩,
    ⟨(some 25), (.load 1 false (.t 24)), none⟩,
    ⟨(some 26), (.call 17 [(.t 23), (.t 25)]), none⟩,
    ⟨(some 27), (.fieldAddr 2 (.t 6)), none⟩,
    ⟨(some 28), (.load 1 false (.t 27)), none⟩,
    ⟨(some 29), (.call 17 [(.t 26), (.t 28)]), none⟩,
    ⟨(some 0), (.mv (.t 29)), none⟩] (some [0, 0, 2, 6, 14, 31, 0, 64, 255, 0, 512, 2047, 4095]) [0, 12, 13, 14])))
  (.region [⟨(some 30), (.bin .add (.t 14) (.c (.p (.s (.int .i64 1))))), none⟩,
    ⟨(some 14), (.mv (.t 30)), none⟩] none [0, 12, 13, 14])))))))
  (.seq (.region [⟨(some 31), (.mv (.t 0)), none⟩,
    ⟨(some 4), (.mv (.t 31)), none⟩] none [4])
  .ret)))), [(4, none)], false⟩
/-- (kinfolk/card.Card).Fields -/
def ir57 : IRF := ⟨[0], (.seq (.region [⟨(some 1), (.box false (.t 0)), none⟩,
    ⟨(some 2), (.mv (.c (.p (.s (.slice none 0 0))))), none⟩] none [1])
  (.seq (.region [⟨(some 3), (.fieldAddr 0 (.t 1)), none⟩,
    ⟨(some 4), (.load 1 false (.t 3)), none⟩,
    ⟨(some 5), (.call 58 [(.t 4)]), none⟩,
    ⟨(some 2), (.mv (.t 5)), none⟩] none [2])
  .ret)), [(2, none)], false⟩
/-- slices.Clone[[]kinfolk/card.Field,kinfolk/card.Field] -/
def ir58 : IRF := ⟨[0], (.seq (.region [⟨(some 2), (.mv (.c (.p (.s (.slice none 0 0))))), none⟩] none [0])
  (.seq (.seq (.region [⟨(some 3), (.mv (.t 0)), none⟩,
    ⟨(some 4), (.eq false .slice (.t 3) (.c (.p (.s (.slice none 0 0))))), none⟩] none [0, 4])
  (.cond (.t 4) (.seq (.region [⟨(some 2), (.mv (.c (.p (.s (.slice none 0 0))))), none⟩] none [2])
  .ret) .skip))
  (.seq (.region [⟨(some 5), (.mkSl 0 3 [] []), none⟩,
    ⟨(some 6), (.mv (.t 0)), none⟩,
    ⟨(some 7), (.app 3 40 (.t 5) (.t 6)), none⟩,
    ⟨(some 2), (.mv (.t 7)), none⟩] none [2])
  .ret))), [(2, none)], false⟩
def irs : List (FuncId × IRF) := [(3, ir3), (4, ir4), (5, ir5), (6, ir6), (7, ir7), (8, ir8), (9, ir9), (10, ir10), (11, ir11), (12, ir12), (13, ir13), (14, ir14), (15, ir15), (16, ir16), (17, ir17), (18, ir18), (19, ir19), (20, ir20), (21, ir21), (22, ir22), (23, ir23), (24, ir24), (25, ir25), (26, ir26), (27, ir27), (28, ir28), (29, ir29), (30, ir30), (31, ir31), (32, ir32), (33, ir33), (34, ir34), (35, ir35), (36, ir36), (37, ir37), (38, ir38), (39, ir39), (40, ir40), (41, ir41), (42, ir42), (43, ir43), (44, ir44), (45, ir45), (46, ir46), (47, ir47), (48, ir48), (49, ir49), (50, ir50), (51, ir51), (52, ir52), (53, ir53), (54, ir54), (55, ir55), (56, ir56), (57, ir57), (58, ir58)]
theorem irs_ok : ∀ p ∈ irs, ∃ fn, Try.prog.funcs[p.1]? = some fn ∧ cF Try.prog imT (ow p.1) fn = some p.2 ∧ fn.name ≠ "runtime.NumGoroutine" := by
  unfold irs
  simp only [List.forall_mem_cons]
  refine ⟨⟨Try.f3, rfl, by kernel_rfl, by decide⟩, ⟨Try.f4, rfl, by kernel_rfl, by decide⟩, ⟨Try.f5, rfl, by kernel_rfl, by decide⟩, ⟨Try.f6, rfl, by kernel_rfl, by decide⟩, ⟨Try.f7, rfl, by kernel_rfl, by decide⟩, ⟨Try.f8, rfl, by kernel_rfl, by decide⟩, ⟨Try.f9, rfl, by kernel_rfl, by decide⟩, ⟨Try.f10, rfl, by kernel_rfl, by decide⟩, ⟨Try.f11, rfl, by kernel_rfl, by decide⟩, ⟨Try.f12, rfl, by kernel_rfl, by decide⟩, ⟨Try.f13, rfl, by kernel_rfl, by decide⟩, ⟨Try.f14, rfl, by kernel_rfl, by decide⟩, ⟨Try.f15, rfl, by kernel_rfl, by decide⟩, ⟨Try.f16, rfl, by kernel_rfl, by decide⟩, ⟨Try.f17, rfl, by kernel_rfl, by decide⟩, ⟨Try.f18, rfl, by kernel_rfl, by decide⟩, ⟨Try.f19, rfl, by kernel_rfl, by decide⟩, ⟨Try.f20, rfl, by kernel_rfl, by decide⟩, ⟨Try.f21, rfl, by kernel_rfl, by decide⟩, ⟨Try.f22, rfl, by kernel_rfl, by decide⟩, ⟨Try.f23, rfl, by kernel_rfl, by decide⟩, ⟨Try.f24, rfl, by kernel_rfl, by decide⟩, ⟨Try.f25, rfl, by kernel_rfl, by decide⟩, ⟨Try.f26, rfl, by kernel_rfl, by decide⟩, ⟨Try.f27, rfl, by kernel_rfl, by decide⟩, ⟨Try.f28, rfl, by kernel_rfl, by decide⟩, ⟨Try.f29, rfl, by kernel_rfl, by decide⟩, ⟨Try.f30, rfl, by kernel_rfl, by decide⟩, ⟨Try.f31, rfl, by kernel_rfl, by decide⟩, ⟨Try.f32, rfl, by kernel_rfl, by decide⟩, ⟨Try.f33, rfl, by kernel_rfl, by decide⟩, ⟨Try.f34, rfl, by kernel_rfl, by decide⟩, ⟨Try.f35, rfl, by kernel_rfl, by decide⟩, ⟨Try.f36, rfl, by kernel_rfl, by decide⟩, ⟨Try.f37, rfl, by kernel_rfl, by decide⟩, ⟨Try.f38, rfl, by kernel_rfl, by decide⟩, ⟨Try.f39, rfl, by kernel_rfl, by decide⟩, ⟨Try.f40, rfl, by kernel_rfl, by decide⟩, ⟨Try.f41, rfl, by kernel_rfl, by decide⟩, ⟨Try.f42, rfl, by kernel_rfl, by decide⟩, ⟨Try.f43, rfl, by kernel_rfl, by decide⟩, ⟨Try.f44, rfl, by kernel_rfl, by decide⟩, ⟨Try.f45, rfl, by kernel_rfl, by decide⟩, ⟨Try.f46, rfl, by kernel_rfl, by decide⟩, ⟨Try.f47, rfl, by kernel_rfl, by decide⟩, ⟨Try.f48, rfl, by kernel_rfl, by decide⟩, ⟨Try.f49, rfl, by kernel_rfl, by decide⟩, ⟨Try.f50, rfl, by kernel_rfl, by decide⟩, ⟨Try.f51, rfl, by kernel_rfl, by decide⟩, ⟨Try.f52, rfl, by kernel_rfl, by decide⟩, ⟨Try.f53, rfl, by kernel_rfl, by decide⟩, ⟨Try.f54, rfl, by kernel_rfl, by decide⟩, ⟨Try.f55, rfl, by kernel_rfl, by decide⟩, ⟨Try.f56, rfl, by kernel_rfl, by decide⟩, ⟨Try.f57, rfl, by kernel_rfl, by decide⟩, ⟨Try.f58, rfl, by kernel_rfl, by decide⟩, fun _ h => by cases h⟩
end Go.Proofs.Ytnhkfjebkbkgeaa
