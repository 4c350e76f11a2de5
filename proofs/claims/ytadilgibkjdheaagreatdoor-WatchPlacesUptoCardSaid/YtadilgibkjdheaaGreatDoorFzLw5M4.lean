import Derived.Test.YtadilgibkjdheaaGreatDoorFzLw5M3
import Derived.Test.YtadilgibkjdheaaGreatDoorProg
import Derived.Test.YtadilgibkjdheaaGreatDoorChecked
import Derived.Shelf.Strings.Builder1
import Derived.BigCall
import Derived.WalkKit
import Derived.Test.YtadilgibkjdheaaGreatDoorRows
import Derived.Test.YtadilgibkjdheaaGreatDoorCards
import Derived.Test.YtadilgibkjdheaaGreatDoorTie
import Derived.Deep.DeepWitnessRowRef
import Derived.LaidMore
import Derived.Lib.LaidTab
set_option linter.all false
set_option linter.unusedVariables false
set_option linter.unusedSimpArgs false
set_option linter.unnecessarySimpa false
set_option maxRecDepth 100000
namespace Fz.D
open Go Go.Proofs
def w3 : WF := { nt := 73, results := [(6, none)], code :=
(.seq (.reg [ao 3 (.box (.t 0)),
ao 4 (.box (.t 1)),
ao 6 (.mov (.c (.bool false)))])
(.seq (.reg [ao 11 (.call 7 []),
mv 7 11])
(.seq (.seq (.reg [ao 12 (.load true 15 (.t 3)),
ao 13 (.load true 5 (.t 4)),
ao 14 (.call 8 [(.t 12), (.t 13)]),
ao 15 (.un .not (.t 14))])
(.cond (.t 15)
(.seq (.reg [mv 16 7,
mv 6 16])
.ret)
.skip))
(.seq (.reg [ao 17 (.load true 15 (.t 3)),
ao 18 (.load true 5 (.t 4)),
mv 19 2,
ao 20 (.call 9 [(.t 17), (.t 18), (.t 19)]),
ao 8 (.alloc [(.list [] true), (.list [] true), (.list [] true), (.list [] true), (.list [] true), (.list [] true), (.list [] true), (.int .i64 0), (.int .i64 0), (.int .i64 0), (.int .i64 0), (.int .i64 0), (.int .i64 0), (.bool false), (.bool false)]),
an (.store 15 (.t 8) (.t 20))])
(.seq (.reg [ao 21 (.fieldAddr 4 (.t 8)),
ao 22 (.load false 1 (.t 21)),
mv 9 22])
(.seq (.seq (.reg [ao 23 (.fieldAddr 4 (.t 3)),
ao 24 (.load false 1 (.t 23)),
ao 25 (.len (.t 24)),
ao 26 (.bin .gtr .no (.t 25) (.c (.int .i64 0))),
mv 27 26,
ag 28 (.fieldAddr 4 (.t 3)) 27 true,
ag 29 (.load false 1 (.t 28)) 27 true,
ag 30 (.fieldAddr 4 (.t 3)) 27 true,
ag 31 (.load false 1 (.t 30)) 27 true,
ag 32 (.len (.t 31)) 27 true,
ag 33 (.bin .sub .no (.t 32) (.c (.int .i64 1))) 27 true,
ag 34 (.indexSl 4 (.t 29) (.t 33)) 27 true,
ag 35 (.fieldAddr 3 (.t 34)) 27 true,
ag 36 (.load false 1 (.t 35)) 27 true,
ao 37 (.pick (.t 27) (.t 36) (.c (.bool false)))])
(.cond (.t 37)
(.draw [ao 38 (.pur (.lst 4 0 [(.str ⟨#[]⟩), (.int .i64 0), (.bool false), (.bool false)] []) []),
mv 39 9,
⟨(some 40), .append 4 32 none (.t 38) (.t 39), none, [0, 1], true⟩,
ao 41 (.fieldAddr 4 (.t 3)),
⟨(some 42), .load false 1 (.t 41), none, [3], false⟩,
ao 43 (.fieldAddr 4 (.t 3)),
⟨(some 44), .load false 1 (.t 43), none, [5], false⟩,
⟨(some 45), .len (.t 44), none, [6], false⟩,
⟨(some 46), .bin .sub .no (.t 45) (.c (.int .i64 1)), none, [7], false⟩,
⟨(some 47), .indexSl 4 (.t 42) (.t 46), none, [4, 8], false⟩,
⟨(some 48), .load true 4 (.t 47), none, [9], false⟩,
⟨(some 49), .pur (.lst 4 1 [(.str ⟨#[]⟩), (.int .i64 0), (.bool false), (.bool false)] [(0, 4)]) [(.t 48)], none, [10], false⟩,
⟨(some 50), .append 4 32 none (.t 40) (.t 49), none, [2, 11, 2], true⟩,
⟨(some 9), .mov (.t 50), none, [12, 12, 0, 1, 2, 3, 4, 5, 6, 7, 8, 9, 10, 11, 12], false⟩])
.skip))
(.seq (.reg [ao 51 (.load true 15 (.t 3)),
ao 10 (.alloc [(.list [] true), (.list [] true), (.list [] true), (.list [] true), (.list [] true), (.list [] true), (.list [] true), (.int .i64 0), (.int .i64 0), (.int .i64 0), (.int .i64 0), (.int .i64 0), (.int .i64 0), (.bool false), (.bool false)]),
an (.store 15 (.t 10) (.t 51))])
(.seq (.reg [ao 52 (.fieldAddr 1 (.t 10)),
an (.store 1 (.t 52) (.c (.list [] true)))])
(.seq (.reg [ao 53 (.fieldAddr 2 (.t 10)),
an (.store 1 (.t 53) (.c (.list [] true)))])
(.seq (.reg [ao 54 (.fieldAddr 3 (.t 10)),
an (.store 1 (.t 54) (.c (.list [] true)))])
(.seq (.reg [ao 55 (.fieldAddr 7 (.t 10)),
an (.store 1 (.t 55) (.c (.int .i64 0)))])
(.seq (.reg [ao 56 (.fieldAddr 13 (.t 10)),
an (.store 1 (.t 56) (.c (.bool false)))])
(.seq (.reg [mv 57 2,
ao 58 (.fieldAddr 12 (.t 10)),
an (.store 1 (.t 58) (.t 57))])
(.seq (.reg [ao 59 (.fieldAddr 0 (.t 4)),
ao 60 (.load false 1 (.t 59)),
ao 61 (.fieldAddr 9 (.t 3)),
ao 62 (.load false 1 (.t 61)),
ao 63 (.call 10 [(.t 60), (.t 62)]),
ao 64 (.fieldAddr 9 (.t 10)),
an (.store 1 (.t 64) (.t 63))])
(.seq (.reg [mv 65 9,
ao 66 (.fieldAddr 4 (.t 8)),
an (.store 1 (.t 66) (.t 65))])
(.seq (.reg [mv 67 7,
mv 68 67,
ag 69 (.load true 15 (.t 8)) 68 true,
ag 70 (.load true 15 (.t 10)) 68 true,
ag 71 (.call 11 [(.t 69), (.t 70)]) 68 true,
ao 72 (.pick (.t 68) (.t 71) (.c (.bool false))),
mv 6 72])
.ret)))))))))))))))) }
def w4 : WF := { nt := 13, results := [(2, none)], code :=
(.seq (.reg [ao 1 (.box (.t 0)),
ao 2 (.mov (.c (.bool false)))])
(.seq (.reg [ao 4 (.call 12 []),
mv 3 4])
(.seq (.calm [mv 5 3,
⟨(some 6), .mov (.t 5), none, [0], false⟩,
⟨(some 7), .load true 5 (.t 1), some (6, true), [1], false⟩,
⟨(some 8), .call 13 [(.t 7)], some (6, true), [2, 1, 1], false⟩,
⟨(some 9), .load true 5 (.t 1), some (6, true), [1], false⟩,
⟨(some 10), .call 14 [(.t 9)], some (6, true), [4, 3, 1], false⟩,
⟨(some 11), .bin .eql .no (.t 8) (.t 10), some (6, true), [3, 5, 1], false⟩,
⟨(some 12), .pick (.t 6) (.t 11) (.c (.bool false)), none, [1, 6], false⟩,
⟨(some 2), .mov (.t 12), none, [7, 5, 0, 1, 2, 3, 4, 5, 6, 7], false⟩])
.ret))) }
def w5 : WF := { nt := 58, results := [(6, none)], code :=
(.seq (.reg [ao 3 (.box (.t 0)),
ao 4 (.box (.t 1)),
ao 6 (.mov (.c (.bool false)))])
(.seq (.reg [ao 12 (.call 15 []),
mv 7 12])
(.seq (.seq (.reg [ao 13 (.load true 15 (.t 3)),
ao 14 (.load true 5 (.t 4)),
ao 15 (.call 8 [(.t 13), (.t 14)]),
ao 16 (.un .not (.t 15))])
(.cond (.t 16)
(.seq (.reg [mv 17 7,
mv 6 17])
.ret)
.skip))
(.seq (.reg [ao 19 (.load true 15 (.t 3)),
ao 20 (.load true 5 (.t 4)),
mv 21 2,
ao 22 (.call 16 [(.t 19), (.t 20), (.t 21)]),
mv 18 22,
ao 23 (.extract 0 (.t 18)),
ao 24 (.extract 1 (.t 18)),
ao 25 (.extract 2 (.t 18)),
mv 8 23,
mv 9 24,
mv 10 25])
(.seq (.reg [ao 26 (.load true 15 (.t 3)),
ao 27 (.load true 5 (.t 4)),
mv 28 2,
ao 29 (.call 17 [(.t 26), (.t 27), (.t 28)]),
ao 11 (.alloc [(.int .i64 0), (.int .i64 0), (.bool false)]),
an (.store 3 (.t 11) (.t 29))])
(.seq (.calm [mv 30 7,
⟨(some 31), .mov (.t 30), none, [0], false⟩,
⟨(some 32), .mov (.t 8), some (31, true), [1], false⟩,
⟨(some 33), .fieldAddr 0 (.t 11), some (31, true), [1], false⟩,
⟨(some 34), .load false 1 (.t 33), some (31, true), [3, 1], false⟩,
⟨(some 35), .bin .eql .no (.t 32) (.t 34), some (31, true), [2, 4, 1], false⟩,
⟨(some 36), .pick (.t 31) (.t 35) (.c (.bool false)), none, [1, 5], false⟩,
⟨(some 37), .mov (.t 36), none, [6, 1], false⟩,
⟨(some 38), .mov (.t 9), some (37, true), [7], false⟩,
⟨(some 39), .fieldAddr 1 (.t 11), some (37, true), [7], false⟩,
⟨(some 40), .load false 1 (.t 39), some (37, true), [9, 7], false⟩,
⟨(some 41), .bin .eql .no (.t 38) (.t 40), some (37, true), [8, 10, 7], false⟩,
⟨(some 42), .pick (.t 37) (.t 41) (.c (.bool false)), none, [7, 11], false⟩,
⟨(some 43), .mov (.t 42), none, [12, 7], false⟩,
⟨(some 44), .mov (.t 10), some (43, true), [13], false⟩,
⟨(some 45), .fieldAddr 2 (.t 11), some (43, true), [13], false⟩,
⟨(some 46), .load false 1 (.t 45), some (43, true), [15, 13], false⟩,
⟨(some 47), .bin .eql .bool (.t 44) (.t 46), some (43, true), [14, 16, 13], false⟩,
⟨(some 48), .pick (.t 43) (.t 47) (.c (.bool false)), none, [13, 17], false⟩,
⟨(some 49), .mov (.t 48), none, [18, 13], false⟩,
⟨(some 50), .load true 15 (.t 3), some (49, true), [19], false⟩,
⟨(some 51), .load true 5 (.t 4), some (49, true), [19], false⟩,
⟨(some 52), .call 18 [(.t 50), (.t 51)], some (49, true), [20, 21, 19, 19], false⟩,
⟨(some 53), .load true 15 (.t 3), some (49, true), [19], false⟩,
⟨(some 54), .load true 5 (.t 4), some (49, true), [19], false⟩,
⟨(some 55), .call 19 [(.t 53), (.t 54)], some (49, true), [23, 24, 22, 19], false⟩,
⟨(some 56), .bin .eql .no (.t 52) (.t 55), some (49, true), [22, 25, 19], false⟩,
⟨(some 57), .pick (.t 49) (.t 56) (.c (.bool false)), none, [19, 26], false⟩,
⟨(some 6), .mov (.t 57), none, [27, 25, 0, 1, 2, 3, 4, 5, 6, 7, 8, 9, 10, 11, 12, 13, 14, 15, 16, 17, 18, 19, 20, 21, 22, 23, 24, 25, 26, 27], false⟩])
.ret)))))) }
def w6 : WF := { nt := 54, results := [(6, none)], code :=
(.seq (.reg [ao 3 (.box (.t 0)),
ao 4 (.box (.t 1)),
ao 5 (.box (.t 2)),
ao 6 (.mov (.c (.bool false)))])
(.seq (.reg [ao 10 (.call 15 []),
mv 7 10])
(.seq (.reg [ao 11 (.load true 3 (.t 3)),
ao 8 (.alloc [(.list [] true), (.list [] true), (.list [] true)]),
an (.store 3 (.t 8) (.t 11))])
(.seq (.seq (.reg [ao 12 (.load true 15 (.t 4)),
ao 13 (.call 20 [(.t 12)]),
ao 14 (.un .not (.t 13)),
mv 15 14,
ag 16 (.load true 15 (.t 5)) 15 false,
ag 17 (.call 20 [(.t 16)]) 15 false,
ag 18 (.un .not (.t 17)) 15 false,
ao 19 (.pick (.t 15) (.c (.bool true)) (.t 18)),
mv 20 19,
ag 21 (.load true 3 (.t 8)) 20 false,
ag 22 (.call 21 [(.t 21)]) 20 false,
ag 23 (.un .not (.t 22)) 20 false,
ao 24 (.pick (.t 20) (.c (.bool true)) (.t 23))])
(.cond (.t 24)
(.seq (.reg [mv 25 7,
mv 6 25])
.ret)
.skip))
(.seq (.reg [ao 26 (.load true 3 (.t 3)),
ao 27 (.load true 15 (.t 4)),
ao 28 (.load true 15 (.t 5)),
ao 29 (.call 22 [(.t 26), (.t 27), (.t 28)]),
mv 9 29])
(.seq (.reg [mv 30 7,
mv 31 30,
ag 32 (.mov (.t 9)) 31 true,
ag 33 (.load true 3 (.t 8)) 31 true,
ag 34 (.load true 15 (.t 4)) 31 true,
ag 35 (.load true 15 (.t 5)) 31 true,
ag 36 (.call 23 [(.t 33), (.t 34), (.t 35)]) 31 true,
ag 37 (.bin .eql .bool (.t 32) (.t 36)) 31 true,
ao 38 (.pick (.t 31) (.t 37) (.c (.bool false))),
mv 39 38,
ag 40 (.mov (.t 9)) 39 true,
ag 41 (.load true 3 (.t 3)) 39 true,
ag 42 (.load true 15 (.t 5)) 39 true,
ag 43 (.load true 15 (.t 4)) 39 true,
ag 44 (.call 22 [(.t 41), (.t 42), (.t 43)]) 39 true,
ag 45 (.bin .eql .bool (.t 40) (.t 44)) 39 true,
ao 46 (.pick (.t 39) (.t 45) (.c (.bool false))),
mv 47 46,
ag 48 (.load true 3 (.t 3)) 47 true,
ag 49 (.load true 15 (.t 4)) 47 true,
ag 50 (.load true 15 (.t 4)) 47 true,
ag 51 (.call 22 [(.t 48), (.t 49), (.t 50)]) 47 true,
ag 52 (.un .not (.t 51)) 47 true,
ao 53 (.pick (.t 47) (.t 52) (.c (.bool false))),
mv 6 53])
.ret)))))) }
def w7 : WF := { nt := 58, results := [(0, none)], code :=
(.seq (.reg [ao 0 (.mov (.c (.bool false)))])
(.seq (.reg [ao 5 (.build [(.str ⟨#[]⟩), (.list [] true), (.int .i64 0), (.int .i64 0), (.int .i64 0)] [(0, 1, (.c (.str ⟨#[50, 32, 51, 32, 43, 32, 120]⟩))), (3, 1, (.c (.int .i64 4)))]),
ao 1 (.alloc [(.str ⟨#[]⟩), (.list [] true), (.int .i64 0), (.int .i64 0), (.int .i64 0)]),
an (.store 5 (.t 1) (.t 5))])
(.seq (.calm [ao 6 (.build [(.list [] true), (.list [] true), (.list [] true), (.list [] true), (.list [] true), (.list [] true), (.list [] true), (.int .i64 0), (.int .i64 0), (.int .i64 0), (.int .i64 0), (.int .i64 0), (.int .i64 0), (.bool false), (.bool false)] []),
ao 7 (.load true 5 (.t 1)),
⟨(some 8), .call 24 [(.t 6), (.t 7)], none, [0, 1], false⟩,
ao 9 (.load true 5 (.t 1)),
⟨(some 10), .call 24 [(.t 8), (.t 9)], none, [2, 3, 2], false⟩,
⟨(some 2), .alloc [(.list [] true), (.list [] true), (.list [] true), (.list [] true), (.list [] true), (.list [] true), (.list [] true), (.int .i64 0), (.int .i64 0), (.int .i64 0), (.int .i64 0), (.int .i64 0), (.int .i64 0), (.bool false), (.bool false)], none, [], true⟩,
⟨none, .store 15 (.t 2) (.t 10), none, [5, 4, 4, 0, 1, 2, 3, 4, 5], true⟩])
(.seq (.reg [ao 11 (.load true 15 (.t 2)),
ao 12 (.load true 5 (.t 1)),
ao 13 (.call 24 [(.t 11), (.t 12)]),
ao 3 (.alloc [(.list [] true), (.list [] true), (.list [] true), (.list [] true), (.list [] true), (.list [] true), (.list [] true), (.int .i64 0), (.int .i64 0), (.int .i64 0), (.int .i64 0), (.int .i64 0), (.int .i64 0), (.bool false), (.bool false)]),
an (.store 15 (.t 3) (.t 13))])
(.seq (.reg [ao 14 (.load true 15 (.t 3)),
ao 15 (.load true 5 (.t 1)),
ao 16 (.call 24 [(.t 14), (.t 15)]),
ao 4 (.alloc [(.list [] true), (.list [] true), (.list [] true), (.list [] true), (.list [] true), (.list [] true), (.list [] true), (.int .i64 0), (.int .i64 0), (.int .i64 0), (.int .i64 0), (.int .i64 0), (.int .i64 0), (.bool false), (.bool false)]),
an (.store 15 (.t 4) (.t 16))])
(.seq (.reg [ao 17 (.fieldAddr 1 (.t 2)),
ao 18 (.load false 1 (.t 17)),
ao 19 (.len (.t 18)),
ao 20 (.bin .eql .no (.t 19) (.c (.int .i64 2))),
mv 21 20,
ag 22 (.fieldAddr 1 (.t 3)) 21 true,
ag 23 (.load false 1 (.t 22)) 21 true,
ag 24 (.len (.t 23)) 21 true,
ag 25 (.bin .eql .no (.t 24) (.c (.int .i64 1))) 21 true,
ao 26 (.pick (.t 21) (.t 25) (.c (.bool false))),
mv 27 26,
ag 28 (.fieldAddr 1 (.t 3)) 27 true,
ag 29 (.load false 1 (.t 28)) 27 true,
ag 30 (.indexSl 1 (.t 29) (.c (.int .i64 0))) 27 true,
ag 31 (.load false 1 (.t 30)) 27 true,
ag 32 (.bin .eql .no (.t 31) (.c (.int .i64 5))) 27 true,
ao 33 (.pick (.t 27) (.t 32) (.c (.bool false))),
mv 34 33,
ag 35 (.fieldAddr 12 (.t 4)) 34 true,
ag 36 (.load false 1 (.t 35)) 34 true,
ag 37 (.bin .eql .no (.t 36) (.c (.int .i64 (-13)))) 34 true,
ao 38 (.pick (.t 34) (.t 37) (.c (.bool false))),
mv 39 38,
ag 40 (.fieldAddr 1 (.t 4)) 39 true,
ag 41 (.load false 1 (.t 40)) 39 true,
ag 42 (.len (.t 41)) 39 true,
ag 43 (.bin .eql .no (.t 42) (.c (.int .i64 0))) 39 true,
ao 44 (.pick (.t 39) (.t 43) (.c (.bool false))),
mv 45 44,
ag 46 (.load true 15 (.t 4)) 45 true,
ag 47 (.load true 5 (.t 1)) 45 true,
ag 48 (.call 24 [(.t 46), (.t 47)]) 45 true,
ag 49 (.field false 14 1 (.t 48)) 45 true,
ao 50 (.pick (.t 45) (.t 49) (.c (.bool false))),
mv 51 50,
ag 52 (.load true 15 (.t 2)) 51 true,
ag 53 (.load true 5 (.t 1)) 51 true,
ag 54 (.call 9 [(.t 52), (.t 53), (.c (.int .i64 (-7)))]) 51 true,
ag 55 (.field false 12 1 (.t 54)) 51 true,
ag 56 (.bin .eql .no (.t 55) (.c (.int .i64 (-7)))) 51 true,
ao 57 (.pick (.t 51) (.t 56) (.c (.bool false))),
mv 0 57])
.ret)))))) }
def w8 : WF := { nt := 19, results := [(4, none)], code :=
(.seq (.reg [ao 2 (.box (.t 0)),
ao 3 (.box (.t 1)),
ao 4 (.mov (.c (.bool false)))])
(.seq (.reg [ao 5 (.load true 15 (.t 2)),
ao 6 (.call 20 [(.t 5)]),
mv 7 6,
ag 8 (.fieldAddr 0 (.t 3)) 7 true,
ag 9 (.load false 1 (.t 8)) 7 true,
ag 10 (.lenS (.t 9)) 7 true,
ag 11 (.bin .leq .no (.t 10) (.c (.int .i64 200))) 7 true,
ao 12 (.pick (.t 7) (.t 11) (.c (.bool false))),
mv 13 12,
ag 14 (.fieldAddr 1 (.t 3)) 13 true,
ag 15 (.load false 1 (.t 14)) 13 true,
ag 16 (.len (.t 15)) 13 true,
ag 17 (.bin .leq .no (.t 16) (.c (.int .i64 40))) 13 true,
ao 18 (.pick (.t 13) (.t 17) (.c (.bool false))),
mv 4 18])
.ret)) }
def w9 : WF := { nt := 42, results := [(6, some (true, 15))], code :=
(.seq (.reg [ao 3 (.box (.t 0)),
ao 4 (.box (.t 1)),
ao 6 (.alloc [(.list [] true), (.list [] true), (.list [] true), (.list [] true), (.list [] true), (.list [] true), (.list [] true), (.int .i64 0), (.int .i64 0), (.int .i64 0), (.int .i64 0), (.int .i64 0), (.int .i64 0), (.bool false), (.bool false)])])
(.seq (.seq (.reg [ao 8 (.fieldAddr 4 (.t 3)),
ao 9 (.load false 1 (.t 8)),
ao 10 (.len (.t 9)),
ao 11 (.bin .sub .no (.t 10) (.c (.int .i64 1))),
mv 7 11])
(.seq (.reg [mv 12 7,
ao 13 (.bin .geq .no (.t 12) (.c (.int .i64 0))),
mv 14 13,
ag 15 (.fieldAddr 4 (.t 3)) 14 true,
ag 16 (.load false 1 (.t 15)) 14 true,
ag 17 (.mov (.t 7)) 14 true,
ag 18 (.indexSl 4 (.t 16) (.t 17)) 14 true,
ag 19 (.fieldAddr 3 (.t 18)) 14 true,
ag 20 (.load false 1 (.t 19)) 14 true,
ao 21 (.pick (.t 14) (.t 20) (.c (.bool false)))])
(.cond (.t 21)
(.reg [ao 22 (.fieldAddr 4 (.t 3)),
ao 23 (.load false 1 (.t 22)),
mv 24 7,
mv 25 7,
ao 26 (.slice (.sl 4) (.t 23) none (some (.t 24)) (some (.t 25))),
ao 27 (.fieldAddr 4 (.t 3)),
an (.store 1 (.t 27) (.t 26))])
.skip)))
(.seq (.reg [ao 28 (.fieldAddr 1 (.t 3)),
an (.store 1 (.t 28) (.c (.list [] true))),
ao 29 (.fieldAddr 2 (.t 3)),
an (.store 1 (.t 29) (.c (.list [] true))),
ao 30 (.fieldAddr 3 (.t 3)),
an (.store 1 (.t 30) (.c (.list [] true)))])
(.seq (.reg [mv 31 2,
ao 32 (.fieldAddr 7 (.t 3)),
an (.store 1 (.t 32) (.c (.int .i64 0))),
ao 33 (.fieldAddr 13 (.t 3)),
an (.store 1 (.t 33) (.c (.bool false))),
ao 34 (.fieldAddr 12 (.t 3)),
an (.store 1 (.t 34) (.t 31))])
(.seq (.reg [ao 35 (.fieldAddr 0 (.t 4)),
ao 36 (.load false 1 (.t 35)),
ao 37 (.fieldAddr 9 (.t 3)),
ao 38 (.load false 1 (.t 37)),
ao 39 (.call 25 [(.t 36), (.t 38)]),
ao 40 (.fieldAddr 9 (.t 3)),
an (.store 1 (.t 40) (.t 39))])
(.seq (.reg [ao 41 (.load true 15 (.t 3)),
an (.store 15 (.t 6) (.t 41))])
.ret)))))) }
def w10 : WF := { nt := 23, results := [(4, none)], code :=
(.seq (.reg [ao 4 (.mov (.c (.int .i64 0)))])
(.seq (.seq (.reg [mv 6 0,
mv 7 1,
ao 8 (.call 26 [(.t 6), (.t 7)]),
mv 5 8])
(.block 0 (.loop (.seq (.seq (.reg [mv 9 5,
mv 10 0,
ao 11 (.lenS (.t 10)),
ao 12 (.bin .lss .no (.t 9) (.t 11))])
(.cond (.t 12)
.skip
(.exit 0)))
(.seq (.block 1 (.seq (.reg [mv 15 0,
mv 16 5,
ao 17 (.indexStr (.t 15) (.t 16)),
ao 18 (.bin .eql .no (.t 17) (.c (.int .u8 10)))])
(.cond (.t 18)
(.seq (.reg [mv 19 5,
ao 20 (.bin .add .no (.t 19) (.c (.int .i64 1))),
mv 4 20])
.ret)
.skip)))
(.reg [mv 13 5,
ao 14 (.bin .add .no (.t 13) (.c (.int .i64 1))),
mv 5 14]))))))
(.seq (.reg [mv 21 0,
ao 22 (.lenS (.t 21)),
mv 4 22])
.ret))) }
def w11 : WF := { nt := 116, results := [(4, none)], code :=
(.seq (.reg [ao 2 (.box (.t 0)),
ao 3 (.box (.t 1)),
ao 4 (.mov (.c (.bool false)))])
(.seq (.reg [ao 7 (.fieldAddr 7 (.t 2)),
ao 8 (.load false 1 (.t 7)),
ao 9 (.fieldAddr 7 (.t 3)),
ao 10 (.load false 1 (.t 9)),
ao 11 (.bin .eql .no (.t 8) (.t 10)),
mv 12 11,
ag 13 (.fieldAddr 8 (.t 2)) 12 true,
ag 14 (.load false 1 (.t 13)) 12 true,
ag 15 (.fieldAddr 8 (.t 3)) 12 true,
ag 16 (.load false 1 (.t 15)) 12 true,
ag 17 (.bin .eql .no (.t 14) (.t 16)) 12 true,
ao 18 (.pick (.t 12) (.t 17) (.c (.bool false))),
mv 19 18,
ag 20 (.fieldAddr 9 (.t 2)) 19 true,
ag 21 (.load false 1 (.t 20)) 19 true,
ag 22 (.fieldAddr 9 (.t 3)) 19 true,
ag 23 (.load false 1 (.t 22)) 19 true,
ag 24 (.bin .eql .no (.t 21) (.t 23)) 19 true,
ao 25 (.pick (.t 19) (.t 24) (.c (.bool false))),
mv 26 25,
ag 27 (.fieldAddr 10 (.t 2)) 26 true,
ag 28 (.load false 1 (.t 27)) 26 true,
ag 29 (.fieldAddr 10 (.t 3)) 26 true,
ag 30 (.load false 1 (.t 29)) 26 true,
ag 31 (.bin .eql .no (.t 28) (.t 30)) 26 true,
ao 32 (.pick (.t 26) (.t 31) (.c (.bool false))),
mv 33 32,
ag 34 (.fieldAddr 11 (.t 2)) 33 true,
ag 35 (.load false 1 (.t 34)) 33 true,
ag 36 (.fieldAddr 11 (.t 3)) 33 true,
ag 37 (.load false 1 (.t 36)) 33 true,
ag 38 (.bin .eql .no (.t 35) (.t 37)) 33 true,
ao 39 (.pick (.t 33) (.t 38) (.c (.bool false))),
mv 40 39,
ag 41 (.fieldAddr 12 (.t 2)) 40 true,
ag 42 (.load false 1 (.t 41)) 40 true,
ag 43 (.fieldAddr 12 (.t 3)) 40 true,
ag 44 (.load false 1 (.t 43)) 40 true,
ag 45 (.bin .eql .no (.t 42) (.t 44)) 40 true,
ao 46 (.pick (.t 40) (.t 45) (.c (.bool false))),
mv 47 46,
ag 48 (.fieldAddr 13 (.t 2)) 47 true,
ag 49 (.load false 1 (.t 48)) 47 true,
ag 50 (.fieldAddr 13 (.t 3)) 47 true,
ag 51 (.load false 1 (.t 50)) 47 true,
ag 52 (.bin .eql .bool (.t 49) (.t 51)) 47 true,
ao 53 (.pick (.t 47) (.t 52) (.c (.bool false))),
mv 54 53,
ag 55 (.fieldAddr 14 (.t 2)) 54 true,
ag 56 (.load false 1 (.t 55)) 54 true,
ag 57 (.fieldAddr 14 (.t 3)) 54 true,
ag 58 (.load false 1 (.t 57)) 54 true,
ag 59 (.bin .eql .bool (.t 56) (.t 58)) 54 true,
ao 60 (.pick (.t 54) (.t 59) (.c (.bool false))),
mv 5 60])
(.seq (.reg [ao 61 (.fieldAddr 1 (.t 2)),
ao 62 (.load false 1 (.t 61)),
ao 63 (.fieldAddr 1 (.t 3)),
ao 64 (.load false 1 (.t 63)),
ao 65 (.call 27 [(.t 62), (.t 64)]),
mv 66 65,
ag 67 (.fieldAddr 2 (.t 2)) 66 true,
ag 68 (.load false 1 (.t 67)) 66 true,
ag 69 (.fieldAddr 2 (.t 3)) 66 true,
ag 70 (.load false 1 (.t 69)) 66 true,
ag 71 (.call 28 [(.t 68), (.t 70)]) 66 true,
ao 72 (.pick (.t 66) (.t 71) (.c (.bool false))),
mv 73 72,
ag 74 (.fieldAddr 3 (.t 2)) 73 true,
ag 75 (.load false 1 (.t 74)) 73 true,
ag 76 (.fieldAddr 3 (.t 3)) 73 true,
ag 77 (.load false 1 (.t 76)) 73 true,
ag 78 (.call 27 [(.t 75), (.t 77)]) 73 true,
ao 79 (.pick (.t 73) (.t 78) (.c (.bool false))),
mv 80 79,
ag 81 (.fieldAddr 4 (.t 2)) 80 true,
ag 82 (.load false 1 (.t 81)) 80 true,
ag 83 (.fieldAddr 4 (.t 3)) 80 true,
ag 84 (.load false 1 (.t 83)) 80 true,
ag 85 (.call 29 [(.t 82), (.t 84)]) 80 true,
ao 86 (.pick (.t 80) (.t 85) (.c (.bool false))),
mv 87 86,
ag 88 (.fieldAddr 5 (.t 2)) 87 true,
ag 89 (.load false 1 (.t 88)) 87 true,
ag 90 (.fieldAddr 5 (.t 3)) 87 true,
ag 91 (.load false 1 (.t 90)) 87 true,
ag 92 (.call 30 [(.t 89), (.t 91)]) 87 true,
ao 93 (.pick (.t 87) (.t 92) (.c (.bool false))),
mv 6 93])
(.seq (.reg [mv 94 5,
mv 95 94,
ag 96 (.mov (.t 6)) 95 true,
ao 97 (.pick (.t 95) (.t 96) (.c (.bool false))),
mv 98 97,
ag 99 (.fieldAddr 0 (.t 2)) 98 true,
ag 100 (.load false 1 (.t 99)) 98 true,
ag 101 (.conv .b2s (.t 100)) 98 true,
ag 102 (.fieldAddr 0 (.t 3)) 98 true,
ag 103 (.load false 1 (.t 102)) 98 true,
ag 104 (.conv .b2s (.t 103)) 98 true,
ag 105 (.bin .eql .no (.t 101) (.t 104)) 98 true,
ao 106 (.pick (.t 98) (.t 105) (.c (.bool false))),
mv 107 106,
ag 108 (.fieldAddr 6 (.t 2)) 107 true,
ag 109 (.load false 1 (.t 108)) 107 true,
ag 110 (.conv .b2s (.t 109)) 107 true,
ag 111 (.fieldAddr 6 (.t 3)) 107 true,
ag 112 (.load false 1 (.t 111)) 107 true,
ag 113 (.conv .b2s (.t 112)) 107 true,
ag 114 (.bin .eql .no (.t 110) (.t 113)) 107 true,
ao 115 (.pick (.t 107) (.t 114) (.c (.bool false))),
mv 4 115])
.ret)))) }
def w12 : WF := { nt := 44, results := [(0, none)], code :=
(.seq (.reg [ao 0 (.mov (.c (.bool false)))])
(.seq (.reg [ao 3 (.build [(.str ⟨#[]⟩), (.list [] true), (.int .i64 0), (.int .i64 0), (.int .i64 0)] [(0, 1, (.c (.str ⟨#[50, 32, 51]⟩))), (2, 1, (.c (.int .i64 512))), (3, 1, (.c (.int .i64 4)))]),
ao 1 (.alloc [(.str ⟨#[]⟩), (.list [] true), (.int .i64 0), (.int .i64 0), (.int .i64 0)]),
an (.store 5 (.t 1) (.t 3))])
(.seq (.reg [ao 4 (.load true 5 (.t 1)),
ao 5 (.call 31 [(.t 4), (.c (.int .i64 2))]),
ao 2 (.alloc [(.list [] true), (.list [] true), (.list [] true), (.list [] true), (.list [] true), (.list [] true), (.list [] true), (.int .i64 0), (.int .i64 0), (.int .i64 0), (.int .i64 0), (.int .i64 0), (.int .i64 0), (.bool false), (.bool false)]),
an (.store 15 (.t 2) (.t 5))])
(.seq (.reg [ao 6 (.load true 5 (.t 1)),
ao 7 (.call 13 [(.t 6)]),
ao 8 (.bin .eql .no (.t 7) (.c (.int .i64 0))),
mv 9 8,
ag 10 (.build [(.str ⟨#[]⟩), (.list [] true), (.int .i64 0), (.int .i64 0), (.int .i64 0)] []) 9 true,
ag 11 (.call 13 [(.t 10)]) 9 true,
ag 12 (.bin .eql .no (.t 11) (.c (.int .i64 1))) 9 true,
ao 13 (.pick (.t 9) (.t 12) (.c (.bool false))),
mv 14 13,
ag 15 (.fieldAddr 1 (.t 2)) 14 true,
ag 16 (.load false 1 (.t 15)) 14 true,
ag 17 (.len (.t 16)) 14 true,
ag 18 (.bin .eql .no (.t 17) (.c (.int .i64 2))) 14 true,
ao 19 (.pick (.t 14) (.t 18) (.c (.bool false))),
mv 20 19,
ag 21 (.fieldAddr 1 (.t 2)) 20 true,
ag 22 (.load false 1 (.t 21)) 20 true,
ag 23 (.indexSl 1 (.t 22) (.c (.int .i64 1))) 20 true,
ag 24 (.load false 1 (.t 23)) 20 true,
ag 25 (.bin .eql .no (.t 24) (.c (.int .i64 3))) 20 true,
ao 26 (.pick (.t 20) (.t 25) (.c (.bool false))),
mv 27 26,
ag 28 (.fieldAddr 8 (.t 2)) 27 true,
ag 29 (.load false 1 (.t 28)) 27 true,
ag 30 (.bin .eql .no (.t 29) (.c (.int .i64 256))) 27 true,
ao 31 (.pick (.t 27) (.t 30) (.c (.bool false))),
mv 32 31,
ag 33 (.load true 5 (.t 1)) 32 true,
ag 34 (.call 32 [(.t 33)]) 32 true,
ag 35 (.field false 0 1 (.t 34)) 32 true,
ag 36 (.len (.t 35)) 32 true,
ag 37 (.bin .eql .no (.t 36) (.c (.int .i64 512))) 32 true,
ao 38 (.pick (.t 32) (.t 37) (.c (.bool false))),
mv 39 38,
ag 40 (.load true 5 (.t 1)) 39 true,
ag 41 (.call 31 [(.t 40), (.c (.int .i64 3))]) 39 true,
ag 42 (.field false 14 1 (.t 41)) 39 true,
ao 43 (.pick (.t 39) (.t 42) (.c (.bool false))),
mv 0 43])
.ret)))) }
def w13 : WF := { nt := 32, results := [(2, none)], code :=
(.seq (.reg [ao 1 (.box (.t 0)),
ao 2 (.mov (.c (.int .i64 0)))])
(.seq (.reg [ao 3 (.mov (.c (.fn (.func 33) [] [])))])
(.seq (.calm [mv 5 3,
ao 6 (.fieldAddr 2 (.t 1)),
⟨(some 7), .load false 1 (.t 6), none, [1], false⟩,
⟨(some 8), .callv (.t 5) [(.t 7), (.c (.int .i64 512)), (.c (.int .i64 65536))], none, [0, 2], false⟩,
ao 9 (.fieldAddr 2 (.t 1)),
⟨(some 10), .load false 1 (.t 9), none, [4], false⟩,
⟨(some 11), .bin .rem .no (.t 10) (.c (.int .i64 8)), none, [5], false⟩,
⟨(some 12), .bin .eql .no (.t 11) (.c (.int .i64 0)), none, [6], false⟩,
mv 13 3,
ao 14 (.fieldAddr 3 (.t 1)),
⟨(some 15), .load false 1 (.t 14), none, [9], false⟩,
⟨(some 16), .callv (.t 13) [(.t 15), (.c (.int .i64 4)), (.c (.int .i64 256))], none, [8, 10, 3], false⟩,
mv 17 3,
ao 18 (.fieldAddr 4 (.t 1)),
⟨(some 19), .load false 1 (.t 18), none, [13], false⟩,
⟨(some 20), .callv (.t 17) [(.t 19), (.c (.int .i64 0)), (.c (.int .i64 65536))], none, [12, 14, 11], false⟩,
ao 21 (.fieldAddr 0 (.t 1)),
⟨(some 22), .load false 1 (.t 21), none, [16], false⟩,
⟨(some 23), .lenS (.t 22), none, [17], false⟩,
⟨(some 24), .bin .leq .no (.t 23) (.c (.int .i64 4096)), none, [18], false⟩,
ao 25 (.fieldAddr 1 (.t 1)),
⟨(some 26), .load false 1 (.t 25), none, [20], false⟩,
⟨(some 27), .len (.t 26), none, [21], false⟩,
⟨(some 28), .bin .leq .no (.t 27) (.c (.int .i64 4096)), none, [22], false⟩,
⟨(some 29), .build [(.bool false), (.bool false), (.bool false), (.bool false), (.bool false), (.bool false)] [(0, 1, (.t 8)), (1, 1, (.t 12)), (2, 1, (.t 16)), (3, 1, (.t 20)), (4, 1, (.t 24)), (5, 1, (.t 28))], none, [3, 7, 11, 15, 19, 23], false⟩,
⟨(some 4), .alloc [(.bool false), (.bool false), (.bool false), (.bool false), (.bool false), (.bool false)], none, [], true⟩,
⟨none, .store 6 (.t 4) (.t 29), none, [25, 24, 15, 0, 1, 2, 3, 4, 5, 6, 7, 8, 9, 10, 11, 12, 13, 14, 15, 16, 17, 18, 19, 20, 21, 22, 23, 24, 25], true⟩])
(.seq (.seq (.reg [ao 30 (.slice (.arr 6 1) (.t 4) none none none),
ao 31 (.call 34 [(.t 30), (.c (.bool false))])])
(.cond (.t 31)
(.seq (.reg [ao 2 (.mov (.c (.int .i64 1)))])
.ret)
.skip))
(.seq (.reg [ao 2 (.mov (.c (.int .i64 0)))])
.ret))))) }
def w14 : WF := { nt := 47, results := [(2, none)], code :=
(.seq (.reg [ao 1 (.box (.t 0)),
ao 2 (.mov (.c (.int .i64 0)))])
(.seq (.seq (.reg [ao 3 (.fieldAddr 2 (.t 1)),
ao 4 (.load false 1 (.t 3)),
ao 5 (.bin .lss .no (.t 4) (.c (.int .i64 512))),
mv 6 5,
ag 7 (.fieldAddr 2 (.t 1)) 6 false,
ag 8 (.load false 1 (.t 7)) 6 false,
ag 9 (.bin .gtr .no (.t 8) (.c (.int .i64 65536))) 6 false,
ao 10 (.pick (.t 6) (.c (.bool true)) (.t 9)),
mv 11 10,
ag 12 (.fieldAddr 2 (.t 1)) 11 false,
ag 13 (.load false 1 (.t 12)) 11 false,
ag 14 (.bin .rem .no (.t 13) (.c (.int .i64 8))) 11 false,
ag 15 (.bin .neq .no (.t 14) (.c (.int .i64 0))) 11 false,
ao 16 (.pick (.t 11) (.c (.bool true)) (.t 15)),
mv 17 16,
ag 18 (.fieldAddr 3 (.t 1)) 17 false,
ag 19 (.load false 1 (.t 18)) 17 false,
ag 20 (.bin .lss .no (.t 19) (.c (.int .i64 4))) 17 false,
ao 21 (.pick (.t 17) (.c (.bool true)) (.t 20)),
mv 22 21,
ag 23 (.fieldAddr 3 (.t 1)) 22 false,
ag 24 (.load false 1 (.t 23)) 22 false,
ag 25 (.bin .gtr .no (.t 24) (.c (.int .i64 256))) 22 false,
ao 26 (.pick (.t 22) (.c (.bool true)) (.t 25))])
(.cond (.t 26)
(.seq (.reg [ao 2 (.mov (.c (.int .i64 1)))])
.ret)
.skip))
(.seq (.seq (.reg [ao 27 (.fieldAddr 4 (.t 1)),
ao 28 (.load false 1 (.t 27)),
ao 29 (.bin .lss .no (.t 28) (.c (.int .i64 0))),
mv 30 29,
ag 31 (.fieldAddr 4 (.t 1)) 30 false,
ag 32 (.load false 1 (.t 31)) 30 false,
ag 33 (.bin .gtr .no (.t 32) (.c (.int .i64 65536))) 30 false,
ao 34 (.pick (.t 30) (.c (.bool true)) (.t 33)),
mv 35 34,
ag 36 (.fieldAddr 0 (.t 1)) 35 false,
ag 37 (.load false 1 (.t 36)) 35 false,
ag 38 (.lenS (.t 37)) 35 false,
ag 39 (.bin .gtr .no (.t 38) (.c (.int .i64 4096))) 35 false,
ao 40 (.pick (.t 35) (.c (.bool true)) (.t 39)),
mv 41 40,
ag 42 (.fieldAddr 1 (.t 1)) 41 false,
ag 43 (.load false 1 (.t 42)) 41 false,
ag 44 (.len (.t 43)) 41 false,
ag 45 (.bin .gtr .no (.t 44) (.c (.int .i64 4096))) 41 false,
ao 46 (.pick (.t 41) (.c (.bool true)) (.t 45))])
(.cond (.t 46)
(.seq (.reg [ao 2 (.mov (.c (.int .i64 1)))])
.ret)
.skip))
(.seq (.reg [ao 2 (.mov (.c (.int .i64 0)))])
.ret)))) }
def w15 : WF := { nt := 66, results := [(0, none)], code :=
(.seq (.reg [ao 0 (.mov (.c (.bool false)))])
(.seq (.reg [ao 7 (.build [(.str ⟨#[]⟩), (.list [] true), (.int .i64 0), (.int .i64 0), (.int .i64 0)] [(0, 1, (.c (.str ⟨#[97, 10, 98]⟩)))]),
ao 1 (.alloc [(.str ⟨#[]⟩), (.list [] true), (.int .i64 0), (.int .i64 0), (.int .i64 0)]),
an (.store 5 (.t 1) (.t 7))])
(.seq (.reg [ao 8 (.build [(.int .i64 0), (.int .i64 0)] [(0, 1, (.c (.int .i64 256))), (1, 1, (.c (.int .i64 2)))]),
ao 9 (.buildSlice 2 1 [(.int .i64 0), (.int .i64 0)] [(0, 2, (.t 8))]),
ao 10 (.makeSlice 1 1 [(.int .u8 0)] (.c (.int .i64 16)) (.c (.int .i64 16))),
ao 11 (.build [(.list [] true), (.list [] true), (.list [] true), (.list [] true), (.list [] true), (.list [] true), (.list [] true), (.int .i64 0), (.int .i64 0), (.int .i64 0), (.int .i64 0), (.int .i64 0), (.int .i64 0), (.bool false), (.bool false)] [(7, 1, (.c (.int .i64 256))), (5, 1, (.t 9)), (0, 1, (.t 10))]),
ao 2 (.alloc [(.list [] true), (.list [] true), (.list [] true), (.list [] true), (.list [] true), (.list [] true), (.list [] true), (.int .i64 0), (.int .i64 0), (.int .i64 0), (.int .i64 0), (.int .i64 0), (.int .i64 0), (.bool false), (.bool false)]),
an (.store 15 (.t 2) (.t 11))])
(.seq (.reg [ao 12 (.makeSlice 1 1 [(.int .u8 0)] (.c (.int .i64 15)) (.c (.int .i64 15))),
ao 13 (.buildSlice 1 1 [(.int .u8 0)] [(0, 1, (.c (.int .u8 1)))]),
ao 14 (.append 1 1 none (.t 12) (.t 13)),
ao 15 (.build [(.list [] true), (.list [] true), (.list [] true), (.list [] true), (.list [] true), (.list [] true), (.list [] true), (.int .i64 0), (.int .i64 0), (.int .i64 0), (.int .i64 0), (.int .i64 0), (.int .i64 0), (.bool false), (.bool false)] [(0, 1, (.t 14))]),
ao 3 (.alloc [(.list [] true), (.list [] true), (.list [] true), (.list [] true), (.list [] true), (.list [] true), (.list [] true), (.int .i64 0), (.int .i64 0), (.int .i64 0), (.int .i64 0), (.int .i64 0), (.int .i64 0), (.bool false), (.bool false)]),
an (.store 15 (.t 3) (.t 15))])
(.seq (.reg [ao 17 (.load true 15 (.t 2)),
ao 18 (.load true 5 (.t 1)),
ao 19 (.call 16 [(.t 17), (.t 18), (.c (.int .i64 256))]),
mv 16 19,
ao 20 (.extract 0 (.t 16)),
ao 21 (.extract 1 (.t 16)),
ao 22 (.extract 2 (.t 16)),
mv 4 20,
mv 5 21,
mv 6 22])
(.seq (.reg [mv 23 4,
ao 24 (.bin .eql .no (.t 23) (.c (.int .i64 2))),
mv 25 24,
ag 26 (.mov (.t 5)) 25 true,
ag 27 (.bin .eql .no (.t 26) (.c (.int .i64 1))) 25 true,
ao 28 (.pick (.t 25) (.t 27) (.c (.bool false))),
mv 29 28,
ag 30 (.mov (.t 6)) 29 true,
ao 31 (.pick (.t 29) (.t 30) (.c (.bool false))),
mv 32 31,
ag 33 (.load true 15 (.t 2)) 32 true,
ag 34 (.load true 5 (.t 1)) 32 true,
ag 35 (.call 18 [(.t 33), (.t 34)]) 32 true,
ag 36 (.bin .eql .no (.t 35) (.c (.int .i64 2))) 32 true,
ao 37 (.pick (.t 32) (.t 36) (.c (.bool false))),
mv 38 37,
ag 39 (.buildSlice 1 1 [(.int .i64 0)] [(0, 1, (.c (.int .i64 256)))]) 38 true,
ag 40 (.build [(.list [] true), (.list [] true), (.list [] true)] [(0, 1, (.t 39))]) 38 true,
ag 41 (.load true 15 (.t 2)) 38 true,
ag 42 (.load true 5 (.t 1)) 38 true,
ag 43 (.call 35 [(.t 40), (.t 41), (.t 42)]) 38 true,
ao 44 (.pick (.t 38) (.t 43) (.c (.bool false))),
mv 45 44,
ag 46 (.build [(.list [] true), (.list [] true), (.list [] true)] []) 45 true,
ag 47 (.load true 15 (.t 2)) 45 true,
ag 48 (.load true 5 (.t 1)) 45 true,
ag 49 (.call 35 [(.t 46), (.t 47), (.t 48)]) 45 true,
ag 50 (.un .not (.t 49)) 45 true,
ao 51 (.pick (.t 45) (.t 50) (.c (.bool false))),
mv 52 51,
ag 53 (.buildSlice 1 1 [(.int .i64 0)] [(0, 1, (.c (.int .i64 8)))]) 52 true,
ag 54 (.build [(.list [] true), (.list [] true), (.list [] true)] [(2, 1, (.t 53))]) 52 true,
ag 55 (.load true 15 (.t 2)) 52 true,
ag 56 (.load true 15 (.t 3)) 52 true,
ag 57 (.call 22 [(.t 54), (.t 55), (.t 56)]) 52 true,
ao 58 (.pick (.t 52) (.t 57) (.c (.bool false))),
mv 59 58,
ag 60 (.buildSlice 1 1 [(.int .i64 0)] [(0, 1, (.c (.int .i64 2)))]) 59 true,
ag 61 (.build [(.list [] true), (.list [] true), (.list [] true)] [(1, 1, (.t 60))]) 59 true,
ag 62 (.load true 15 (.t 2)) 59 true,
ag 63 (.load true 5 (.t 1)) 59 true,
ag 64 (.call 36 [(.t 61), (.t 62), (.t 63)]) 59 true,
ao 65 (.pick (.t 59) (.t 64) (.c (.bool false))),
mv 0 65])
.ret)))))) }
def w16 : WF := { nt := 32, results := [(6, none), (7, none), (8, none)], code :=
(.seq (.reg [ao 3 (.box (.t 0)),
ao 4 (.box (.t 1)),
ao 5 (.box (.t 2)),
ao 6 (.mov (.c (.int .i64 0))),
ao 7 (.mov (.c (.int .i64 0))),
ao 8 (.mov (.c (.bool false)))])
(.seq (.reg [ao 12 (.fieldAddr 5 (.t 3)),
ao 13 (.load false 1 (.t 12)),
ao 14 (.makeFunc (.func 38) [] [(.t 5)]),
ao 15 (.call 37 [(.t 13), (.t 14)]),
mv 9 15])
(.seq (.seq (.reg [mv 16 9,
ao 17 (.bin .lss .no (.t 16) (.c (.int .i64 0)))])
(.cond (.t 17)
(.seq (.reg [ao 6 (.mov (.c (.int .i64 0))),
ao 7 (.mov (.c (.int .i64 0))),
ao 8 (.mov (.c (.bool false)))])
.ret)
.skip))
(.seq (.calm [ao 19 (.fieldAddr 0 (.t 4)),
⟨(some 20), .load false 1 (.t 19), none, [0], false⟩,
ao 21 (.fieldAddr 5 (.t 3)),
⟨(some 22), .load false 1 (.t 21), none, [2], false⟩,
mv 23 9,
⟨(some 24), .indexSl 2 (.t 22) (.t 23), none, [3, 4], false⟩,
⟨(some 25), .fieldAddr 1 (.t 24), none, [5], false⟩,
⟨(some 26), .load false 1 (.t 25), none, [6], false⟩,
⟨(some 27), .call 39 [(.t 20), (.t 26)], none, [1, 7], false⟩,
⟨(some 18), .mov (.t 27), none, [8], false⟩,
⟨(some 28), .extract 0 (.t 18), none, [9], false⟩,
⟨(some 29), .extract 1 (.t 18), none, [9], false⟩,
⟨(some 10), .mov (.t 28), none, [10, 8, 0, 1, 2, 3, 4, 5, 6, 7, 8, 9, 10], false⟩,
⟨(some 11), .mov (.t 29), none, [11, 12, 0, 1, 2, 3, 4, 5, 6, 7, 8, 9, 10, 11, 12], false⟩])
(.seq (.reg [mv 30 10,
mv 31 11,
mv 6 30,
mv 7 31,
ao 8 (.mov (.c (.bool true)))])
.ret))))) }
def w17 : WF := { nt := 41, results := [(6, some (true, 3))], code :=
(.seq (.reg [ao 3 (.box (.t 0)),
ao 4 (.box (.t 1)),
ao 6 (.alloc [(.int .i64 0), (.int .i64 0), (.bool false)])])
(.seq (.seq (.reg [ao 7 (.mov (.c (.int .i64 0)))])
(.block 0 (.loop (.seq (.seq (.reg [mv 10 7,
ao 11 (.fieldAddr 5 (.t 3)),
ao 12 (.load false 1 (.t 11)),
ao 13 (.len (.t 12)),
ao 14 (.bin .lss .no (.t 10) (.t 13))])
(.cond (.t 14)
.skip
(.exit 0)))
(.seq (.block 1 (.seq (.reg [ao 17 (.fieldAddr 5 (.t 3)),
ao 18 (.load false 1 (.t 17)),
mv 19 7,
ao 20 (.indexSl 2 (.t 18) (.t 19)),
ao 21 (.fieldAddr 0 (.t 20)),
ao 22 (.load false 1 (.t 21)),
mv 23 2,
ao 24 (.bin .eql .no (.t 22) (.t 23))])
(.cond (.t 24)
(.seq (.calm [ao 26 (.fieldAddr 0 (.t 4)),
⟨(some 27), .load false 1 (.t 26), none, [0], false⟩,
ao 28 (.fieldAddr 5 (.t 3)),
⟨(some 29), .load false 1 (.t 28), none, [2], false⟩,
mv 30 7,
⟨(some 31), .indexSl 2 (.t 29) (.t 30), none, [3, 4], false⟩,
⟨(some 32), .fieldAddr 1 (.t 31), none, [5], false⟩,
⟨(some 33), .load false 1 (.t 32), none, [6], false⟩,
⟨(some 34), .call 40 [(.t 27), (.t 33)], none, [1, 7], false⟩,
⟨(some 25), .mov (.t 34), none, [8], false⟩,
⟨(some 35), .extract 0 (.t 25), none, [9], false⟩,
⟨(some 36), .extract 1 (.t 25), none, [9], false⟩,
⟨(some 8), .mov (.t 35), none, [10, 8, 0, 1, 2, 3, 4, 5, 6, 7, 8, 9, 10], false⟩,
⟨(some 9), .mov (.t 36), none, [11, 12, 0, 1, 2, 3, 4, 5, 6, 7, 8, 9, 10, 11, 12], false⟩])
(.seq (.reg [mv 37 8,
mv 38 9,
ao 39 (.build [(.int .i64 0), (.int .i64 0), (.bool false)] [(0, 1, (.t 37)), (1, 1, (.t 38)), (2, 1, (.c (.bool true)))]),
an (.store 3 (.t 6) (.t 39))])
.ret))
.skip)))
(.reg [mv 15 7,
ao 16 (.bin .add .no (.t 15) (.c (.int .i64 1))),
mv 7 16]))))))
(.seq (.reg [ao 40 (.build [(.int .i64 0), (.int .i64 0), (.bool false)] []),
an (.store 3 (.t 6) (.t 40))])
.ret))) }
def w18 : WF := { nt := 45, results := [(4, none)], code :=
(.seq (.reg [ao 2 (.box (.t 0)),
ao 3 (.box (.t 1)),
ao 4 (.mov (.c (.int .i64 0)))])
(.seq (.seq (.reg [ao 13 (.fieldAddr 7 (.t 2)),
ao 14 (.load false 1 (.t 13)),
ao 15 (.bin .neq .no (.t 14) (.c (.int .i64 0)))])
(.cond (.t 15)
(.seq (.reg [ao 17 (.load true 15 (.t 2)),
ao 18 (.load true 5 (.t 3)),
ao 19 (.fieldAddr 7 (.t 2)),
ao 20 (.load false 1 (.t 19)),
ao 21 (.call 16 [(.t 17), (.t 18), (.t 20)]),
mv 16 21,
ao 22 (.extract 0 (.t 16)),
ao 23 (.extract 1 (.t 16)),
ao 24 (.extract 2 (.t 16)),
mv 5 22,
mv 6 23,
mv 7 24])
(.seq (.reg [mv 25 5,
mv 4 25])
.ret))
.skip))
(.seq (.reg [ao 27 (.fieldAddr 0 (.t 3)),
ao 28 (.load false 1 (.t 27)),
ao 29 (.fieldAddr 9 (.t 2)),
ao 30 (.load false 1 (.t 29)),
ao 31 (.call 41 [(.t 28), (.t 30)]),
mv 26 31,
ao 32 (.extract 0 (.t 26)),
ao 33 (.extract 1 (.t 26)),
ao 34 (.extract 2 (.t 26)),
mv 8 32,
mv 9 33,
mv 10 34])
(.seq (.seq (.reg [mv 35 8,
ao 36 (.bin .eql .no (.t 35) (.c (.str ⟨#[]⟩)))])
(.cond (.t 36)
(.seq (.reg [ao 4 (.mov (.c (.int .i64 0)))])
.ret)
.skip))
(.seq (.reg [ao 38 (.fieldAddr 0 (.t 3)),
ao 39 (.load false 1 (.t 38)),
mv 40 9,
ao 41 (.call 39 [(.t 39), (.t 40)]),
mv 37 41,
ao 42 (.extract 0 (.t 37)),
ao 43 (.extract 1 (.t 37)),
mv 11 42,
mv 12 43])
(.seq (.reg [mv 44 11,
mv 4 44])
.ret)))))) }
def w19 : WF := { nt := 39, results := [(4, none)], code :=
(.seq (.reg [ao 2 (.box (.t 0)),
ao 3 (.box (.t 1)),
ao 4 (.mov (.c (.int .i64 0)))])
(.seq (.seq (.reg [ao 10 (.fieldAddr 7 (.t 2)),
ao 11 (.load false 1 (.t 10)),
ao 12 (.bin .neq .no (.t 11) (.c (.int .i64 0)))])
(.cond (.t 12)
(.seq (.reg [ao 13 (.load true 15 (.t 2)),
ao 14 (.load true 5 (.t 3)),
ao 15 (.fieldAddr 7 (.t 2)),
ao 16 (.load false 1 (.t 15)),
ao 17 (.call 17 [(.t 13), (.t 14), (.t 16)]),
ao 18 (.field false 0 1 (.t 17)),
mv 4 18])
.ret)
.skip))
(.seq (.reg [ao 20 (.fieldAddr 0 (.t 3)),
ao 21 (.load false 1 (.t 20)),
ao 22 (.fieldAddr 9 (.t 2)),
ao 23 (.load false 1 (.t 22)),
ao 24 (.call 42 [(.t 21), (.t 23)]),
mv 19 24,
ao 25 (.extract 0 (.t 19)),
ao 26 (.extract 1 (.t 19)),
ao 27 (.extract 2 (.t 19)),
mv 5 25,
mv 6 26,
mv 7 27])
(.seq (.seq (.reg [mv 28 5,
ao 29 (.lenS (.t 28)),
ao 30 (.bin .eql .no (.t 29) (.c (.int .i64 0)))])
(.cond (.t 30)
(.seq (.reg [ao 4 (.mov (.c (.int .i64 0)))])
.ret)
.skip))
(.seq (.reg [ao 32 (.fieldAddr 0 (.t 3)),
ao 33 (.load false 1 (.t 32)),
mv 34 6,
ao 35 (.call 40 [(.t 33), (.t 34)]),
mv 31 35,
ao 36 (.extract 0 (.t 31)),
ao 37 (.extract 1 (.t 31)),
mv 8 36,
mv 9 37])
(.seq (.reg [mv 38 8,
mv 4 38])
.ret)))))) }
def w20 : WF := { nt := 63, results := [(2, none)], code :=
(.seq (.reg [ao 1 (.box (.t 0)),
ao 2 (.mov (.c (.bool false)))])
(.seq (.seq (.reg [ao 3 (.mov (.c (.int .i64 0)))])
(.block 0 (.loop (.seq (.seq (.reg [mv 4 3,
ao 5 (.fieldAddr 4 (.t 1)),
ao 6 (.load false 1 (.t 5)),
ao 7 (.len (.t 6)),
ao 8 (.bin .lss .no (.t 4) (.t 7)),
mv 9 8,
ag 10 (.mov (.t 3)) 9 true,
ag 11 (.bin .lss .no (.t 10) (.c (.int .i64 41))) 9 true,
ao 12 (.pick (.t 9) (.t 11) (.c (.bool false)))])
(.cond (.t 12)
.skip
(.exit 0)))
(.seq (.block 1 (.seq (.reg [ao 15 (.fieldAddr 4 (.t 1)),
ao 16 (.load false 1 (.t 15)),
mv 17 3,
ao 18 (.indexSl 4 (.t 16) (.t 17)),
ao 19 (.fieldAddr 0 (.t 18)),
ao 20 (.load false 1 (.t 19)),
ao 21 (.lenS (.t 20)),
ao 22 (.bin .gtr .no (.t 21) (.c (.int .i64 60)))])
(.cond (.t 22)
(.seq (.reg [ao 2 (.mov (.c (.bool false)))])
.ret)
.skip)))
(.reg [mv 13 3,
ao 14 (.bin .add .no (.t 13) (.c (.int .i64 1))),
mv 3 14]))))))
(.seq (.reg [ao 23 (.fieldAddr 0 (.t 1)),
ao 24 (.load false 1 (.t 23)),
ao 25 (.len (.t 24)),
ao 26 (.bin .leq .no (.t 25) (.c (.int .i64 600))),
mv 27 26,
ag 28 (.fieldAddr 1 (.t 1)) 27 true,
ag 29 (.load false 1 (.t 28)) 27 true,
ag 30 (.len (.t 29)) 27 true,
ag 31 (.bin .leq .no (.t 30) (.c (.int .i64 40))) 27 true,
ao 32 (.pick (.t 27) (.t 31) (.c (.bool false))),
mv 33 32,
ag 34 (.fieldAddr 2 (.t 1)) 33 true,
ag 35 (.load false 1 (.t 34)) 33 true,
ag 36 (.len (.t 35)) 33 true,
ag 37 (.bin .leq .no (.t 36) (.c (.int .i64 40))) 33 true,
ao 38 (.pick (.t 33) (.t 37) (.c (.bool false))),
mv 39 38,
ag 40 (.fieldAddr 3 (.t 1)) 39 true,
ag 41 (.load false 1 (.t 40)) 39 true,
ag 42 (.len (.t 41)) 39 true,
ag 43 (.bin .leq .no (.t 42) (.c (.int .i64 200))) 39 true,
ao 44 (.pick (.t 39) (.t 43) (.c (.bool false))),
mv 45 44,
ag 46 (.fieldAddr 4 (.t 1)) 45 true,
ag 47 (.load false 1 (.t 46)) 45 true,
ag 48 (.len (.t 47)) 45 true,
ag 49 (.bin .leq .no (.t 48) (.c (.int .i64 40))) 45 true,
ao 50 (.pick (.t 45) (.t 49) (.c (.bool false))),
mv 51 50,
ag 52 (.fieldAddr 5 (.t 1)) 51 true,
ag 53 (.load false 1 (.t 52)) 51 true,
ag 54 (.len (.t 53)) 51 true,
ag 55 (.bin .leq .no (.t 54) (.c (.int .i64 100))) 51 true,
ao 56 (.pick (.t 51) (.t 55) (.c (.bool false))),
mv 57 56,
ag 58 (.fieldAddr 6 (.t 1)) 57 true,
ag 59 (.load false 1 (.t 58)) 57 true,
ag 60 (.len (.t 59)) 57 true,
ag 61 (.bin .leq .no (.t 60) (.c (.int .i64 200))) 57 true,
ao 62 (.pick (.t 57) (.t 61) (.c (.bool false))),
mv 2 62])
.ret))) }
def w21 : WF := { nt := 19, results := [(2, none)], code :=
(.seq (.reg [ao 1 (.box (.t 0)),
ao 2 (.mov (.c (.bool false)))])
(.seq (.reg [ao 3 (.fieldAddr 0 (.t 1)),
ao 4 (.load false 1 (.t 3)),
ao 5 (.len (.t 4)),
ao 6 (.bin .leq .no (.t 5) (.c (.int .i64 30))),
mv 7 6,
ag 8 (.fieldAddr 1 (.t 1)) 7 true,
ag 9 (.load false 1 (.t 8)) 7 true,
ag 10 (.len (.t 9)) 7 true,
ag 11 (.bin .leq .no (.t 10) (.c (.int .i64 30))) 7 true,
ao 12 (.pick (.t 7) (.t 11) (.c (.bool false))),
mv 13 12,
ag 14 (.fieldAddr 2 (.t 1)) 13 true,
ag 15 (.load false 1 (.t 14)) 13 true,
ag 16 (.len (.t 15)) 13 true,
ag 17 (.bin .leq .no (.t 16) (.c (.int .i64 30))) 13 true,
ao 18 (.pick (.t 13) (.t 17) (.c (.bool false))),
mv 2 18])
.ret)) }
def w22 : WF := { nt := 11, results := [(6, none)], code :=
(.seq (.reg [ao 3 (.box (.t 0)),
ao 4 (.box (.t 1)),
ao 5 (.box (.t 2)),
ao 6 (.mov (.c (.bool false)))])
(.seq (.reg [ao 7 (.fieldAddr 2 (.t 3)),
ao 8 (.load false 1 (.t 7)),
ao 9 (.makeFunc (.func 44) [] [(.t 4), (.t 5)]),
ao 10 (.call 43 [(.t 8), (.t 9)]),
mv 6 10])
.ret)) }
def w23 : WF := { nt := 49, results := [(6, none)], code :=
(.seq (.reg [ao 3 (.box (.t 0)),
ao 4 (.box (.t 1)),
ao 5 (.box (.t 2)),
ao 6 (.mov (.c (.bool false)))])
(.seq (.seq (.reg [ao 7 (.mov (.c (.int .i64 0)))])
(.block 0 (.loop (.seq (.seq (.reg [mv 12 7,
ao 13 (.fieldAddr 2 (.t 3)),
ao 14 (.load false 1 (.t 13)),
ao 15 (.len (.t 14)),
ao 16 (.bin .lss .no (.t 12) (.t 15))])
(.cond (.t 16)
.skip
(.exit 0)))
(.seq (.block 1 (.seq (.calm [ao 20 (.fieldAddr 0 (.t 4)),
⟨(some 21), .load false 1 (.t 20), none, [0], false⟩,
ao 22 (.fieldAddr 2 (.t 3)),
⟨(some 23), .load false 1 (.t 22), none, [2], false⟩,
mv 24 7,
⟨(some 25), .indexSl 1 (.t 23) (.t 24), none, [3, 4], false⟩,
⟨(some 26), .load false 1 (.t 25), none, [5], false⟩,
⟨(some 27), .call 46 [(.t 21), (.t 26)], none, [1, 6], false⟩,
⟨(some 19), .mov (.t 27), none, [7], false⟩,
⟨(some 28), .extract 0 (.t 19), none, [8], false⟩,
⟨(some 29), .extract 1 (.t 19), none, [8], false⟩,
⟨(some 8), .mov (.t 28), none, [9, 7, 0, 1, 2, 3, 4, 5, 6, 7, 8, 9], false⟩,
⟨(some 9), .mov (.t 29), none, [10, 11, 0, 1, 2, 3, 4, 5, 6, 7, 8, 9, 10, 11], false⟩])
(.seq (.calm [ao 31 (.fieldAddr 0 (.t 5)),
⟨(some 32), .load false 1 (.t 31), none, [0], false⟩,
ao 33 (.fieldAddr 2 (.t 3)),
⟨(some 34), .load false 1 (.t 33), none, [2], false⟩,
mv 35 7,
⟨(some 36), .indexSl 1 (.t 34) (.t 35), none, [3, 4], false⟩,
⟨(some 37), .load false 1 (.t 36), none, [5], false⟩,
⟨(some 38), .call 46 [(.t 32), (.t 37)], none, [1, 6], false⟩,
⟨(some 30), .mov (.t 38), none, [7], false⟩,
⟨(some 39), .extract 0 (.t 30), none, [8], false⟩,
⟨(some 40), .extract 1 (.t 30), none, [8], false⟩,
⟨(some 10), .mov (.t 39), none, [9, 7, 0, 1, 2, 3, 4, 5, 6, 7, 8, 9], false⟩,
⟨(some 11), .mov (.t 40), none, [10, 11, 0, 1, 2, 3, 4, 5, 6, 7, 8, 9, 10, 11], false⟩])
(.seq (.reg [mv 41 8,
mv 42 10,
ao 43 (.bin .neq .no (.t 41) (.t 42)),
mv 44 43,
ag 45 (.mov (.t 9)) 44 false,
ag 46 (.mov (.t 11)) 44 false,
ag 47 (.bin .neq .no (.t 45) (.t 46)) 44 false,
ao 48 (.pick (.t 44) (.c (.bool true)) (.t 47))])
(.cond (.t 48)
(.seq (.reg [ao 6 (.mov (.c (.bool true)))])
.ret)
.skip)))))
(.reg [mv 17 7,
ao 18 (.bin .add .no (.t 17) (.c (.int .i64 1))),
mv 7 18]))))))
(.seq (.reg [ao 6 (.mov (.c (.bool false)))])
.ret))) }
def w24 : WF := { nt := 55, results := [(4, some (true, 15))], code := .skip, dfr := some ([(.reg [ao 2 (.box (.t 0)),
ao 3 (.box (.t 1)),
ao 4 (.alloc [(.list [] true), (.list [] true), (.list [] true), (.list [] true), (.list [] true), (.list [] true), (.list [] true), (.int .i64 0), (.int .i64 0), (.int .i64 0), (.int .i64 0), (.int .i64 0), (.int .i64 0), (.bool false), (.bool false)])]),
(.seq (.reg [ao 11 (.fieldAddr 14 (.t 2)),
ao 12 (.load false 1 (.t 11))])
(.cond (.t 12)
(.seq (.reg [ao 13 (.load true 15 (.t 2)),
an (.store 15 (.t 4) (.t 13))])
.ret)
.skip)),
(.reg [ao 14 (.load true 15 (.t 2)),
ao 15 (.load true 5 (.t 3)),
ao 16 (.build [(.list [] true), (.list [] true), (.list [] true), (.list [] true), (.list [] true), (.list [] true), (.list [] true), (.int .i64 0), (.int .i64 0), (.int .i64 0), (.int .i64 0), (.int .i64 0), (.int .i64 0), (.bool false), (.bool false), (.str ⟨#[]⟩), (.list [] true), (.int .i64 0), (.int .i64 0), (.int .i64 0)] [(0, 15, (.t 14)), (15, 5, (.t 15))]),
ao 5 (.alloc [(.list [] true), (.list [] true), (.list [] true), (.list [] true), (.list [] true), (.list [] true), (.list [] true), (.int .i64 0), (.int .i64 0), (.int .i64 0), (.int .i64 0), (.int .i64 0), (.int .i64 0), (.bool false), (.bool false), (.str ⟨#[]⟩), (.list [] true), (.int .i64 0), (.int .i64 0), (.int .i64 0)]),
an (.store 20 (.t 5) (.t 16))]),
(.reg [ao 6 (.alloc [(.list [] true), (.list [] true), (.list [] true), (.list [] true), (.list [] true), (.list [] true), (.list [] true), (.int .i64 0), (.int .i64 0), (.int .i64 0), (.int .i64 0), (.int .i64 0), (.int .i64 0), (.bool false), (.bool false)])]),
(.reg [ao 7 (.alloc [(.int .i64 0)])])],
[ao 17 (.makeFunc (.func 47) [] [(.t 5), (.t 6), (.t 7), (.t 4)])],
(.t 17),
(.seq (.seq (.reg [ao 18 (.fieldAddr 7 (.t 2)),
ao 19 (.load false 1 (.t 18)),
ao 20 (.bin .neq .no (.t 19) (.c (.int .i64 0)))])
(.cond (.t 20)
(.seq (.reg [ao 22 (.load true 20 (.t 5)),
ao 23 (.call 49 [(.t 22)]),
mv 21 23,
ao 24 (.extract 0 (.t 21)),
ao 25 (.extract 1 (.t 21)),
an (.store 15 (.t 6) (.t 24)),
an (.store 1 (.t 7) (.t 25))])
(.seq (.reg [ao 26 (.load true 15 (.t 6)),
an (.store 15 (.t 4) (.t 26))])
.ret))
.skip))
(.seq (.reg [ao 28 (.fieldAddr 0 (.t 3)),
ao 29 (.load false 1 (.t 28)),
ao 30 (.fieldAddr 9 (.t 2)),
ao 31 (.load false 1 (.t 30)),
ao 32 (.call 41 [(.t 29), (.t 31)]),
mv 27 32,
ao 33 (.extract 0 (.t 27)),
ao 34 (.extract 1 (.t 27)),
ao 35 (.extract 2 (.t 27)),
mv 8 33,
mv 9 34,
mv 10 35])
(.seq (.reg [mv 36 9,
mv 37 10,
ao 38 (.fieldAddr 0 (.t 5)),
ao 39 (.fieldAddr 10 (.t 38)),
an (.store 1 (.t 39) (.t 36)),
ao 40 (.fieldAddr 0 (.t 5)),
ao 41 (.fieldAddr 9 (.t 40)),
an (.store 1 (.t 41) (.t 37))])
(.seq (.seq (.reg [mv 42 8,
ao 43 (.bin .eql .no (.t 42) (.c (.str ⟨#[]⟩)))])
(.cond (.t 43)
(.seq (.reg [ao 44 (.fieldAddr 0 (.t 5)),
ao 45 (.load true 15 (.t 44)),
an (.store 15 (.t 6) (.t 45))])
(.seq (.reg [ao 46 (.fieldAddr 14 (.t 6)),
an (.store 1 (.t 46) (.c (.bool true)))])
(.seq (.reg [ao 47 (.load true 15 (.t 6)),
an (.store 15 (.t 4) (.t 47))])
.ret)))
.skip))
(.seq (.reg [ao 49 (.load true 20 (.t 5)),
mv 50 8,
ao 51 (.call 50 [(.t 49), (.t 50)]),
mv 48 51,
ao 52 (.extract 0 (.t 48)),
ao 53 (.extract 1 (.t 48)),
an (.store 15 (.t 6) (.t 52)),
an (.store 1 (.t 7) (.t 53))])
(.seq (.reg [ao 54 (.load true 15 (.t 6)),
an (.store 15 (.t 4) (.t 54))])
.ret))))))) }
def w25 : WF := { nt := 24, results := [(4, none)], code :=
(.seq (.reg [ao 4 (.mov (.c (.int .i64 0)))])
(.seq (.reg [mv 9 0,
mv 10 1,
ao 11 (.call 51 [(.t 9), (.t 10)]),
mv 8 11,
ao 12 (.extract 0 (.t 8)),
ao 13 (.extract 1 (.t 8)),
mv 5 12,
mv 6 13])
(.seq (.reg [mv 14 5,
ao 15 (.call 52 [(.t 14), (.c (.int .u8 10))]),
ao 16 (.bin .add .no (.t 15) (.c (.int .i64 1))),
mv 7 16])
(.seq (.seq (.reg [mv 17 7,
ao 18 (.bin .eql .no (.t 17) (.c (.int .i64 0)))])
(.cond (.t 18)
(.reg [mv 19 5,
ao 20 (.lenS (.t 19)),
mv 7 20])
.skip))
(.seq (.reg [mv 21 6,
mv 22 7,
ao 23 (.bin .add .no (.t 21) (.t 22)),
mv 4 23])
.ret))))) }
def w26 : WF := { nt := 14, results := [(4, none)], code :=
(.seq (.reg [ao 4 (.mov (.c (.int .i64 0)))])
(.seq (.seq (.reg [mv 5 1,
ao 6 (.bin .lss .no (.t 5) (.c (.int .i64 0)))])
(.cond (.t 6)
(.seq (.reg [ao 4 (.mov (.c (.int .i64 0)))])
.ret)
.skip))
(.seq (.seq (.reg [mv 7 1,
mv 8 0,
ao 9 (.lenS (.t 8)),
ao 10 (.bin .gtr .no (.t 7) (.t 9))])
(.cond (.t 10)
(.seq (.reg [mv 11 0,
ao 12 (.lenS (.t 11)),
mv 4 12])
.ret)
.skip))
(.seq (.reg [mv 13 1,
mv 4 13])
.ret)))) }
def w27 : WF := { nt := 26, results := [(4, none)], code :=
(.seq (.reg [ao 4 (.mov (.c (.bool false)))])
(.seq (.seq (.reg [mv 6 0,
ao 7 (.len (.t 6)),
mv 8 1,
ao 9 (.len (.t 8)),
ao 10 (.bin .neq .no (.t 7) (.t 9))])
(.cond (.t 10)
(.seq (.reg [ao 4 (.mov (.c (.bool false)))])
.ret)
.skip))
(.seq (.seq (.reg [ao 5 (.mov (.c (.int .i64 0)))])
(.block 0 (.loop (.seq (.seq (.reg [mv 11 5,
mv 12 0,
ao 13 (.len (.t 12)),
ao 14 (.bin .lss .no (.t 11) (.t 13))])
(.cond (.t 14)
.skip
(.exit 0)))
(.seq (.block 1 (.seq (.calm [mv 17 0,
mv 18 5,
⟨(some 19), .indexSl 1 (.t 17) (.t 18), none, [0, 1], false⟩,
⟨(some 20), .load false 1 (.t 19), none, [2], false⟩,
mv 21 1,
mv 22 5,
⟨(some 23), .indexSl 1 (.t 21) (.t 22), none, [4, 5], false⟩,
⟨(some 24), .load false 1 (.t 23), none, [6], false⟩,
⟨(some 25), .bin .neq .no (.t 20) (.t 24), none, [3, 7], false⟩])
(.cond (.t 25)
(.seq (.reg [ao 4 (.mov (.c (.bool false)))])
.ret)
.skip)))
(.reg [mv 15 5,
ao 16 (.bin .add .no (.t 15) (.c (.int .i64 1))),
mv 5 16]))))))
(.seq (.reg [ao 4 (.mov (.c (.bool true)))])
.ret)))) }
def w28 : WF := { nt := 26, results := [(4, none)], code :=
(.seq (.reg [ao 4 (.mov (.c (.bool false)))])
(.seq (.seq (.reg [mv 6 0,
ao 7 (.len (.t 6)),
mv 8 1,
ao 9 (.len (.t 8)),
ao 10 (.bin .neq .no (.t 7) (.t 9))])
(.cond (.t 10)
(.seq (.reg [ao 4 (.mov (.c (.bool false)))])
.ret)
.skip))
(.seq (.seq (.reg [ao 5 (.mov (.c (.int .i64 0)))])
(.block 0 (.loop (.seq (.seq (.reg [mv 11 5,
mv 12 0,
ao 13 (.len (.t 12)),
ao 14 (.bin .lss .no (.t 11) (.t 13))])
(.cond (.t 14)
.skip
(.exit 0)))
(.seq (.block 1 (.seq (.calm [mv 17 0,
mv 18 5,
⟨(some 19), .indexSl 2 (.t 17) (.t 18), none, [0, 1], false⟩,
⟨(some 20), .load true 2 (.t 19), none, [2], false⟩,
mv 21 1,
mv 22 5,
⟨(some 23), .indexSl 2 (.t 21) (.t 22), none, [4, 5], false⟩,
⟨(some 24), .load true 2 (.t 23), none, [6], false⟩,
⟨(some 25), .pur (.eqA false [(0, .int), (1, .bool)]) [(.t 20), (.t 24)], none, [3, 7], false⟩])
(.cond (.t 25)
(.seq (.reg [ao 4 (.mov (.c (.bool false)))])
.ret)
.skip)))
(.reg [mv 15 5,
ao 16 (.bin .add .no (.t 15) (.c (.int .i64 1))),
mv 5 16]))))))
(.seq (.reg [ao 4 (.mov (.c (.bool true)))])
.ret)))) }
def w29 : WF := { nt := 26, results := [(4, none)], code :=
(.seq (.reg [ao 4 (.mov (.c (.bool false)))])
(.seq (.seq (.reg [mv 6 0,
ao 7 (.len (.t 6)),
mv 8 1,
ao 9 (.len (.t 8)),
ao 10 (.bin .neq .no (.t 7) (.t 9))])
(.cond (.t 10)
(.seq (.reg [ao 4 (.mov (.c (.bool false)))])
.ret)
.skip))
(.seq (.seq (.reg [ao 5 (.mov (.c (.int .i64 0)))])
(.block 0 (.loop (.seq (.seq (.reg [mv 11 5,
mv 12 0,
ao 13 (.len (.t 12)),
ao 14 (.bin .lss .no (.t 11) (.t 13))])
(.cond (.t 14)
.skip
(.exit 0)))
(.seq (.block 1 (.seq (.calm [mv 17 0,
mv 18 5,
⟨(some 19), .indexSl 4 (.t 17) (.t 18), none, [0, 1], false⟩,
⟨(some 20), .load true 4 (.t 19), none, [2], false⟩,
mv 21 1,
mv 22 5,
⟨(some 23), .indexSl 4 (.t 21) (.t 22), none, [4, 5], false⟩,
⟨(some 24), .load true 4 (.t 23), none, [6], false⟩,
⟨(some 25), .pur (.eqA false [(0, .str), (1, .int), (2, .bool), (3, .bool)]) [(.t 20), (.t 24)], none, [3, 7], false⟩])
(.cond (.t 25)
(.seq (.reg [ao 4 (.mov (.c (.bool false)))])
.ret)
.skip)))
(.reg [mv 15 5,
ao 16 (.bin .add .no (.t 15) (.c (.int .i64 1))),
mv 5 16]))))))
(.seq (.reg [ao 4 (.mov (.c (.bool true)))])
.ret)))) }
def w30 : WF := { nt := 26, results := [(4, none)], code :=
(.seq (.reg [ao 4 (.mov (.c (.bool false)))])
(.seq (.seq (.reg [mv 6 0,
ao 7 (.len (.t 6)),
mv 8 1,
ao 9 (.len (.t 8)),
ao 10 (.bin .neq .no (.t 7) (.t 9))])
(.cond (.t 10)
(.seq (.reg [ao 4 (.mov (.c (.bool false)))])
.ret)
.skip))
(.seq (.seq (.reg [ao 5 (.mov (.c (.int .i64 0)))])
(.block 0 (.loop (.seq (.seq (.reg [mv 11 5,
mv 12 0,
ao 13 (.len (.t 12)),
ao 14 (.bin .lss .no (.t 11) (.t 13))])
(.cond (.t 14)
.skip
(.exit 0)))
(.seq (.block 1 (.seq (.calm [mv 17 0,
mv 18 5,
⟨(some 19), .indexSl 2 (.t 17) (.t 18), none, [0, 1], false⟩,
⟨(some 20), .load true 2 (.t 19), none, [2], false⟩,
mv 21 1,
mv 22 5,
⟨(some 23), .indexSl 2 (.t 21) (.t 22), none, [4, 5], false⟩,
⟨(some 24), .load true 2 (.t 23), none, [6], false⟩,
⟨(some 25), .pur (.eqA false [(0, .int), (1, .int)]) [(.t 20), (.t 24)], none, [3, 7], false⟩])
(.cond (.t 25)
(.seq (.reg [ao 4 (.mov (.c (.bool false)))])
.ret)
.skip)))
(.reg [mv 15 5,
ao 16 (.bin .add .no (.t 15) (.c (.int .i64 1))),
mv 5 16]))))))
(.seq (.reg [ao 4 (.mov (.c (.bool true)))])
.ret)))) }
def ca310 : WC := (.seq (.reg [mv 5 9])
(.reg [ao 6 (.alloc [(.list [] true), (.list [] true), (.list [] true), (.list [] true), (.list [] true), (.list [] true), (.list [] true), (.int .i64 0), (.int .i64 0), (.int .i64 0), (.int .i64 0), (.int .i64 0), (.int .i64 0), (.bool false), (.bool false)]),
an (.store 15 (.t 6) (.t 10))]))
def cb310 : WC :=
(.block 1 (.seq (.reg [mv 11 5,
ao 12 (.load false 1 (.t 3)),
ao 13 (.bin .geq .no (.t 11) (.t 12))])
(.cond (.t 13)
(.seq (.reg [ao 14 (.load true 15 (.t 6)),
an (.store 15 (.t 4) (.t 14))])
.ret)
.skip)))
def bd310 : ABody := { keep := [3, 4], ps := [9, 10], assign := toA ca310, body := toA cb310 }
def w31 : WF := { nt := 16, results := [(4, some (true, 15))], code :=
(.seq (.reg [ao 2 (.box (.t 0)),
ao 3 (.box (.t 1)),
ao 4 (.alloc [(.list [] true), (.list [] true), (.list [] true), (.list [] true), (.list [] true), (.list [] true), (.list [] true), (.int .i64 0), (.int .i64 0), (.int .i64 0), (.int .i64 0), (.int .i64 0), (.int .i64 0), (.bool false), (.bool false)])])
(.seq (.seq (.reg [ao 7 (.load true 5 (.t 2)),
ao 8 (.call 53 [(.t 7)])])
(.block 0 (.range 310 (.t 8) [9, 10] ca310 cb310)))
(.seq (.reg [ao 15 (.build [(.list [] true), (.list [] true), (.list [] true), (.list [] true), (.list [] true), (.list [] true), (.list [] true), (.int .i64 0), (.int .i64 0), (.int .i64 0), (.int .i64 0), (.int .i64 0), (.int .i64 0), (.bool false), (.bool false)] []),
an (.store 15 (.t 4) (.t 15))])
.ret))) }
def w32 : WF := { nt := 14, results := [(2, some (true, 15))], code :=
(.seq (.reg [ao 1 (.box (.t 0)),
ao 2 (.alloc [(.list [] true), (.list [] true), (.list [] true), (.list [] true), (.list [] true), (.list [] true), (.list [] true), (.int .i64 0), (.int .i64 0), (.int .i64 0), (.int .i64 0), (.int .i64 0), (.int .i64 0), (.bool false), (.bool false)])])
(.seq (.reg [ao 6 (.fieldAddr 2 (.t 1)),
ao 7 (.load false 1 (.t 6)),
ao 8 (.makeSlice 1 1 [(.int .u8 0)] (.t 7) (.t 7)),
ao 9 (.call 54 [(.t 8), (.c (.int .i64 8)), (.c (.int .i64 10))]),
mv 5 9,
ao 10 (.extract 0 (.t 5)),
ao 11 (.extract 1 (.t 5)),
mv 3 10,
mv 4 11])
(.seq (.reg [mv 12 3,
ao 13 (.build [(.list [] true), (.list [] true), (.list [] true), (.list [] true), (.list [] true), (.list [] true), (.list [] true), (.int .i64 0), (.int .i64 0), (.int .i64 0), (.int .i64 0), (.int .i64 0), (.int .i64 0), (.bool false), (.bool false)] [(0, 1, (.t 12)), (8, 1, (.c (.int .i64 256)))]),
an (.store 15 (.t 2) (.t 13))])
.ret))) }
def w33 : WF := { nt := 15, results := [(6, none)], code :=
(.seq (.reg [ao 6 (.mov (.c (.bool false)))])
(.seq (.reg [mv 7 0,
mv 8 1,
ao 9 (.bin .geq .no (.t 7) (.t 8)),
mv 10 9,
ag 11 (.mov (.t 0)) 10 true,
ag 12 (.mov (.t 2)) 10 true,
ag 13 (.bin .leq .no (.t 11) (.t 12)) 10 true,
ao 14 (.pick (.t 10) (.t 13) (.c (.bool false))),
mv 6 14])
.ret)) }
def w34 : WF := { nt := 9, results := [(4, none)], code :=
(.seq (.reg [ao 4 (.mov (.c (.bool false)))])
(.seq (.reg [mv 5 0,
mv 6 1,
ao 7 (.call 55 [(.t 5), (.t 6)]),
ao 8 (.bin .geq .no (.t 7) (.c (.int .i64 0))),
mv 4 8])
.ret)) }
def w35 : WF := { nt := 42, results := [(6, none)], code :=
(.seq (.reg [ao 3 (.box (.t 0)),
ao 4 (.box (.t 1)),
ao 5 (.box (.t 2)),
ao 6 (.mov (.c (.bool false)))])
(.seq (.calm [ao 10 (.fieldAddr 0 (.t 3)),
⟨(some 11), .load false 1 (.t 10), none, [0], false⟩,
⟨(some 12), .makeFunc (.func 56) [(.t 11)] [], none, [1], false⟩,
ao 13 (.fieldAddr 1 (.t 3)),
⟨(some 14), .load false 1 (.t 13), none, [3], false⟩,
⟨(some 15), .makeFunc (.func 56) [(.t 14)] [], none, [4], false⟩,
⟨(some 7), .mov (.t 12), none, [2, 0, 1, 2], false⟩,
⟨(some 8), .mov (.t 15), none, [5, 6, 0, 1, 2, 3, 4, 5, 6], false⟩])
(.seq (.reg [ao 16 (.load true 15 (.t 4)),
ao 17 (.load true 5 (.t 5)),
ao 18 (.call 18 [(.t 16), (.t 17)]),
mv 9 18])
(.seq (.reg [ao 19 (.fieldAddr 14 (.t 4)),
ao 20 (.load false 1 (.t 19)),
ao 21 (.un .not (.t 20)),
mv 22 21,
ag 23 (.fieldAddr 7 (.t 4)) 22 true,
ag 24 (.load false 1 (.t 23)) 22 true,
ag 25 (.bin .neq .no (.t 24) (.c (.int .i64 0))) 22 true,
ag 26 (.mov (.t 25)) 22 true,
ag 27 (.mov (.t 7)) 26 true,
ag 28 (.fieldAddr 7 (.t 4)) 26 true,
ag 29 (.load false 1 (.t 28)) 26 true,
ag 30 (.callv (.t 27) [(.t 29)]) 26 true,
ag 31 (.pick (.t 26) (.t 30) (.c (.bool false))) 22 true,
ag 32 (.mov (.t 31)) 22 true,
ag 33 (.mov (.t 9)) 32 false,
ag 34 (.bin .neq .no (.t 33) (.c (.int .i64 0))) 32 false,
ag 35 (.mov (.t 34)) 32 false,
ag 36 (.mov (.t 8)) 35 true,
ag 37 (.mov (.t 9)) 35 true,
ag 38 (.callv (.t 36) [(.t 37)]) 35 true,
ag 39 (.pick (.t 35) (.t 38) (.c (.bool false))) 32 false,
ag 40 (.pick (.t 32) (.c (.bool true)) (.t 39)) 22 true,
ao 41 (.pick (.t 22) (.t 40) (.c (.bool false))),
mv 6 41])
.ret)))) }
def w36 : WF := { nt := 19, results := [(6, none)], code :=
(.seq (.reg [ao 3 (.box (.t 0)),
ao 4 (.box (.t 1)),
ao 5 (.box (.t 2)),
ao 6 (.mov (.c (.bool false)))])
(.seq (.calm [ao 7 (.load true 3 (.t 3)),
ao 8 (.load true 15 (.t 4)),
ao 9 (.load true 5 (.t 5)),
⟨(some 10), .call 35 [(.t 7), (.t 8), (.t 9)], none, [0, 1, 2], false⟩,
⟨(some 11), .mov (.t 10), none, [3, 3], false⟩,
⟨(some 12), .load true 3 (.t 3), some (11, false), [4], false⟩,
⟨(some 13), .load true 15 (.t 4), some (11, false), [4], false⟩,
⟨(some 14), .load true 15 (.t 4), some (11, false), [4], false⟩,
⟨(some 15), .load true 5 (.t 5), some (11, false), [4], false⟩,
⟨(some 16), .call 24 [(.t 14), (.t 15)], some (11, false), [7, 8, 4, 4], false⟩,
⟨(some 17), .call 22 [(.t 12), (.t 13), (.t 16)], some (11, false), [5, 6, 9, 9, 4], false⟩,
⟨(some 18), .pick (.t 11) (.c (.bool true)) (.t 17), none, [4, 10], false⟩,
⟨(some 6), .mov (.t 18), none, [11, 10, 0, 1, 2, 3, 4, 5, 6, 7, 8, 9, 10, 11], false⟩])
.ret)) }
def w37 : WF := { nt := 19, results := [(4, none)], code :=
(.seq (.reg [ao 4 (.mov (.c (.int .i64 0)))])
(.seq (.seq (.reg [mv 6 0,
ao 7 (.len (.t 6)),
ao 8 (.mov (.c (.int .i64 0)))])
(.block 0 (.loop (.seq (.reg [ao 9 (.bin .lss .no (.t 8) (.t 7))])
(.seq (.cond (.t 9)
.skip
(.exit 0))
(.seq (.block 1 (.seq (.reg [mv 10 8,
mv 5 10])
(.seq (.reg [mv 11 1,
mv 12 0,
mv 13 5,
ao 14 (.indexSl 2 (.t 12) (.t 13)),
ao 15 (.load true 2 (.t 14)),
ao 16 (.callv (.t 11) [(.t 15)])])
(.cond (.t 16)
(.seq (.reg [mv 17 5,
mv 4 17])
.ret)
.skip))))
(.reg [ao 18 (.bin .add .no (.t 8) (.c (.int .i64 1))),
mv 8 18])))))))
(.seq (.reg [ao 4 (.mov (.c (.int .i64 (-1))))])
.ret))) }
def w38 : WF := { nt := 8, results := [(3, none)], code :=
(.seq (.reg [ao 2 (.box (.t 0)),
ao 3 (.mov (.c (.bool false)))])
(.seq (.reg [ao 4 (.fieldAddr 0 (.t 2)),
ao 5 (.load false 1 (.t 4)),
ao 6 (.load false 1 (.t 1)),
ao 7 (.bin .eql .no (.t 5) (.t 6)),
mv 3 7])
.ret)) }
def w39 : WF := { nt := 40, results := [(4, none), (5, none)], code :=
(.seq (.reg [ao 4 (.mov (.c (.int .i64 0))),
ao 5 (.mov (.c (.int .i64 0)))])
(.seq (.reg [mv 12 0,
mv 13 1,
ao 14 (.call 51 [(.t 12), (.t 13)]),
mv 11 14,
ao 15 (.extract 0 (.t 11)),
ao 16 (.extract 1 (.t 11)),
mv 6 15,
mv 7 16])
(.seq (.reg [ao 8 (.mov (.c (.int .i64 1))),
ao 9 (.mov (.c (.int .i64 0)))])
(.seq (.seq (.reg [mv 17 0,
ao 18 (.mem .range [(.t 17)])])
(.block 0 (.loop (.seq (.reg [ao 19 (.mem .next [(.t 18)]),
ao 20 (.extract 0 (.t 19))])
(.seq (.cond (.t 20)
.skip
(.exit 0))
(.block 1 (.seq (.reg [ao 21 (.extract 1 (.t 19)),
mv 10 21])
(.seq (.reg [mv 22 10,
mv 23 7,
ao 24 (.bin .lss .no (.t 22) (.t 23)),
mv 25 24,
ag 26 (.mov (.t 0)) 25 true,
ag 27 (.mov (.t 10)) 25 true,
ag 28 (.indexStr (.t 26) (.t 27)) 25 true,
ag 29 (.bin .eql .no (.t 28) (.c (.int .u8 10))) 25 true,
ao 30 (.pick (.t 25) (.t 29) (.c (.bool false)))])
(.cond (.t 30)
(.reg [mv 31 8,
ao 32 (.bin .add .no (.t 31) (.c (.int .i64 1))),
mv 33 10,
ao 34 (.bin .add .no (.t 33) (.c (.int .i64 1))),
mv 8 32,
mv 9 34])
.skip)))))))))
(.seq (.reg [mv 35 8,
mv 36 7,
mv 37 9,
ao 38 (.bin .sub .no (.t 36) (.t 37)),
ao 39 (.bin .add .no (.t 38) (.c (.int .i64 1))),
mv 4 35,
mv 5 39])
.ret))))) }
def w40 : WF := { nt := 26, results := [(4, none), (5, none)], code :=
(.seq (.reg [ao 4 (.mov (.c (.int .i64 0))),
ao 5 (.mov (.c (.int .i64 0)))])
(.seq (.reg [ao 6 (.mov (.c (.int .i64 1)))])
(.seq (.reg [ao 7 (.mov (.c (.int .i64 1)))])
(.seq (.seq (.reg [ao 8 (.mov (.c (.int .i64 0)))])
(.block 0 (.loop (.seq (.seq (.reg [mv 9 8,
mv 10 0,
mv 11 1,
ao 12 (.call 26 [(.t 10), (.t 11)]),
ao 13 (.bin .lss .no (.t 9) (.t 12))])
(.cond (.t 13)
.skip
(.exit 0)))
(.seq (.block 1 (.seq (.reg [mv 16 7,
ao 17 (.bin .add .no (.t 16) (.c (.int .i64 1))),
mv 7 17])
(.seq (.reg [mv 18 0,
mv 19 8,
ao 20 (.indexStr (.t 18) (.t 19)),
ao 21 (.bin .eql .no (.t 20) (.c (.int .u8 10)))])
(.cond (.t 21)
(.seq (.reg [mv 22 6,
ao 23 (.bin .add .no (.t 22) (.c (.int .i64 1))),
mv 6 23])
(.reg [ao 7 (.mov (.c (.int .i64 1)))]))
.skip))))
(.reg [mv 14 8,
ao 15 (.bin .add .no (.t 14) (.c (.int .i64 1))),
mv 8 15]))))))
(.seq (.reg [mv 24 6,
mv 25 7,
mv 4 24,
mv 5 25])
.ret))))) }
def w41 : WF := { nt := 45, results := [(4, none), (5, none), (6, none)], code :=
(.seq (.reg [ao 4 (.mov (.c (.str ⟨#[]⟩))),
ao 5 (.mov (.c (.int .i64 0))),
ao 6 (.mov (.c (.int .i64 0)))])
(.seq (.reg [mv 11 0,
mv 12 1,
ao 13 (.call 51 [(.t 11), (.t 12)]),
mv 10 13,
ao 14 (.extract 0 (.t 10)),
ao 15 (.extract 1 (.t 10)),
mv 7 14,
mv 8 15])
(.seq (.block 0 (.loop (.seq (.seq (.reg [mv 16 8,
mv 17 0,
ao 18 (.lenS (.t 17)),
ao 19 (.bin .lss .no (.t 16) (.t 18)),
mv 20 19,
ag 21 (.mov (.t 0)) 20 true,
ag 22 (.mov (.t 8)) 20 true,
ag 23 (.indexStr (.t 21) (.t 22)) 20 true,
ag 24 (.bin .leq .no (.t 23) (.c (.int .u8 32))) 20 true,
ao 25 (.pick (.t 20) (.t 24) (.c (.bool false)))])
(.cond (.t 25)
.skip
(.exit 0)))
(.block 1 (.reg [mv 26 8,
ao 27 (.bin .add .no (.t 26) (.c (.int .i64 1))),
mv 8 27])))))
(.seq (.reg [mv 28 8,
mv 9 28])
(.seq .skip
(.seq (.block 2 (.loop (.seq (.seq (.reg [mv 29 9,
mv 30 0,
ao 31 (.lenS (.t 30)),
ao 32 (.bin .lss .no (.t 29) (.t 31))])
(.cond (.t 32)
.skip
(.exit 2)))
(.seq (.block 3 (.seq (.reg [mv 35 0,
mv 36 9,
ao 37 (.indexStr (.t 35) (.t 36)),
ao 38 (.bin .leq .no (.t 37) (.c (.int .u8 32)))])
(.cond (.t 38)
(.exit 2)
.skip)))
(.reg [mv 33 9,
ao 34 (.bin .add .no (.t 33) (.c (.int .i64 1))),
mv 9 34])))))
(.seq (.reg [mv 39 0,
mv 40 8,
mv 41 9,
ao 42 (.slice .str (.t 39) (some (.t 40)) (some (.t 41)) none),
mv 43 8,
mv 44 9,
mv 4 42,
mv 5 43,
mv 6 44])
.ret))))))) }
def w42 : WF := { nt := 43, results := [(4, none), (5, none), (6, none)], code :=
(.seq (.reg [ao 4 (.mov (.c (.str ⟨#[]⟩))),
ao 5 (.mov (.c (.int .i64 0))),
ao 6 (.mov (.c (.int .i64 0)))])
(.seq (.reg [mv 9 0,
mv 10 1,
ao 11 (.call 26 [(.t 9), (.t 10)]),
mv 7 11])
(.seq (.block 0 (.loop (.seq (.seq (.reg [mv 12 7,
mv 13 0,
ao 14 (.lenS (.t 13)),
ao 15 (.bin .lss .no (.t 12) (.t 14)),
mv 16 15,
ag 17 (.mov (.t 0)) 16 true,
ag 18 (.mov (.t 7)) 16 true,
ag 19 (.indexStr (.t 17) (.t 18)) 16 true,
ag 20 (.bin .leq .no (.t 19) (.c (.int .u8 32))) 16 true,
ao 21 (.pick (.t 16) (.t 20) (.c (.bool false)))])
(.cond (.t 21)
.skip
(.exit 0)))
(.block 1 (.reg [mv 22 7,
ao 23 (.bin .add .no (.t 22) (.c (.int .i64 1))),
mv 7 23])))))
(.seq (.reg [mv 24 7,
mv 8 24])
(.seq (.block 2 (.loop (.seq (.seq (.reg [mv 25 8,
mv 26 0,
ao 27 (.lenS (.t 26)),
ao 28 (.bin .lss .no (.t 25) (.t 27)),
mv 29 28,
ag 30 (.mov (.t 0)) 29 true,
ag 31 (.mov (.t 8)) 29 true,
ag 32 (.indexStr (.t 30) (.t 31)) 29 true,
ag 33 (.bin .gtr .no (.t 32) (.c (.int .u8 32))) 29 true,
ao 34 (.pick (.t 29) (.t 33) (.c (.bool false)))])
(.cond (.t 34)
.skip
(.exit 2)))
(.block 3 (.reg [mv 35 8,
ao 36 (.bin .add .no (.t 35) (.c (.int .i64 1))),
mv 8 36])))))
(.seq (.reg [mv 37 0,
mv 38 7,
mv 39 8,
ao 40 (.slice .str (.t 37) (some (.t 38)) (some (.t 39)) none),
mv 41 7,
mv 42 8,
mv 4 40,
mv 5 41,
mv 6 42])
.ret)))))) }
def w43 : WF := { nt := 9, results := [(4, none)], code :=
(.seq (.reg [ao 4 (.mov (.c (.bool false)))])
(.seq (.reg [mv 5 0,
mv 6 1,
ao 7 (.call 57 [(.t 5), (.t 6)]),
ao 8 (.bin .geq .no (.t 7) (.c (.int .i64 0))),
mv 4 8])
.ret)) }
def w44 : WF := { nt := 31, results := [(4, none)], code :=
(.seq (.reg [ao 4 (.mov (.c (.bool false)))])
(.seq (.reg [ao 10 (.fieldAddr 0 (.t 1)),
ao 11 (.load false 1 (.t 10)),
mv 12 0,
ao 13 (.call 45 [(.t 11), (.t 12)]),
mv 9 13,
ao 14 (.extract 0 (.t 9)),
ao 15 (.extract 1 (.t 9)),
mv 5 14,
mv 6 15])
(.seq (.reg [ao 17 (.fieldAddr 0 (.t 2)),
ao 18 (.load false 1 (.t 17)),
mv 19 0,
ao 20 (.call 45 [(.t 18), (.t 19)]),
mv 16 20,
ao 21 (.extract 0 (.t 16)),
ao 22 (.extract 1 (.t 16)),
mv 7 21,
mv 8 22])
(.seq (.reg [mv 23 5,
mv 24 7,
ao 25 (.bin .neq .no (.t 23) (.t 24)),
mv 26 25,
ag 27 (.mov (.t 6)) 26 false,
ag 28 (.mov (.t 8)) 26 false,
ag 29 (.bin .neq .no (.t 27) (.t 28)) 26 false,
ao 30 (.pick (.t 26) (.c (.bool true)) (.t 29)),
mv 4 30])
.ret)))) }
def w45 : WF := { nt := 35, results := [(4, none), (5, none)], code :=
(.seq (.reg [ao 4 (.mov (.c (.int .i64 0))),
ao 5 (.mov (.c (.int .i64 0)))])
(.seq (.reg [mv 11 0,
mv 12 1,
ao 13 (.call 58 [(.t 11), (.t 12)]),
mv 10 13,
ao 14 (.extract 0 (.t 10)),
ao 15 (.extract 1 (.t 10)),
mv 6 14,
mv 7 15])
(.seq (.reg [ao 8 (.mov (.c (.int .u64 0)))])
(.seq (.seq (.reg [mv 16 6,
ao 17 (.len (.t 16)),
ao 18 (.mov (.c (.int .i64 0)))])
(.block 0 (.loop (.seq (.reg [ao 19 (.bin .lss .no (.t 18) (.t 17))])
(.seq (.cond (.t 19)
.skip
(.exit 0))
(.seq (.block 1 (.seq (.reg [mv 20 18,
mv 9 20])
(.reg [mv 21 8,
mv 22 6,
mv 23 9,
ao 24 (.indexSl 1 (.t 22) (.t 23)),
ao 25 (.load false 1 (.t 24)),
ao 26 (.conv (.int .u64) (.t 25)),
mv 27 9,
ao 28 (.bin .mul .no (.c (.int .i64 8)) (.t 27)),
ao 29 (.bin .shl .no (.t 26) (.t 28)),
ao 30 (.bin .or .no (.t 21) (.t 29)),
mv 8 30])))
(.reg [ao 31 (.bin .add .no (.t 18) (.c (.int .i64 1))),
mv 18 31])))))))
(.seq (.reg [mv 32 8,
ao 33 (.conv (.int .i64) (.t 32)),
mv 34 7,
mv 4 33,
mv 5 34])
.ret))))) }
def w46 : WF := { nt := 35, results := [(4, none), (5, none)], code :=
(.seq (.reg [ao 4 (.mov (.c (.int .i64 0))),
ao 5 (.mov (.c (.int .i64 0)))])
(.seq (.seq (.reg [mv 8 1,
ao 9 (.bin .lss .no (.t 8) (.c (.int .i64 0))),
mv 10 9,
ag 11 (.mov (.t 1)) 10 false,
ag 12 (.mov (.t 0)) 10 false,
ag 13 (.len (.t 12)) 10 false,
ag 14 (.bin .sub .no (.t 13) (.c (.int .i64 8))) 10 false,
ag 15 (.bin .gtr .no (.t 11) (.t 14)) 10 false,
ao 16 (.pick (.t 10) (.c (.bool true)) (.t 15))])
(.cond (.t 16)
(.seq (.reg [ao 4 (.mov (.c (.int .i64 0))),
ao 5 (.mov (.c (.int .i64 (-9))))])
.ret)
.skip))
(.seq (.seq (.reg [mv 17 1,
ao 18 (.bin .rem .no (.t 17) (.c (.int .i64 8))),
ao 19 (.bin .neq .no (.t 18) (.c (.int .i64 0)))])
(.cond (.t 19)
(.seq (.reg [ao 4 (.mov (.c (.int .i64 0))),
ao 5 (.mov (.c (.int .i64 (-23))))])
.ret)
.skip))
(.seq (.reg [ao 6 (.mov (.c (.int .i64 0)))])
(.seq (.seq (.reg [ao 7 (.mov (.c (.int .i64 7)))])
(.block 0 (.loop (.seq (.seq (.reg [mv 20 7,
ao 21 (.bin .geq .no (.t 20) (.c (.int .i64 0)))])
(.cond (.t 21)
.skip
(.exit 0)))
(.seq (.block 1 (.reg [mv 24 6,
ao 25 (.bin .shl .no (.t 24) (.c (.int .u64 8))),
mv 26 0,
mv 27 1,
mv 28 7,
ao 29 (.bin .add .no (.t 27) (.t 28)),
ao 30 (.indexSl 1 (.t 26) (.t 29)),
ao 31 (.load false 1 (.t 30)),
ao 32 (.conv (.int .i64) (.t 31)),
ao 33 (.bin .or .no (.t 25) (.t 32)),
mv 6 33]))
(.reg [mv 22 7,
ao 23 (.bin .sub .no (.t 22) (.c (.int .i64 1))),
mv 7 23]))))))
(.seq (.reg [mv 34 6,
mv 4 34,
ao 5 (.mov (.c (.int .i64 0)))])
.ret)))))) }
def w47 : WF := { nt := 8, results := [], code :=
(.reg [ao 4 (.load true 20 (.t 0)),
ao 5 (.load true 15 (.t 1)),
ao 6 (.load false 1 (.t 2)),
ao 7 (.call 48 [(.t 4), (.t 5), (.t 6)]),
an (.store 15 (.t 3) (.t 7))]) }
def w48 : WF := { nt := 16, results := [(6, some (true, 15))], code :=
(.seq (.reg [ao 3 (.box (.t 0)),
ao 4 (.box (.t 1)),
ao 6 (.alloc [(.list [] true), (.list [] true), (.list [] true), (.list [] true), (.list [] true), (.list [] true), (.list [] true), (.int .i64 0), (.int .i64 0), (.int .i64 0), (.int .i64 0), (.int .i64 0), (.int .i64 0), (.bool false), (.bool false)])])
(.seq (.seq (.reg [mv 7 2,
ao 8 (.bin .neq .no (.t 7) (.c (.int .i64 0)))])
(.cond (.t 8)
(.seq (.reg [ao 9 (.fieldAddr 0 (.t 3)),
ao 10 (.load true 15 (.t 9)),
ao 11 (.fieldAddr 15 (.t 3)),
ao 12 (.load true 5 (.t 11)),
mv 13 2,
ao 14 (.call 9 [(.t 10), (.t 12), (.t 13)]),
an (.store 15 (.t 6) (.t 14))])
.ret)
.skip))
(.seq (.reg [ao 15 (.load true 15 (.t 4)),
an (.store 15 (.t 6) (.t 15))])
.ret))) }
def w50 : WF := { nt := 55, results := [(4, some (true, 15)), (5, none)], code :=
(.seq (.reg [ao 2 (.box (.t 0)),
ao 4 (.alloc [(.list [] true), (.list [] true), (.list [] true), (.list [] true), (.list [] true), (.list [] true), (.list [] true), (.int .i64 0), (.int .i64 0), (.int .i64 0), (.int .i64 0), (.int .i64 0), (.int .i64 0), (.bool false), (.bool false)]),
ao 5 (.mov (.c (.int .i64 0)))])
(.seq (.reg [ao 11 (.fieldAddr 0 (.t 2)),
ao 12 (.load true 15 (.t 11)),
mv 13 1,
ao 14 (.call 61 [(.t 12), (.t 13)]),
mv 10 14,
ao 15 (.extract 0 (.t 10)),
ao 16 (.extract 1 (.t 10)),
ao 17 (.extract 2 (.t 10)),
ao 6 (.alloc [(.int .i64 0)]),
an (.store 1 (.t 6) (.t 15)),
mv 7 16,
mv 8 17])
(.seq (.reg [ao 18 (.makeFunc (.func 62) [] [(.t 2), (.t 6)]),
mv 9 18])
(.seq (.block 0 (.seq (.reg [mv 20 8,
ao 21 (.un .not (.t 20)),
mv 19 21])
(.cond (.t 19)
(.seq (.reg [ao 22 (.load true 20 (.t 2)),
mv 23 1,
ao 24 (.call 64 [(.t 22), (.t 23)]),
ao 25 (.extract 0 (.t 24)),
ao 26 (.extract 1 (.t 24)),
an (.store 15 (.t 4) (.t 25)),
mv 5 26])
.ret)
(.seq (.reg [ao 28 (.fieldAddr 0 (.t 2)),
ao 29 (.fieldAddr 13 (.t 28)),
ao 30 (.load false 1 (.t 29)),
mv 31 30,
ag 32 (.mov (.t 7)) 31 true,
ag 33 (.un .not (.t 32)) 31 true,
ao 34 (.pick (.t 31) (.t 33) (.c (.bool false))),
mv 27 34])
(.cond (.t 27)
(.seq (.reg [ao 35 (.fieldAddr 0 (.t 2)),
ao 36 (.load true 15 (.t 35)),
ao 37 (.load false 1 (.t 6)),
ao 38 (.buildSlice 1 1 [(.int .i64 0)] [(0, 1, (.t 37))]),
ao 39 (.call 65 [(.t 36), (.t 38)]),
ao 40 (.extract 0 (.t 39)),
ao 41 (.extract 1 (.t 39)),
an (.store 15 (.t 4) (.t 40)),
mv 5 41])
.ret)
(.seq (.reg [mv 43 9,
ao 44 (.callv (.t 43) []),
mv 42 44])
(.cond (.t 42)
(.seq (.reg [ao 45 (.fieldAddr 0 (.t 2)),
ao 46 (.load true 15 (.t 45)),
an (.store 15 (.t 4) (.t 46)),
ao 5 (.mov (.c (.int .i64 (-14))))])
.ret)
.skip)))))))
(.seq (.reg [ao 47 (.fieldAddr 0 (.t 2)),
ao 48 (.load true 15 (.t 47)),
ao 49 (.fieldAddr 15 (.t 2)),
ao 50 (.load true 5 (.t 49)),
ao 51 (.load false 1 (.t 6)),
ao 52 (.call 60 [(.t 48), (.t 50), (.t 51), (.c (.int .i64 0))]),
ao 53 (.extract 0 (.t 52)),
ao 54 (.extract 1 (.t 52)),
an (.store 15 (.t 4) (.t 53)),
mv 5 54])
.ret))))) }
def w51 : WF := { nt := 15, results := [(4, none), (5, none)], code :=
(.seq (.reg [ao 2 (.box (.t 0)),
ao 3 (.box (.t 1)),
ao 4 (.mov (.c (.str ⟨#[]⟩))),
ao 5 (.mov (.c (.int .i64 0)))])
(.seq (.reg [ao 8 (.makeFunc (.func 66) [] [(.t 3), (.t 2)]),
mv 6 8])
(.seq (.reg [mv 9 6,
ao 10 (.callv (.t 9) []),
mv 7 10])
(.seq (.reg [ao 11 (.load false 1 (.t 2)),
mv 12 7,
ao 13 (.slice .str (.t 11) (some (.t 12)) none none),
mv 14 7,
mv 4 13,
mv 5 14])
.ret)))) }
def w52 : WF := { nt := 8, results := [(4, none)], code :=
(.seq (.reg [ao 4 (.mov (.c (.int .i64 0)))])
(.seq (.reg [mv 5 0,
mv 6 1,
ao 7 (.call 67 [(.t 5), (.t 6)]),
mv 4 7])
.ret)) }
def w53 : WF := { nt := 4, results := [(2, none)], code :=
(.seq (.reg [ao 1 (.box (.t 0)),
ao 2 (.mov (.c .nilfn))])
(.seq (.reg [ao 3 (.makeFunc (.func 68) [] [(.t 1)]),
mv 2 3])
.ret)) }
def w54 : WF := { nt := 37, results := [(6, none), (7, none)], code :=
(.seq (.reg [ao 6 (.mov (.c (.list [] true))),
ao 7 (.mov (.c (.int .i64 0)))])
(.seq (.seq (.reg [mv 13 0,
mv 14 1,
ao 15 (.call 58 [(.t 13), (.t 14)]),
mv 12 15,
ao 16 (.extract 0 (.t 12)),
ao 17 (.extract 1 (.t 12)),
mv 8 16,
mv 9 17])
(.seq (.reg [mv 18 9,
ao 19 (.bin .neq .no (.t 18) (.c (.int .i64 0)))])
(.cond (.t 19)
(.seq (.reg [mv 20 9,
ao 6 (.mov (.c (.list [] true))),
mv 7 20])
.ret)
.skip)))
(.seq (.reg [ao 10 (.alloc [(.int .u8 0), (.int .u8 0), (.int .u8 0), (.int .u8 0), (.int .u8 0), (.int .u8 0), (.int .u8 0), (.int .u8 0)])])
(.seq (.seq (.reg [ao 21 (.mov (.c (.int .i64 0)))])
(.block 0 (.loop (.seq (.reg [ao 22 (.bin .lss .no (.t 21) (.c (.int .i64 8)))])
(.seq (.cond (.t 22)
.skip
(.exit 0))
(.seq (.block 1 (.seq (.reg [mv 23 21,
mv 11 23])
(.reg [mv 24 11,
mv 25 2,
ao 26 (.conv (.int .u64) (.t 25)),
mv 27 11,
ao 28 (.bin .mul .no (.c (.int .i64 8)) (.t 27)),
ao 29 (.bin .shr .no (.t 26) (.t 28)),
ao 30 (.conv (.int .u8) (.t 29)),
ao 31 (.indexPA 8 1 (.t 10) (.t 24)),
an (.store 1 (.t 31) (.t 30))])))
(.reg [ao 32 (.bin .add .no (.t 21) (.c (.int .i64 1))),
mv 21 32])))))))
(.seq (.reg [mv 33 0,
mv 34 1,
ao 35 (.slice (.arr 8 1) (.t 10) none none none),
ao 36 (.call 69 [(.t 33), (.t 34), (.t 35)]),
mv 6 36,
ao 7 (.mov (.c (.int .i64 0)))])
.ret))))) }
def w55 : WF := { nt := 19, results := [(4, none)], code :=
(.seq (.reg [ao 4 (.mov (.c (.int .i64 0)))])
(.seq (.seq (.reg [mv 6 0,
ao 7 (.len (.t 6)),
ao 8 (.mov (.c (.int .i64 0)))])
(.block 0 (.loop (.seq (.reg [ao 9 (.bin .lss .no (.t 8) (.t 7))])
(.seq (.cond (.t 9)
.skip
(.exit 0))
(.seq (.block 1 (.seq (.reg [mv 10 8,
mv 5 10])
(.seq (.reg [mv 11 1,
mv 12 0,
mv 13 5,
ao 14 (.indexSl 1 (.t 12) (.t 13)),
ao 15 (.load false 1 (.t 14)),
ao 16 (.bin .eql .bool (.t 11) (.t 15))])
(.cond (.t 16)
(.seq (.reg [mv 17 5,
mv 4 17])
.ret)
.skip))))
(.reg [ao 18 (.bin .add .no (.t 8) (.c (.int .i64 1))),
mv 8 18])))))))
(.seq (.reg [ao 4 (.mov (.c (.int .i64 (-1))))])
.ret))) }
def w56 : WF := { nt := 8, results := [(4, none)], code :=
(.seq (.reg [ao 4 (.mov (.c (.bool false)))])
(.seq (.reg [mv 5 0,
mv 6 1,
ao 7 (.call 70 [(.t 5), (.t 6)]),
mv 4 7])
.ret)) }
def w57 : WF := { nt := 19, results := [(4, none)], code :=
(.seq (.reg [ao 4 (.mov (.c (.int .i64 0)))])
(.seq (.seq (.reg [mv 6 0,
ao 7 (.len (.t 6)),
ao 8 (.mov (.c (.int .i64 0)))])
(.block 0 (.loop (.seq (.reg [ao 9 (.bin .lss .no (.t 8) (.t 7))])
(.seq (.cond (.t 9)
.skip
(.exit 0))
(.seq (.block 1 (.seq (.reg [mv 10 8,
mv 5 10])
(.seq (.reg [mv 11 1,
mv 12 0,
mv 13 5,
ao 14 (.indexSl 1 (.t 12) (.t 13)),
ao 15 (.load false 1 (.t 14)),
ao 16 (.callv (.t 11) [(.t 15)])])
(.cond (.t 16)
(.seq (.reg [mv 17 5,
mv 4 17])
.ret)
.skip))))
(.reg [ao 18 (.bin .add .no (.t 8) (.c (.int .i64 1))),
mv 8 18])))))))
(.seq (.reg [ao 4 (.mov (.c (.int .i64 (-1))))])
.ret))) }
def w58 : WF := { nt := 23, results := [(4, none), (5, none)], code :=
(.seq (.reg [ao 4 (.mov (.c (.list [] true))),
ao 5 (.mov (.c (.int .i64 0)))])
(.seq (.reg [mv 9 0,
mv 10 1,
ao 11 (.call 71 [(.t 9), (.t 10), (.c (.int .i64 8))]),
mv 8 11,
ao 12 (.extract 0 (.t 8)),
ao 13 (.extract 1 (.t 8)),
mv 6 12,
mv 7 13])
(.seq (.seq (.reg [mv 14 7,
ao 15 (.bin .eql .no (.t 14) (.c (.int .i64 0))),
mv 16 15,
ag 17 (.mov (.t 1)) 16 true,
ag 18 (.bin .rem .no (.t 17) (.c (.int .i64 8))) 16 true,
ag 19 (.bin .neq .no (.t 18) (.c (.int .i64 0))) 16 true,
ao 20 (.pick (.t 16) (.t 19) (.c (.bool false)))])
(.cond (.t 20)
(.seq (.reg [ao 4 (.mov (.c (.list [] true))),
ao 5 (.mov (.c (.int .i64 (-23))))])
.ret)
.skip))
(.seq (.reg [mv 21 6,
mv 22 7,
mv 4 21,
mv 5 22])
.ret)))) }
def w60 : WF := { nt := 87, results := [(8, some (true, 15)), (9, none)], code :=
(.seq (.reg [ao 4 (.box (.t 0)),
ao 5 (.box (.t 1)),
ao 8 (.alloc [(.list [] true), (.list [] true), (.list [] true), (.list [] true), (.list [] true), (.list [] true), (.list [] true), (.int .i64 0), (.int .i64 0), (.int .i64 0), (.int .i64 0), (.int .i64 0), (.int .i64 0), (.bool false), (.bool false)]),
ao 9 (.mov (.c (.int .i64 0)))])
(.seq (.seq (.reg [mv 22 2,
ao 23 (.fieldAddr 1 (.t 4)),
ao 24 (.load false 1 (.t 23)),
ao 25 (.fieldAddr 3 (.t 5)),
ao 26 (.load false 1 (.t 25)),
ao 27 (.call 75 [(.t 22), (.t 24), (.t 26)]),
mv 21 27,
ao 28 (.extract 0 (.t 21)),
ao 29 (.extract 1 (.t 21)),
ao 30 (.extract 2 (.t 21)),
mv 10 28,
mv 11 29,
mv 12 30])
(.seq (.reg [mv 31 12])
(.cond (.t 31)
(.seq (.seq (.reg [mv 32 11,
ao 33 (.bin .neq .no (.t 32) (.c (.int .i64 0)))])
(.cond (.t 33)
(.seq (.reg [ao 34 (.build [(.list [] true), (.list [] true), (.list [] true), (.list [] true), (.list [] true), (.list [] true), (.list [] true), (.int .i64 0), (.int .i64 0), (.int .i64 0), (.int .i64 0), (.int .i64 0), (.int .i64 0), (.bool false), (.bool false)] []),
mv 35 11,
an (.store 15 (.t 8) (.t 34)),
mv 9 35])
.ret)
.skip))
(.seq (.reg [mv 36 10,
ao 37 (.fieldAddr 1 (.t 4)),
an (.store 1 (.t 37) (.t 36))])
(.seq (.reg [ao 38 (.load true 15 (.t 4)),
an (.store 15 (.t 8) (.t 38)),
ao 9 (.mov (.c (.int .i64 0)))])
.ret)))
.skip)))
(.seq (.seq (.reg [ao 40 (.load true 15 (.t 4)),
mv 41 2,
ao 42 (.call 76 [(.t 40), (.t 41)]),
mv 39 42,
ao 43 (.extract 0 (.t 39)),
ao 44 (.extract 1 (.t 39)),
ao 45 (.extract 2 (.t 39)),
ao 13 (.alloc [(.list [] true), (.list [] true), (.list [] true), (.list [] true), (.list [] true), (.list [] true), (.list [] true), (.int .i64 0), (.int .i64 0), (.int .i64 0), (.int .i64 0), (.int .i64 0), (.int .i64 0), (.bool false), (.bool false)]),
an (.store 15 (.t 13) (.t 43)),
mv 14 44,
mv 15 45])
(.seq (.reg [mv 46 15])
(.cond (.t 46)
(.seq (.reg [ao 47 (.load true 15 (.t 13)),
mv 48 14,
an (.store 15 (.t 8) (.t 47)),
mv 9 48])
.ret)
.skip)))
(.seq (.seq (.reg [ao 50 (.load true 15 (.t 4)),
ao 51 (.load true 5 (.t 5)),
mv 52 2,
ao 53 (.call 77 [(.t 50), (.t 51), (.t 52)]),
mv 49 53,
ao 54 (.extract 0 (.t 49)),
ao 55 (.extract 1 (.t 49)),
ao 56 (.extract 2 (.t 49)),
ao 16 (.alloc [(.list [] true), (.list [] true), (.list [] true), (.list [] true), (.list [] true), (.list [] true), (.list [] true), (.int .i64 0), (.int .i64 0), (.int .i64 0), (.int .i64 0), (.int .i64 0), (.int .i64 0), (.bool false), (.bool false)]),
an (.store 15 (.t 16) (.t 54)),
mv 17 55,
mv 18 56])
(.seq (.reg [mv 57 18])
(.cond (.t 57)
(.seq (.reg [ao 58 (.load true 15 (.t 16)),
mv 59 17,
an (.store 15 (.t 8) (.t 58)),
mv 9 59])
.ret)
.skip)))
(.seq (.reg [ao 60 (.load true 15 (.t 4)),
ao 61 (.load true 5 (.t 5)),
mv 62 3,
ao 63 (.build [(.list [] true), (.list [] true), (.list [] true), (.list [] true), (.list [] true), (.list [] true), (.list [] true), (.int .i64 0), (.int .i64 0), (.int .i64 0), (.int .i64 0), (.int .i64 0), (.int .i64 0), (.bool false), (.bool false), (.str ⟨#[]⟩), (.list [] true), (.int .i64 0), (.int .i64 0), (.int .i64 0), (.int .i64 0), (.int .i64 0)] [(0, 15, (.t 60)), (15, 5, (.t 61)), (20, 1, (.t 62))]),
ao 64 (.box (.t 63)),
mv 19 64])
(.seq (.seq (.reg [mv 65 2,
ao 66 (.call 78 [(.t 65)]),
mv 20 66])
(.seq (.reg [mv 67 20,
ao 68 (.bin .neq .func (.t 67) (.c .nilfn))])
(.cond (.t 68)
(.reg [mv 69 20,
mv 70 19,
ao 71 (.callv (.t 69) [(.t 70)])])
(.reg [mv 72 19,
mv 73 2,
ao 74 (.call 79 [(.t 72), (.t 73)])]))))
(.seq (.seq (.reg [mv 75 19,
ao 76 (.call 80 [(.t 75)]),
ao 77 (.un .not (.t 76))])
(.cond (.t 77)
(.seq (.draw [ao 78 (.build [(.list [] true), (.list [] true), (.list [] true), (.list [] true), (.list [] true), (.list [] true), (.list [] true), (.int .i64 0), (.int .i64 0), (.int .i64 0), (.int .i64 0), (.int .i64 0), (.int .i64 0), (.bool false), (.bool false)] []),
mv 79 19,
⟨(some 80), .nilCheck (.t 79), none, [1], false⟩,
⟨(some 81), .fieldAddr 21 (.t 80), none, [2], false⟩,
⟨(some 82), .load false 1 (.t 81), none, [3], false⟩,
⟨none, .store 15 (.t 8) (.t 78), none, [0, 0], true⟩,
⟨(some 9), .mov (.t 82), none, [4, 5, 0, 1, 2, 3, 4, 5], false⟩])
.ret)
.skip))
(.seq (.reg [mv 83 19,
ao 84 (.nilCheck (.t 83)),
ao 85 (.fieldAddr 0 (.t 84)),
ao 86 (.load true 15 (.t 85)),
an (.store 15 (.t 8) (.t 86)),
ao 9 (.mov (.c (.int .i64 0)))])
.ret)))))))) }
def w61 : WF := { nt := 34, results := [(4, none), (5, none), (6, none)], code :=
(.seq (.reg [ao 2 (.box (.t 0)),
ao 4 (.mov (.c (.int .i64 0))),
ao 5 (.mov (.c (.bool false))),
ao 6 (.mov (.c (.bool false)))])
(.seq (.seq (.reg [ao 9 (.fieldAddr 4 (.t 2)),
ao 10 (.load false 1 (.t 9)),
mv 11 1,
ao 12 (.call 81 [(.t 10), (.t 11)]),
mv 7 12])
(.seq (.reg [mv 13 7,
ao 14 (.bin .geq .no (.t 13) (.c (.int .i64 0)))])
(.cond (.t 14)
(.seq (.calm [ao 15 (.fieldAddr 4 (.t 2)),
⟨(some 16), .load false 1 (.t 15), none, [0], false⟩,
mv 17 7,
⟨(some 18), .indexSl 4 (.t 16) (.t 17), none, [1, 2], false⟩,
⟨(some 19), .fieldAddr 1 (.t 18), none, [3], false⟩,
⟨(some 20), .load false 1 (.t 19), none, [4], false⟩,
ao 21 (.fieldAddr 4 (.t 2)),
⟨(some 22), .load false 1 (.t 21), none, [6], false⟩,
mv 23 7,
⟨(some 24), .indexSl 4 (.t 22) (.t 23), none, [7, 8], false⟩,
⟨(some 25), .fieldAddr 2 (.t 24), none, [9], false⟩,
⟨(some 26), .load false 1 (.t 25), none, [10], false⟩,
⟨(some 4), .mov (.t 20), none, [5, 0, 1, 2, 3, 4, 5], false⟩,
⟨(some 5), .mov (.t 26), none, [11, 12, 0, 1, 2, 3, 4, 5, 6, 7, 8, 9, 10, 11, 12], false⟩,
⟨(some 6), .mov (.c (.bool true)), none, [13, 0, 1, 2, 3, 4, 5, 6, 7, 8, 9, 10, 11, 12, 13], false⟩])
.ret)
.skip)))
(.seq (.reg [mv 27 1,
ao 28 (.call 82 [(.t 27)]),
mv 8 28])
(.seq (.reg [mv 29 8,
mv 30 8,
ao 31 (.call 83 [(.t 30)]),
mv 32 8,
ao 33 (.bin .neq .no (.t 32) (.c (.int .i64 0))),
mv 4 29,
mv 5 31,
mv 6 33])
.ret)))) }
def w62 : WF := { nt := 11, results := [(2, none)], code :=
(.seq (.reg [ao 2 (.mov (.c (.bool false)))])
(.seq (.reg [ao 3 (.fieldAddr 0 (.t 0)),
ao 4 (.fieldAddr 13 (.t 3)),
ao 5 (.load false 1 (.t 4)),
ao 6 (.un .not (.t 5)),
mv 7 6,
ag 8 (.load false 1 (.t 1)) 7 true,
ag 9 (.call 63 [(.t 8)]) 7 true,
ao 10 (.pick (.t 7) (.t 9) (.c (.bool false))),
mv 2 10])
.ret)) }
def w63 : WF := { nt := 8, results := [(2, none)], code :=
(.seq (.reg [ao 2 (.mov (.c (.bool false)))])
(.seq (.reg [mv 3 0,
ao 4 (.call 85 []),
ao 5 (.buildSlice 1 8 [(.str ⟨#[]⟩)] [(0, 1, (.c (.str ⟨#[69, 88, 73, 84]⟩))), (1, 1, (.c (.str ⟨#[62, 82]⟩))), (2, 1, (.c (.str ⟨#[82, 62]⟩))), (3, 1, (.c (.str ⟨#[82, 64]⟩))), (4, 1, (.c (.str ⟨#[73]⟩))), (5, 1, (.c (.str ⟨#[74]⟩))), (6, 1, (.c (.str ⟨#[85, 78, 76, 79, 79, 80]⟩))), (7, 1, (.c (.str ⟨#[76, 69, 65, 86, 69]⟩)))]),
ao 6 (.append 1 16 none (.t 4) (.t 5)),
ao 7 (.call 84 [(.t 3), (.t 6)]),
mv 2 7])
.ret)) }
def w64 : WF := { nt := 58, results := [(4, some (true, 15)), (5, none)], code :=
(.seq (.reg [ao 2 (.box (.t 0)),
ao 4 (.alloc [(.list [] true), (.list [] true), (.list [] true), (.list [] true), (.list [] true), (.list [] true), (.list [] true), (.int .i64 0), (.int .i64 0), (.int .i64 0), (.int .i64 0), (.int .i64 0), (.int .i64 0), (.bool false), (.bool false)]),
ao 5 (.mov (.c (.int .i64 0)))])
(.seq (.reg [ao 12 (.fieldAddr 0 (.t 2)),
ao 13 (.fieldAddr 0 (.t 12)),
ao 14 (.load false 1 (.t 13)),
ao 15 (.call 45 [(.t 14), (.c (.int .i64 8))]),
mv 11 15,
ao 16 (.extract 0 (.t 11)),
ao 17 (.extract 1 (.t 11)),
mv 6 16,
mv 7 17])
(.seq (.seq (.reg [mv 18 7,
ao 19 (.bin .neq .no (.t 18) (.c (.int .i64 0)))])
(.cond (.t 19)
(.reg [ao 6 (.mov (.c (.int .i64 10)))])
.skip))
(.seq (.reg [mv 21 1,
mv 22 6,
ao 23 (.call 86 [(.t 21), (.t 22)]),
mv 20 23,
ao 24 (.extract 0 (.t 20)),
ao 25 (.extract 1 (.t 20)),
mv 8 24,
mv 9 25])
(.seq (.block 0 (.seq (.reg [mv 27 9,
ao 28 (.un .not (.t 27)),
mv 26 28])
(.cond (.t 26)
(.seq (.reg [ao 29 (.fieldAddr 0 (.t 2)),
ao 30 (.load true 15 (.t 29)),
an (.store 15 (.t 4) (.t 30)),
ao 5 (.mov (.c (.int .i64 (-13))))])
.ret)
(.seq (.reg [ao 32 (.fieldAddr 0 (.t 2)),
ao 33 (.fieldAddr 13 (.t 32)),
ao 34 (.load false 1 (.t 33)),
mv 31 34])
(.cond (.t 31)
(.seq (.reg [ao 35 (.fieldAddr 0 (.t 2)),
ao 36 (.load true 15 (.t 35)),
mv 37 8,
ao 38 (.buildSlice 1 2 [(.int .i64 0)] [(0, 1, (.c (.int .i64 2))), (1, 1, (.t 37))]),
ao 39 (.call 65 [(.t 36), (.t 38)]),
ao 40 (.extract 0 (.t 39)),
ao 41 (.extract 1 (.t 39)),
an (.store 15 (.t 4) (.t 40)),
mv 5 41])
.ret)
.skip)))))
(.seq (.reg [ao 42 (.fieldAddr 0 (.t 2)),
ao 43 (.load true 15 (.t 42)),
ao 10 (.alloc [(.list [] true), (.list [] true), (.list [] true), (.list [] true), (.list [] true), (.list [] true), (.list [] true), (.int .i64 0), (.int .i64 0), (.int .i64 0), (.int .i64 0), (.int .i64 0), (.int .i64 0), (.bool false), (.bool false)]),
an (.store 15 (.t 10) (.t 43))])
(.seq (.reg [ao 45 (.fieldAddr 1 (.t 10)),
ao 46 (.load false 1 (.t 45)),
ao 47 (.fieldAddr 15 (.t 2)),
ao 48 (.fieldAddr 3 (.t 47)),
ao 49 (.load false 1 (.t 48)),
mv 50 8,
ao 51 (.buildSlice 1 1 [(.int .i64 0)] [(0, 1, (.t 50))]),
ao 52 (.call 87 [(.t 46), (.t 49), (.t 51)]),
mv 44 52,
ao 53 (.extract 0 (.t 44)),
ao 54 (.extract 1 (.t 44)),
ao 55 (.fieldAddr 1 (.t 10)),
an (.store 1 (.t 55) (.t 53)),
mv 7 54])
(.seq (.reg [ao 56 (.load true 15 (.t 10)),
mv 57 7,
an (.store 15 (.t 4) (.t 56)),
mv 5 57])
.ret)))))))) }
def w66 : WF := { nt := 8, results := [(2, none)], code :=
(.seq (.reg [ao 2 (.mov (.c (.int .i64 0)))])
(.seq (.reg [ao 3 (.load false 1 (.t 0)),
ao 4 (.max [(.t 3), (.c (.int .i64 0))]),
ao 5 (.load false 1 (.t 1)),
ao 6 (.lenS (.t 5)),
ao 7 (.min [(.t 4), (.t 6)]),
mv 2 7])
.ret)) }
def w67 : WF := { nt := 8, results := [(4, none)], code :=
(.seq (.reg [ao 4 (.mov (.c (.int .i64 0)))])
(.seq (.reg [mv 5 0,
mv 6 1,
ao 7 (.call 92 [(.t 5), (.t 6)]),
mv 4 7])
.ret)) }
def w68 : WF := { nt := 16, results := [], code :=
(.seq (.reg [ao 5 (.load true 5 (.t 1)),
ao 6 (.call 32 [(.t 5)]),
ao 3 (.alloc [(.list [] true), (.list [] true), (.list [] true), (.list [] true), (.list [] true), (.list [] true), (.list [] true), (.int .i64 0), (.int .i64 0), (.int .i64 0), (.int .i64 0), (.int .i64 0), (.int .i64 0), (.bool false), (.bool false)]),
an (.store 15 (.t 3) (.t 6))])
(.seq (.reg [ao 4 (.mov (.c (.int .i64 0)))])
(.block 0 (.loop (.seq (.seq (.reg [mv 7 0,
mv 8 4,
ao 9 (.load true 15 (.t 3)),
ao 10 (.callv (.t 7) [(.t 8), (.t 9)])])
(.cond (.t 10)
.skip
(.exit 0)))
(.seq (.block 1 (.reg [ao 13 (.load true 15 (.t 3)),
ao 14 (.load true 5 (.t 1)),
ao 15 (.call 24 [(.t 13), (.t 14)]),
an (.store 15 (.t 3) (.t 15))]))
(.reg [mv 11 4,
ao 12 (.bin .add .no (.t 11) (.c (.int .i64 1))),
mv 4 12]))))))) }
def w69 : WF := { nt := 20, results := [(6, none)], code :=
(.seq (.reg [ao 6 (.mov (.c (.list [] true)))])
(.seq (.reg [mv 8 0,
ao 9 (.len (.t 8)),
ao 10 (.makeSlice 1 1 [(.int .u8 0)] (.t 9) (.t 9)),
mv 7 10])
(.seq (.reg [mv 11 7,
mv 12 0,
ao 13 (.copy 1 (.t 11) (.t 12))])
(.seq (.reg [mv 14 7,
mv 15 1,
ao 16 (.slice (.sl 1) (.t 14) (some (.t 15)) none none),
mv 17 2,
ao 18 (.copy 1 (.t 16) (.t 17))])
(.seq (.reg [mv 19 7,
mv 6 19])
.ret))))) }
def w70 : WF := { nt := 9, results := [(4, none)], code :=
(.seq (.reg [ao 4 (.mov (.c (.bool false)))])
(.seq (.reg [mv 5 0,
mv 6 1,
ao 7 (.call 93 [(.t 5), (.t 6)]),
ao 8 (.bin .geq .no (.t 7) (.c (.int .i64 0))),
mv 4 8])
.ret)) }
def w71 : WF := { nt := 37, results := [(6, none), (7, none)], code :=
(.seq (.reg [ao 6 (.mov (.c (.list [] true))),
ao 7 (.mov (.c (.int .i64 0)))])
(.seq (.seq (.reg [mv 8 1,
ao 9 (.bin .lss .no (.t 8) (.c (.int .i64 0))),
mv 10 9,
ag 11 (.mov (.t 2)) 10 false,
ag 12 (.bin .lss .no (.t 11) (.c (.int .i64 0))) 10 false,
ao 13 (.pick (.t 10) (.c (.bool true)) (.t 12)),
mv 14 13,
ag 15 (.mov (.t 2)) 14 false,
ag 16 (.mov (.t 0)) 14 false,
ag 17 (.len (.t 16)) 14 false,
ag 18 (.bin .gtr .no (.t 15) (.t 17)) 14 false,
ao 19 (.pick (.t 14) (.c (.bool true)) (.t 18)),
mv 20 19,
ag 21 (.mov (.t 1)) 20 false,
ag 22 (.mov (.t 0)) 20 false,
ag 23 (.len (.t 22)) 20 false,
ag 24 (.mov (.t 2)) 20 false,
ag 25 (.bin .sub .no (.t 23) (.t 24)) 20 false,
ag 26 (.bin .gtr .no (.t 21) (.t 25)) 20 false,
ao 27 (.pick (.t 20) (.c (.bool true)) (.t 26))])
(.cond (.t 27)
(.seq (.reg [ao 6 (.mov (.c (.list [] true))),
ao 7 (.mov (.c (.int .i64 (-9))))])
.ret)
.skip))
(.seq (.reg [mv 28 0,
mv 29 1,
mv 30 1,
mv 31 2,
ao 32 (.bin .add .no (.t 30) (.t 31)),
mv 33 1,
mv 34 2,
ao 35 (.bin .add .no (.t 33) (.t 34)),
ao 36 (.slice (.sl 1) (.t 28) (some (.t 29)) (some (.t 32)) (some (.t 35))),
mv 6 36,
ao 7 (.mov (.c (.int .i64 0)))])
.ret))) }
def w75 : WF := { nt := 58, results := [(6, some (false, 1)), (7, some (false, 1)), (8, none)], code := .skip, dfr := some ([(.reg [ao 6 (.alloc [(.list [] true)]),
ao 7 (.alloc [(.int .i64 0)]),
ao 8 (.mov (.c (.bool false)))]),
(.reg [mv 16 0,
ao 17 (.call 95 [(.t 16)]),
mv 9 17]),
(.reg [ao 10 (.mov (.c .nilfn))]),
(.seq (.reg [ao 18 (.call 96 []),
ao 19 (.call 97 []),
ao 20 (.call 98 []),
ao 21 (.call 99 []),
ao 22 (.buildSlice 1 4 [.nilmap] [(0, 1, (.t 18)), (1, 1, (.t 19)), (2, 1, (.t 20)), (3, 1, (.t 21))]),
ao 23 (.len (.t 22)),
ao 24 (.mov (.c (.int .i64 0)))])
(.block 0 (.loop (.seq (.reg [ao 25 (.bin .lss .no (.t 24) (.t 23))])
(.seq (.cond (.t 25)
.skip
(.exit 0))
(.seq (.block 1 (.seq (.reg [ao 26 (.indexSl 1 (.t 22) (.t 24)),
ao 27 (.load false 1 (.t 26)),
mv 12 27])
(.seq (.reg [mv 29 12,
mv 30 9,
ao 31 (.rd (.lookup .str .nilfn true) [(.t 29), (.t 30)]),
mv 28 31,
ao 32 (.extract 0 (.t 28)),
ao 33 (.extract 1 (.t 28)),
mv 13 32,
mv 14 33])
(.seq (.reg [mv 34 14])
(.cond (.t 34)
(.reg [mv 35 13,
mv 10 35])
.skip)))))
(.reg [ao 36 (.bin .add .no (.t 24) (.c (.int .i64 1))),
mv 24 36]))))))),
(.seq (.reg [mv 37 10,
ao 38 (.bin .eql .func (.t 37) (.c .nilfn))])
(.cond (.t 38)
(.seq (.reg [an (.store 1 (.t 6) (.c (.list [] true))),
an (.store 1 (.t 7) (.c (.int .i64 0))),
ao 8 (.mov (.c (.bool false)))])
.ret)
.skip)),
(.reg [ao 8 (.mov (.c (.bool true)))])],
[ao 39 (.makeFunc (.func 100) [] [(.t 6), (.t 7)])],
(.t 39),
(.seq (.reg [mv 40 1,
ao 41 (.build [(.list [] true)] [(0, 1, (.t 40))]),
ao 42 (.box (.t 41)),
mv 15 42])
(.seq (.reg [mv 43 10,
mv 44 15,
ao 45 (.callv (.t 43) [(.t 44)])])
(.seq (.reg [mv 46 15,
ao 47 (.nilCheck (.t 46)),
ao 48 (.fieldAddr 0 (.t 47)),
ao 49 (.load false 1 (.t 48)),
ao 50 (.len (.t 49)),
mv 51 2,
ao 52 (.bin .leq .no (.t 50) (.t 51)),
ao 53 (.call 101 [(.t 52), (.c (.int .i64 (-3)))])])
(.seq (.reg [mv 54 15,
ao 55 (.nilCheck (.t 54)),
ao 56 (.fieldAddr 0 (.t 55)),
ao 57 (.load false 1 (.t 56)),
an (.store 1 (.t 6) (.t 57)),
an (.store 1 (.t 7) (.c (.int .i64 0))),
ao 8 (.mov (.c (.bool true)))])
.ret))))) }
def w81 : WF := { nt := 19, results := [(4, none)], code :=
(.seq (.reg [ao 4 (.mov (.c (.int .i64 0)))])
(.seq (.reg [mv 6 0,
ao 7 (.call 115 [(.t 6)]),
mv 5 7])
(.seq (.reg [mv 8 5,
ao 9 (.call 116 [(.t 8)])])
(.seq (.reg [mv 10 0,
ao 11 (.len (.t 10)),
ao 12 (.bin .sub .no (.t 11) (.c (.int .i64 1))),
mv 13 5,
mv 14 1,
ao 15 (.call 118 [(.t 14)]),
ao 16 (.makeFunc (.func 119) [(.t 15)] []),
ao 17 (.call 117 [(.t 13), (.t 16)]),
ao 18 (.bin .sub .no (.t 12) (.t 17)),
mv 4 18])
.ret)))) }
def w82 : WF := { nt := 11, results := [(2, none)], code :=
(.seq (.reg [ao 2 (.mov (.c (.int .i64 0)))])
(.seq (.reg [ao 4 (.call 120 []),
mv 5 0,
ao 6 (.call 118 [(.t 5)]),
ao 7 (.rd (.lookup .str (.int .i64 0) false) [(.t 4), (.t 6)]),
mv 3 7])
(.seq (.seq (.reg [mv 8 3,
ao 9 (.call 94 [(.t 8)])])
(.cond (.t 9)
(.seq (.reg [ao 2 (.mov (.c (.int .i64 0)))])
.ret)
.skip))
(.seq (.reg [mv 10 3,
mv 2 10])
.ret)))) }
def w83 : WF := { nt := 8, results := [(2, none)], code :=
(.seq (.reg [ao 2 (.mov (.c (.bool false)))])
(.seq (.reg [mv 3 0,
ao 4 (.call 85 []),
ao 5 (.buildSlice 1 4 [(.str ⟨#[]⟩)] [(0, 1, (.c (.str ⟨#[91]⟩))), (1, 1, (.c (.str ⟨#[40]⟩))), (2, 1, (.c (.str ⟨#[92]⟩))), (3, 1, (.c (.str ⟨#[46, 34]⟩)))]),
ao 6 (.append 1 16 none (.t 4) (.t 5)),
ao 7 (.call 84 [(.t 3), (.t 6)]),
mv 2 7])
.ret)) }
def w84 : WF := { nt := 13, results := [(4, none)], code :=
(.seq (.reg [ao 4 (.mov (.c (.bool false)))])
(.seq (.reg [mv 5 0,
ao 6 (.call 121 [(.t 5)]),
mv 7 6,
ag 8 (.mov (.t 1)) 7 true,
ag 9 (.mov (.t 0)) 7 true,
ag 10 (.call 95 [(.t 9)]) 7 true,
ag 11 (.call 122 [(.t 8), (.t 10)]) 7 true,
ao 12 (.pick (.t 7) (.t 11) (.c (.bool false))),
mv 4 12])
.ret)) }
def w85 : WF := { nt := 2, results := [(0, none)], code :=
(.seq (.reg [ao 0 (.mov (.c (.list [] true)))])
(.seq (.reg [ao 1 (.call 123 [(.c (.str ⟨#[73, 70, 32, 69, 76, 83, 69, 32, 84, 72, 69, 78, 32, 66, 69, 71, 73, 78, 32, 65, 71, 65, 73, 78, 32, 85, 78, 84, 73, 76, 32, 87, 72, 73, 76, 69, 32, 82, 69, 80, 69, 65, 84, 32, 68, 79, 32, 76, 79, 79, 80, 32, 43, 76, 79, 79, 80, 32, 82, 69, 67, 85, 82, 83, 69, 32, 59, 32, 68, 79, 69, 83, 62, 32, 91, 39, 93, 32, 76, 73, 84, 69, 82, 65, 76, 32, 80, 79, 83, 84, 80, 79, 78, 69, 32, 91, 67, 72, 65, 82, 93]⟩))]),
mv 0 1])
.ret)) }
def w86 : WF := { nt := 75, results := [(4, none), (5, none)], code :=
(.seq (.reg [ao 2 (.box (.t 0)),
ao 4 (.mov (.c (.int .i64 0))),
ao 5 (.mov (.c (.bool false)))])
(.seq (.seq (.reg [ao 12 (.load false 1 (.t 2)),
ao 13 (.lenS (.t 12)),
ao 14 (.bin .eql .no (.t 13) (.c (.int .i64 3))),
mv 15 14,
ag 16 (.load false 1 (.t 2)) 15 true,
ag 17 (.indexStr (.t 16) (.c (.int .i64 0))) 15 true,
ag 18 (.bin .eql .no (.t 17) (.c (.int .u8 39))) 15 true,
ao 19 (.pick (.t 15) (.t 18) (.c (.bool false))),
mv 20 19,
ag 21 (.load false 1 (.t 2)) 20 true,
ag 22 (.indexStr (.t 21) (.c (.int .i64 2))) 20 true,
ag 23 (.bin .eql .no (.t 22) (.c (.int .u8 39))) 20 true,
ao 24 (.pick (.t 20) (.t 23) (.c (.bool false)))])
(.cond (.t 24)
(.seq (.reg [ao 25 (.load false 1 (.t 2)),
ao 26 (.indexStr (.t 25) (.c (.int .i64 1))),
ao 27 (.conv (.int .i64) (.t 26)),
mv 4 27,
ao 5 (.mov (.c (.bool true)))])
.ret)
.skip))
(.seq (.reg [ao 28 (.makeFunc (.func 124) [] [(.t 2)]),
mv 6 28])
(.seq (.block 0 (.seq (.reg [mv 30 6,
ao 31 (.callv (.t 30) [(.c (.str ⟨#[35]⟩))]),
mv 29 31])
(.cond (.t 29)
(.reg [ao 1 (.mov (.c (.int .i64 10)))])
(.seq (.reg [mv 33 6,
ao 34 (.callv (.t 33) [(.c (.str ⟨#[36]⟩))]),
mv 32 34])
(.cond (.t 32)
(.reg [ao 1 (.mov (.c (.int .i64 16)))])
(.seq (.reg [mv 36 6,
ao 37 (.callv (.t 36) [(.c (.str ⟨#[37]⟩))]),
mv 35 37])
(.cond (.t 35)
(.reg [ao 1 (.mov (.c (.int .i64 2)))])
.skip)))))))
(.seq (.reg [mv 38 6,
ao 39 (.callv (.t 38) [(.c (.str ⟨#[45]⟩))]),
mv 7 39])
(.seq (.calm [mv 40 1,
⟨(some 41), .call 126 [(.t 40)], none, [0], false⟩,
⟨(some 42), .mov (.t 41), none, [1, 1], false⟩,
⟨(some 43), .load false 1 (.t 2), some (42, true), [2], false⟩,
⟨(some 44), .bin .neq .no (.t 43) (.c (.str ⟨#[]⟩)), some (42, true), [3, 2], false⟩,
⟨(some 45), .pick (.t 42) (.t 44) (.c (.bool false)), none, [2, 4], false⟩,
⟨(some 8), .mov (.c (.int .i64 0)), none, [2], false⟩,
⟨(some 9), .mov (.t 45), none, [5, 6, 0, 1, 2, 3, 4, 5, 6], false⟩])
(.seq (.seq (.reg [ao 46 (.load false 1 (.t 2)),
ao 47 (.mem .range [(.t 46)])])
(.block 1 (.loop (.seq (.reg [ao 48 (.mem .next [(.t 47)]),
ao 49 (.extract 0 (.t 48))])
(.seq (.cond (.t 49)
.skip
(.exit 1))
(.block 2 (.seq (.reg [ao 50 (.extract 1 (.t 48)),
mv 10 50])
(.seq (.reg [ao 51 (.load false 1 (.t 2)),
mv 52 10,
ao 53 (.indexStr (.t 51) (.t 52)),
ao 54 (.call 127 [(.t 53)]),
mv 11 54])
(.seq (.reg [mv 55 11,
ao 56 (.bin .geq .no (.t 55) (.c (.int .i64 0))),
mv 57 56,
ag 58 (.mov (.t 11)) 57 true,
ag 59 (.mov (.t 1)) 57 true,
ag 60 (.bin .lss .no (.t 58) (.t 59)) 57 true,
ao 61 (.pick (.t 57) (.t 60) (.c (.bool false)))])
(.cond (.t 61)
(.reg [mv 62 8,
mv 63 1,
ao 64 (.bin .mul .no (.t 62) (.t 63)),
mv 65 11,
ao 66 (.bin .add .no (.t 64) (.t 65)),
mv 8 66])
(.reg [ao 9 (.mov (.c (.bool false)))])))))))))))
(.seq (.block 3 (.seq (.reg [mv 68 9,
ao 69 (.un .not (.t 68)),
mv 67 69])
(.cond (.t 67)
(.seq (.reg [ao 4 (.mov (.c (.int .i64 0))),
ao 5 (.mov (.c (.bool false)))])
.ret)
(.seq (.reg [mv 71 7,
mv 70 71])
(.cond (.t 70)
(.seq (.reg [mv 72 8,
ao 73 (.un .neg (.t 72)),
mv 4 73,
ao 5 (.mov (.c (.bool true)))])
.ret)
.skip)))))
(.seq (.reg [mv 74 8,
mv 4 74,
ao 5 (.mov (.c (.bool true)))])
.ret))))))))) }
def w87 : WF := { nt := 19, results := [(6, none), (7, none)], code :=
(.seq (.reg [ao 6 (.mov (.c (.list [] true))),
ao 7 (.mov (.c (.int .i64 0)))])
(.seq (.seq (.reg [mv 8 0,
ao 9 (.len (.t 8)),
mv 10 2,
ao 11 (.len (.t 10)),
ao 12 (.bin .add .no (.t 9) (.t 11)),
mv 13 1,
ao 14 (.bin .gtr .no (.t 12) (.t 13))])
(.cond (.t 14)
(.seq (.reg [ao 6 (.mov (.c (.list [] true))),
ao 7 (.mov (.c (.int .i64 (-3))))])
.ret)
.skip))
(.seq (.reg [mv 15 0,
mv 16 2,
ao 17 (.buildSlice 1 2 [(.list [] true)] [(0, 1, (.t 15)), (1, 1, (.t 16))]),
ao 18 (.call 128 [(.t 17)]),
mv 6 18,
ao 7 (.mov (.c (.int .i64 0)))])
.ret))) }
def w93 : WF := { nt := 19, results := [(4, none)], code :=
(.seq (.reg [ao 4 (.mov (.c (.int .i64 0)))])
(.seq (.seq (.reg [mv 6 0,
ao 7 (.len (.t 6)),
ao 8 (.mov (.c (.int .i64 0)))])
(.block 0 (.loop (.seq (.reg [ao 9 (.bin .lss .no (.t 8) (.t 7))])
(.seq (.cond (.t 9)
.skip
(.exit 0))
(.seq (.block 1 (.seq (.reg [mv 10 8,
mv 5 10])
(.seq (.reg [mv 11 1,
mv 12 0,
mv 13 5,
ao 14 (.indexSl 1 (.t 12) (.t 13)),
ao 15 (.load false 1 (.t 14)),
ao 16 (.bin .eql .no (.t 11) (.t 15))])
(.cond (.t 16)
(.seq (.reg [mv 17 5,
mv 4 17])
.ret)
.skip))))
(.reg [ao 18 (.bin .add .no (.t 8) (.c (.int .i64 1))),
mv 8 18])))))))
(.seq (.reg [ao 4 (.mov (.c (.int .i64 (-1))))])
.ret))) }
def w94 : WF := { nt := 16, results := [(2, none)], code :=
(.seq (.reg [ao 2 (.mov (.c (.bool false)))])
(.seq (.reg [mv 3 0,
ao 4 (.call 121 [(.t 3)]),
mv 5 4,
ag 6 (.mov (.t 0)) 5 true,
ag 7 (.call 95 [(.t 6)]) 5 true,
ag 8 (.lenS (.t 7)) 5 true,
ag 9 (.bin .gtr .no (.t 8) (.c (.int .i64 1))) 5 true,
ao 10 (.pick (.t 5) (.t 9) (.c (.bool false))),
mv 11 10,
ag 12 (.mov (.t 0)) 11 true,
ag 13 (.call 95 [(.t 12)]) 11 true,
ag 14 (.call 130 [(.t 13), (.c (.str ⟨#[40]⟩))]) 11 true,
ao 15 (.pick (.t 11) (.t 14) (.c (.bool false))),
mv 2 15])
.ret)) }
def w95 : WF := { nt := 11, results := [(2, none)], code :=
(.seq (.reg [ao 2 (.mov (.c (.str ⟨#[]⟩)))])
(.seq (.seq (.reg [mv 3 0,
ao 4 (.call 121 [(.t 3)]),
ao 5 (.un .not (.t 4))])
(.cond (.t 5)
(.seq (.reg [ao 2 (.mov (.c (.str ⟨#[]⟩)))])
.ret)
.skip))
(.seq (.reg [ao 6 (.call 131 []),
mv 7 0,
ao 8 (.bin .sub .no (.t 7) (.c (.int .i64 1))),
ao 9 (.indexSl 1 (.t 6) (.t 8)),
ao 10 (.load false 1 (.t 9)),
mv 2 10])
.ret))) }
def w96 : WF := { nt := 15, results := [(0, none)], code :=
(.seq (.reg [ao 0 (.mov (.c .nilmap))])
(.seq (.reg [ao 1 (.mem .makeMap []),
ao 2 (.call 132 [(.c (.fn (.func 133) [] []))]),
an (.mem (.mapPut .str) [(.t 1), (.c (.str ⟨#[68, 85, 80]⟩)), (.t 2)]),
ao 3 (.call 132 [(.c (.fn (.func 135) [] []))]),
an (.mem (.mapPut .str) [(.t 1), (.c (.str ⟨#[68, 82, 79, 80]⟩)), (.t 3)]),
ao 4 (.call 136 [(.c (.fn (.func 137) [] []))]),
an (.mem (.mapPut .str) [(.t 1), (.c (.str ⟨#[83, 87, 65, 80]⟩)), (.t 4)]),
ao 5 (.call 136 [(.c (.fn (.func 138) [] []))]),
an (.mem (.mapPut .str) [(.t 1), (.c (.str ⟨#[79, 86, 69, 82]⟩)), (.t 5)]),
ao 6 (.call 139 [(.c (.fn (.func 140) [] []))]),
an (.mem (.mapPut .str) [(.t 1), (.c (.str ⟨#[82, 79, 84]⟩)), (.t 6)]),
ao 7 (.call 136 [(.c (.fn (.func 141) [] []))]),
an (.mem (.mapPut .str) [(.t 1), (.c (.str ⟨#[78, 73, 80]⟩)), (.t 7)]),
ao 8 (.call 136 [(.c (.fn (.func 142) [] []))]),
an (.mem (.mapPut .str) [(.t 1), (.c (.str ⟨#[84, 85, 67, 75]⟩)), (.t 8)]),
ao 9 (.call 136 [(.c (.fn (.func 143) [] []))]),
an (.mem (.mapPut .str) [(.t 1), (.c (.str ⟨#[50, 68, 85, 80]⟩)), (.t 9)]),
ao 10 (.call 136 [(.c (.fn (.func 144) [] []))]),
an (.mem (.mapPut .str) [(.t 1), (.c (.str ⟨#[50, 68, 82, 79, 80]⟩)), (.t 10)]),
ao 11 (.call 145 [(.c (.fn (.func 146) [] []))]),
an (.mem (.mapPut .str) [(.t 1), (.c (.str ⟨#[50, 83, 87, 65, 80]⟩)), (.t 11)]),
ao 12 (.call 145 [(.c (.fn (.func 147) [] []))]),
an (.mem (.mapPut .str) [(.t 1), (.c (.str ⟨#[50, 79, 86, 69, 82]⟩)), (.t 12)]),
ao 13 (.call 132 [(.c (.fn (.func 148) [] []))]),
an (.mem (.mapPut .str) [(.t 1), (.c (.str ⟨#[63, 68, 85, 80]⟩)), (.t 13)]),
an (.mem (.mapPut .str) [(.t 1), (.c (.str ⟨#[80, 73, 67, 75]⟩)), (.c (.fn (.func 149) [] []))]),
an (.mem (.mapPut .str) [(.t 1), (.c (.str ⟨#[82, 79, 76, 76]⟩)), (.c (.fn (.func 154) [] []))]),
an (.mem (.mapPut .str) [(.t 1), (.c (.str ⟨#[68, 69, 80, 84, 72]⟩)), (.c (.fn (.func 156) [] []))]),
an (.mem (.mapPut .str) [(.t 1), (.c (.str ⟨#[84, 82, 85, 69]⟩)), (.c (.fn (.func 157) [] []))]),
an (.mem (.mapPut .str) [(.t 1), (.c (.str ⟨#[70, 65, 76, 83, 69]⟩)), (.c (.fn (.func 158) [] []))]),
mv 14 1,
mv 0 14])
.ret)) }
def w97 : WF := { nt := 27, results := [(0, none)], code :=
(.seq (.reg [ao 0 (.mov (.c .nilmap))])
(.seq (.reg [ao 1 (.mem .makeMap []),
ao 2 (.call 136 [(.c (.fn (.func 159) [] []))]),
an (.mem (.mapPut .str) [(.t 1), (.c (.str ⟨#[43]⟩)), (.t 2)]),
ao 3 (.call 136 [(.c (.fn (.func 160) [] []))]),
an (.mem (.mapPut .str) [(.t 1), (.c (.str ⟨#[45]⟩)), (.t 3)]),
ao 4 (.call 136 [(.c (.fn (.func 161) [] []))]),
an (.mem (.mapPut .str) [(.t 1), (.c (.str ⟨#[42]⟩)), (.t 4)]),
ao 5 (.call 162 [(.c (.fn (.func 163) [] []))]),
an (.mem (.mapPut .str) [(.t 1), (.c (.str ⟨#[47]⟩)), (.t 5)]),
ao 6 (.call 162 [(.c (.fn (.func 164) [] []))]),
an (.mem (.mapPut .str) [(.t 1), (.c (.str ⟨#[77, 79, 68]⟩)), (.t 6)]),
ao 7 (.call 162 [(.c (.fn (.func 165) [] []))]),
an (.mem (.mapPut .str) [(.t 1), (.c (.str ⟨#[47, 77, 79, 68]⟩)), (.t 7)]),
ao 8 (.call 166 [(.c (.fn (.func 163) [] []))]),
an (.mem (.mapPut .str) [(.t 1), (.c (.str ⟨#[42, 47]⟩)), (.t 8)]),
ao 9 (.call 166 [(.c (.fn (.func 165) [] []))]),
an (.mem (.mapPut .str) [(.t 1), (.c (.str ⟨#[42, 47, 77, 79, 68]⟩)), (.t 9)]),
ao 10 (.call 132 [(.c (.fn (.func 167) [] []))]),
an (.mem (.mapPut .str) [(.t 1), (.c (.str ⟨#[49, 43]⟩)), (.t 10)]),
ao 11 (.call 132 [(.c (.fn (.func 168) [] []))]),
an (.mem (.mapPut .str) [(.t 1), (.c (.str ⟨#[49, 45]⟩)), (.t 11)]),
ao 12 (.call 132 [(.c (.fn (.func 169) [] []))]),
an (.mem (.mapPut .str) [(.t 1), (.c (.str ⟨#[50, 42]⟩)), (.t 12)]),
ao 13 (.call 132 [(.c (.fn (.func 170) [] []))]),
an (.mem (.mapPut .str) [(.t 1), (.c (.str ⟨#[50, 47]⟩)), (.t 13)]),
ao 14 (.call 132 [(.c (.fn (.func 171) [] []))]),
an (.mem (.mapPut .str) [(.t 1), (.c (.str ⟨#[78, 69, 71, 65, 84, 69]⟩)), (.t 14)]),
ao 15 (.call 132 [(.c (.fn (.func 172) [] []))]),
an (.mem (.mapPut .str) [(.t 1), (.c (.str ⟨#[65, 66, 83]⟩)), (.t 15)]),
ao 16 (.call 136 [(.c (.fn (.func 173) [] []))]),
an (.mem (.mapPut .str) [(.t 1), (.c (.str ⟨#[77, 73, 78]⟩)), (.t 16)]),
ao 17 (.call 136 [(.c (.fn (.func 174) [] []))]),
an (.mem (.mapPut .str) [(.t 1), (.c (.str ⟨#[77, 65, 88]⟩)), (.t 17)]),
ao 18 (.call 136 [(.c (.fn (.func 175) [] []))]),
an (.mem (.mapPut .str) [(.t 1), (.c (.str ⟨#[65, 78, 68]⟩)), (.t 18)]),
ao 19 (.call 136 [(.c (.fn (.func 176) [] []))]),
an (.mem (.mapPut .str) [(.t 1), (.c (.str ⟨#[79, 82]⟩)), (.t 19)]),
ao 20 (.call 136 [(.c (.fn (.func 177) [] []))]),
an (.mem (.mapPut .str) [(.t 1), (.c (.str ⟨#[88, 79, 82]⟩)), (.t 20)]),
ao 21 (.call 132 [(.c (.fn (.func 178) [] []))]),
an (.mem (.mapPut .str) [(.t 1), (.c (.str ⟨#[73, 78, 86, 69, 82, 84]⟩)), (.t 21)]),
ao 22 (.call 136 [(.c (.fn (.func 179) [] []))]),
an (.mem (.mapPut .str) [(.t 1), (.c (.str ⟨#[76, 83, 72, 73, 70, 84]⟩)), (.t 22)]),
ao 23 (.call 136 [(.c (.fn (.func 181) [] []))]),
an (.mem (.mapPut .str) [(.t 1), (.c (.str ⟨#[82, 83, 72, 73, 70, 84]⟩)), (.t 23)]),
ao 24 (.call 132 [(.c (.fn (.func 183) [] []))]),
an (.mem (.mapPut .str) [(.t 1), (.c (.str ⟨#[67, 69, 76, 76, 83]⟩)), (.t 24)]),
ao 25 (.call 132 [(.c (.fn (.func 184) [] []))]),
an (.mem (.mapPut .str) [(.t 1), (.c (.str ⟨#[67, 69, 76, 76, 43]⟩)), (.t 25)]),
mv 26 1,
mv 0 26])
.ret)) }
def w98 : WF := { nt := 15, results := [(0, none)], code :=
(.seq (.reg [ao 0 (.mov (.c .nilmap))])
(.seq (.reg [ao 1 (.mem .makeMap []),
ao 2 (.call 136 [(.c (.fn (.func 185) [] []))]),
an (.mem (.mapPut .str) [(.t 1), (.c (.str ⟨#[61]⟩)), (.t 2)]),
ao 3 (.call 136 [(.c (.fn (.func 187) [] []))]),
an (.mem (.mapPut .str) [(.t 1), (.c (.str ⟨#[60, 62]⟩)), (.t 3)]),
ao 4 (.call 136 [(.c (.fn (.func 188) [] []))]),
an (.mem (.mapPut .str) [(.t 1), (.c (.str ⟨#[60]⟩)), (.t 4)]),
ao 5 (.call 136 [(.c (.fn (.func 189) [] []))]),
an (.mem (.mapPut .str) [(.t 1), (.c (.str ⟨#[62]⟩)), (.t 5)]),
ao 6 (.call 136 [(.c (.fn (.func 190) [] []))]),
an (.mem (.mapPut .str) [(.t 1), (.c (.str ⟨#[85, 60]⟩)), (.t 6)]),
ao 7 (.call 132 [(.c (.fn (.func 192) [] []))]),
an (.mem (.mapPut .str) [(.t 1), (.c (.str ⟨#[48, 61]⟩)), (.t 7)]),
ao 8 (.call 132 [(.c (.fn (.func 193) [] []))]),
an (.mem (.mapPut .str) [(.t 1), (.c (.str ⟨#[48, 60]⟩)), (.t 8)]),
ao 9 (.call 132 [(.c (.fn (.func 194) [] []))]),
an (.mem (.mapPut .str) [(.t 1), (.c (.str ⟨#[48, 60, 62]⟩)), (.t 9)]),
ao 10 (.call 132 [(.c (.fn (.func 195) [] []))]),
an (.mem (.mapPut .str) [(.t 1), (.c (.str ⟨#[48, 62]⟩)), (.t 10)]),
ao 11 (.call 139 [(.c (.fn (.func 196) [] []))]),
an (.mem (.mapPut .str) [(.t 1), (.c (.str ⟨#[87, 73, 84, 72, 73, 78]⟩)), (.t 11)]),
ao 12 (.call 136 [(.c (.fn (.func 198) [] []))]),
an (.mem (.mapPut .str) [(.t 1), (.c (.str ⟨#[70, 60]⟩)), (.t 12)]),
ao 13 (.call 136 [(.c (.fn (.func 200) [] []))]),
an (.mem (.mapPut .str) [(.t 1), (.c (.str ⟨#[70, 61]⟩)), (.t 13)]),
mv 14 1,
mv 0 14])
.ret)) }
def w99 : WF := { nt := 27, results := [(0, none)], code :=
(.seq (.reg [ao 0 (.mov (.c .nilmap))])
(.seq (.reg [ao 1 (.mov (.c (.fn (.func 202) [] [])))])
(.seq (.reg [ao 2 (.mov (.c (.fn (.func 205) [] [])))])
(.seq (.reg [ao 3 (.mem .makeMap []),
mv 4 1,
ao 5 (.callv (.t 4) [(.c (.int .u8 43))]),
an (.mem (.mapPut .str) [(.t 3), (.c (.str ⟨#[70, 43]⟩)), (.t 5)]),
mv 6 1,
ao 7 (.callv (.t 6) [(.c (.int .u8 45))]),
an (.mem (.mapPut .str) [(.t 3), (.c (.str ⟨#[70, 45]⟩)), (.t 7)]),
mv 8 1,
ao 9 (.callv (.t 8) [(.c (.int .u8 42))]),
an (.mem (.mapPut .str) [(.t 3), (.c (.str ⟨#[70, 42]⟩)), (.t 9)]),
mv 10 1,
ao 11 (.callv (.t 10) [(.c (.int .u8 47))]),
an (.mem (.mapPut .str) [(.t 3), (.c (.str ⟨#[70, 47]⟩)), (.t 11)]),
mv 12 1,
ao 13 (.callv (.t 12) [(.c (.int .u8 109))]),
an (.mem (.mapPut .str) [(.t 3), (.c (.str ⟨#[70, 77, 73, 78]⟩)), (.t 13)]),
mv 14 1,
ao 15 (.callv (.t 14) [(.c (.int .u8 77))]),
an (.mem (.mapPut .str) [(.t 3), (.c (.str ⟨#[70, 77, 65, 88]⟩)), (.t 15)]),
mv 16 2,
ao 17 (.callv (.t 16) [(.c (.int .u8 110))]),
an (.mem (.mapPut .str) [(.t 3), (.c (.str ⟨#[70, 78, 69, 71, 65, 84, 69]⟩)), (.t 17)]),
mv 18 2,
ao 19 (.callv (.t 18) [(.c (.int .u8 97))]),
an (.mem (.mapPut .str) [(.t 3), (.c (.str ⟨#[70, 65, 66, 83]⟩)), (.t 19)]),
mv 20 2,
ao 21 (.callv (.t 20) [(.c (.int .u8 115))]),
an (.mem (.mapPut .str) [(.t 3), (.c (.str ⟨#[70, 83, 81, 82, 84]⟩)), (.t 21)]),
mv 22 2,
ao 23 (.callv (.t 22) [(.c (.int .u8 102))]),
an (.mem (.mapPut .str) [(.t 3), (.c (.str ⟨#[70, 76, 79, 79, 82]⟩)), (.t 23)]),
ao 24 (.call 132 [(.c (.fn (.func 208) [] []))]),
an (.mem (.mapPut .str) [(.t 3), (.c (.str ⟨#[83, 62, 70]⟩)), (.t 24)]),
ao 25 (.call 132 [(.c (.fn (.func 210) [] []))]),
an (.mem (.mapPut .str) [(.t 3), (.c (.str ⟨#[70, 62, 83]⟩)), (.t 25)]),
mv 26 3,
mv 0 26])
.ret)))) }
def w100 : WF := { nt := 12, results := [], rcv := some 5, code :=
(.block 0 (.seq (.reg [ao 7 (.pur (.isNilI true) [(.t 5)])])
(.cond (.t 7)
(.reg [mv 2 5])
(.seq (.reg [ao 8 (.pur (.assert 143 (some (.int .i64 0))) [(.t 5)]),
ao 9 (.extract 1 (.t 8)),
ao 10 (.extract 0 (.t 8))])
(.cond (.t 9)
(.seq (.reg [mv 3 10])
(.reg [mv 11 3,
an (.store 1 (.t 0) (.c (.list [] true))),
an (.store 1 (.t 1) (.t 11))]))
(.seq (.reg [mv 4 5])
(.reg [mv 6 4,
an (.panic (.t 6))]))))))) }
def w101 : WF := { nt := 8, results := [], code :=
(.seq (.reg [mv 4 0,
ao 5 (.un .not (.t 4))])
(.cond (.t 5)
(.reg [mv 6 1,
ao 7 (.call 152 [(.t 6)])])
.skip)) }
def w115 : WF := { nt := 8, results := [(2, none)], code :=
(.seq (.reg [ao 2 (.mov (.c (.list [] true)))])
(.seq (.seq (.reg [mv 3 0,
ao 4 (.pur (.isNil true) [(.t 3)])])
(.cond (.t 4)
(.seq (.reg [ao 2 (.mov (.c (.list [] true)))])
.ret)
.skip))
(.seq (.reg [ao 5 (.buildSlice 4 0 [(.str ⟨#[]⟩), (.int .i64 0), (.bool false), (.bool false)] []),
mv 6 0,
ao 7 (.append 4 32 none (.t 5) (.t 6)),
mv 2 7])
.ret))) }
def w116 : WF := { nt := 28, results := [], code :=
(.seq (.reg [mv 4 0,
ao 5 (.len (.t 4)),
ao 6 (.bin .sub .no (.t 5) (.c (.int .i64 1))),
ao 2 (.mov (.c (.int .i64 0))),
mv 3 6])
(.block 0 (.loop (.seq (.seq (.reg [mv 7 2,
mv 8 3,
ao 9 (.bin .lss .no (.t 7) (.t 8))])
(.cond (.t 9)
.skip
(.exit 0)))
(.seq (.block 1 (.calm [mv 14 0,
mv 15 2,
mv 16 0,
mv 17 3,
mv 18 0,
mv 19 3,
⟨(some 20), .indexSl 4 (.t 18) (.t 19), none, [4, 5], false⟩,
⟨(some 21), .load true 4 (.t 20), none, [6], false⟩,
mv 22 0,
mv 23 2,
⟨(some 24), .indexSl 4 (.t 22) (.t 23), none, [8, 9], false⟩,
⟨(some 25), .load true 4 (.t 24), none, [10], false⟩,
⟨(some 26), .indexSl 4 (.t 14) (.t 15), none, [0, 1, 0, 1, 4, 5, 6, 7, 11], false⟩,
⟨none, .store 4 (.t 26) (.t 21), none, [12, 7, 0, 1, 4, 5, 6, 7, 11], true⟩,
⟨(some 27), .indexSl 4 (.t 16) (.t 17), none, [2, 3, 0, 1, 2, 3, 4, 5, 6, 7, 8, 9, 10, 11, 12, 13], false⟩,
⟨none, .store 4 (.t 27) (.t 25), none, [14, 11, 13, 0, 1, 2, 3, 4, 5, 6, 7, 8, 9, 10, 11, 12, 13], true⟩]))
(.reg [mv 10 2,
ao 11 (.bin .add .no (.t 10) (.c (.int .i64 1))),
mv 12 3,
ao 13 (.bin .sub .no (.t 12) (.c (.int .i64 1))),
mv 2 11,
mv 3 13])))))) }
def w117 : WF := { nt := 14, results := [(4, none)], code :=
(.seq (.reg [ao 4 (.mov (.c (.int .i64 0)))])
(.seq (.reg [mv 6 0,
mv 7 1,
ao 8 (.call 317 [(.t 6), (.t 7)]),
mv 5 8])
(.seq (.seq (.reg [mv 9 5,
ao 10 (.bin .lss .no (.t 9) (.c (.int .i64 0)))])
(.cond (.t 10)
(.seq (.reg [mv 11 0,
ao 12 (.len (.t 11)),
mv 4 12])
.ret)
.skip))
(.seq (.reg [mv 13 5,
mv 4 13])
.ret)))) }
def w120 : WF := { nt := 18, results := [(0, none)], code :=
(.seq (.reg [ao 0 (.mov (.c .nilmap))])
(.seq (.reg [ao 4 (.mem .makeMap []),
mv 1 4])
(.seq (.seq (.reg [ao 5 (.call 131 []),
ao 6 (.len (.t 5)),
ao 7 (.mov (.c (.int .i64 0)))])
(.block 0 (.loop (.seq (.reg [ao 8 (.bin .lss .no (.t 7) (.t 6))])
(.seq (.cond (.t 8)
.skip
(.exit 0))
(.seq (.block 1 (.seq (.reg [mv 9 7,
ao 10 (.indexSl 1 (.t 5) (.t 7)),
ao 11 (.load false 1 (.t 10)),
mv 2 9,
mv 3 11])
(.reg [mv 12 1,
mv 13 3,
mv 14 2,
ao 15 (.bin .add .no (.t 14) (.c (.int .i64 1))),
an (.mem (.mapPut .str) [(.t 12), (.t 13), (.t 15)])])))
(.reg [ao 16 (.bin .add .no (.t 7) (.c (.int .i64 1))),
mv 7 16])))))))
(.seq (.reg [mv 17 1,
mv 0 17])
.ret)))) }
def w121 : WF := { nt := 11, results := [(2, none)], code :=
(.seq (.reg [ao 2 (.mov (.c (.bool false)))])
(.seq (.reg [mv 3 0,
ao 4 (.bin .geq .no (.t 3) (.c (.int .i64 1))),
mv 5 4,
ag 6 (.mov (.t 0)) 5 true,
ag 7 (.call 131 []) 5 true,
ag 8 (.len (.t 7)) 5 true,
ag 9 (.bin .leq .no (.t 6) (.t 8)) 5 true,
ao 10 (.pick (.t 5) (.t 9) (.c (.bool false))),
mv 2 10])
.ret)) }
def w122 : WF := { nt := 9, results := [(4, none)], code :=
(.seq (.reg [ao 4 (.mov (.c (.bool false)))])
(.seq (.reg [mv 5 0,
mv 6 1,
ao 7 (.call 321 [(.t 5), (.t 6)]),
ao 8 (.bin .geq .no (.t 7) (.c (.int .i64 0))),
mv 4 8])
.ret)) }
def w123 : WF := { nt := 106, results := [(2, none)], code :=
(.seq (.reg [ao 2 (.mov (.c (.list [] true)))])
(.seq (.reg [ao 3 (.mov (.c (.int .i64 0)))])
(.seq (.reg [ao 4 (.mov (.c (.int .i64 1)))])
(.seq (.reg [ao 5 (.mov (.c (.int .u8 0)))])
(.seq (.seq (.reg [ao 6 (.mov (.c (.int .i64 0)))])
(.block 0 (.loop (.seq (.seq (.reg [mv 13 6,
mv 14 0,
ao 15 (.lenS (.t 14)),
ao 16 (.bin .lss .no (.t 13) (.t 15))])
(.cond (.t 16)
.skip
(.exit 0)))
(.seq (.block 1 (.seq (.reg [mv 19 0,
mv 20 6,
ao 21 (.indexStr (.t 19) (.t 20)),
mv 7 21])
(.seq (.reg [mv 22 5,
mv 23 7,
ao 24 (.bin .or .no (.t 22) (.t 23)),
mv 5 24])
(.seq (.reg [mv 25 7,
ao 26 (.indexPA 256 1 (.c glA) (.t 25)),
ao 27 (.load false 1 (.t 26)),
ao 28 (.conv (.int .i64) (.t 27)),
mv 8 28])
(.seq (.reg [mv 29 3,
mv 30 4,
mv 31 8,
ao 32 (.un .xor (.t 31)),
ao 33 (.bin .and .no (.t 30) (.t 32)),
ao 34 (.bin .add .no (.t 29) (.t 33)),
mv 3 34])
(.reg [mv 35 8,
mv 4 35]))))))
(.reg [mv 17 6,
ao 18 (.bin .add .no (.t 17) (.c (.int .i64 1))),
mv 6 18]))))))
(.seq (.seq (.reg [mv 36 5,
ao 37 (.bin .geq .no (.t 36) (.c (.int .u8 128)))])
(.cond (.t 37)
(.seq (.reg [mv 38 0,
ao 39 (.call 322 [(.t 38), (.c (.fn (.func 323) [] []))]),
mv 2 39])
.ret)
.skip))
(.seq (.reg [mv 40 3,
ao 41 (.makeSlice 1 16 [(.str ⟨#[]⟩)] (.t 40) (.t 40)),
mv 9 41])
(.seq (.reg [ao 10 (.mov (.c (.int .i64 0)))])
(.seq (.reg [ao 11 (.mov (.c (.int .i64 0)))])
(.seq (.reg [ao 12 (.mov (.c (.int .i64 0)))])
(.seq (.block 2 (.loop (.seq (.seq (.reg [mv 42 12,
mv 43 0,
ao 44 (.lenS (.t 43)),
ao 45 (.bin .lss .no (.t 42) (.t 44)),
mv 46 45,
ag 47 (.mov (.t 0)) 46 true,
ag 48 (.mov (.t 12)) 46 true,
ag 49 (.indexStr (.t 47) (.t 48)) 46 true,
ag 50 (.indexPA 256 1 (.c glA) (.t 49)) 46 true,
ag 51 (.load false 1 (.t 50)) 46 true,
ag 52 (.bin .neq .no (.t 51) (.c (.int .u8 0))) 46 true,
ao 53 (.pick (.t 46) (.t 52) (.c (.bool false)))])
(.cond (.t 53)
.skip
(.exit 2)))
(.block 3 (.reg [mv 54 12,
ao 55 (.bin .add .no (.t 54) (.c (.int .i64 1))),
mv 12 55])))))
(.seq (.reg [mv 56 12,
mv 11 56])
(.seq (.block 4 (.loop (.seq (.seq (.reg [mv 57 12,
mv 58 0,
ao 59 (.lenS (.t 58)),
ao 60 (.bin .lss .no (.t 57) (.t 59))])
(.cond (.t 60)
.skip
(.exit 4)))
(.block 5 (.seq (.seq (.reg [mv 61 0,
mv 62 12,
ao 63 (.indexStr (.t 61) (.t 62)),
ao 64 (.indexPA 256 1 (.c glA) (.t 63)),
ao 65 (.load false 1 (.t 64)),
ao 66 (.bin .eql .no (.t 65) (.c (.int .u8 0)))])
(.cond (.t 66)
(.seq (.reg [mv 67 12,
ao 68 (.bin .add .no (.t 67) (.c (.int .i64 1))),
mv 12 68])
(.exit 5))
.skip))
(.seq (.reg [mv 69 9,
mv 70 10,
mv 71 0,
mv 72 11,
mv 73 12,
ao 74 (.slice .str (.t 71) (some (.t 72)) (some (.t 73)) none),
ao 75 (.indexSl 1 (.t 69) (.t 70)),
an (.store 1 (.t 75) (.t 74))])
(.seq (.reg [mv 76 10,
ao 77 (.bin .add .no (.t 76) (.c (.int .i64 1))),
mv 10 77])
(.seq (.reg [mv 78 12,
ao 79 (.bin .add .no (.t 78) (.c (.int .i64 1))),
mv 12 79])
(.seq (.block 6 (.loop (.seq (.seq (.reg [mv 80 12,
mv 81 0,
ao 82 (.lenS (.t 81)),
ao 83 (.bin .lss .no (.t 80) (.t 82)),
mv 84 83,
ag 85 (.mov (.t 0)) 84 true,
ag 86 (.mov (.t 12)) 84 true,
ag 87 (.indexStr (.t 85) (.t 86)) 84 true,
ag 88 (.indexPA 256 1 (.c glA) (.t 87)) 84 true,
ag 89 (.load false 1 (.t 88)) 84 true,
ag 90 (.bin .neq .no (.t 89) (.c (.int .u8 0))) 84 true,
ao 91 (.pick (.t 84) (.t 90) (.c (.bool false)))])
(.cond (.t 91)
.skip
(.exit 6)))
(.block 7 (.reg [mv 92 12,
ao 93 (.bin .add .no (.t 92) (.c (.int .i64 1))),
mv 12 93])))))
(.reg [mv 94 12,
mv 11 94]))))))))))
(.seq (.seq (.reg [mv 95 11,
mv 96 0,
ao 97 (.lenS (.t 96)),
ao 98 (.bin .lss .no (.t 95) (.t 97))])
(.cond (.t 98)
(.reg [mv 99 9,
mv 100 10,
mv 101 0,
mv 102 11,
ao 103 (.slice .str (.t 101) (some (.t 102)) none none),
ao 104 (.indexSl 1 (.t 99) (.t 100)),
an (.store 1 (.t 104) (.t 103))])
.skip))
(.seq (.reg [mv 105 9,
mv 2 105])
.ret))))))))))))))) }
def w124 : WF := { nt := 14, results := [(3, none)], code :=
(.seq (.reg [ao 3 (.mov (.c (.bool false)))])
(.seq (.reg [ao 7 (.load false 1 (.t 1)),
mv 8 0,
ao 9 (.call 125 [(.t 7), (.t 8)]),
mv 6 9,
ao 10 (.extract 0 (.t 6)),
ao 11 (.extract 1 (.t 6)),
mv 4 10,
mv 5 11])
(.seq (.reg [mv 12 4,
an (.store 1 (.t 1) (.t 12))])
(.seq (.reg [mv 13 5,
mv 3 13])
.ret)))) }
def w125 : WF := { nt := 11, results := [(4, none), (5, none)], code :=
(.seq (.reg [ao 4 (.mov (.c (.str ⟨#[]⟩))),
ao 5 (.mov (.c (.bool false)))])
(.seq (.reg [mv 6 0,
mv 7 1,
ao 8 (.call 324 [(.t 6), (.t 7)]),
ao 9 (.extract 0 (.t 8)),
ao 10 (.extract 1 (.t 8)),
mv 4 9,
mv 5 10])
.ret)) }
def w126 : WF := { nt := 9, results := [(2, none)], code :=
(.seq (.reg [ao 2 (.mov (.c (.bool false)))])
(.seq (.reg [mv 3 0,
ao 4 (.bin .geq .no (.t 3) (.c (.int .i64 2))),
mv 5 4,
ag 6 (.mov (.t 0)) 5 true,
ag 7 (.bin .leq .no (.t 6) (.c (.int .i64 36))) 5 true,
ao 8 (.pick (.t 5) (.t 7) (.c (.bool false))),
mv 2 8])
.ret)) }
def w127 : WF := { nt := 13, results := [(2, none)], code :=
(.seq (.reg [ao 2 (.mov (.c (.int .i64 0)))])
(.seq (.seq (.reg [mv 3 0,
ao 4 (.bin .geq .no (.t 3) (.c (.int .u8 97))),
mv 5 4,
ag 6 (.mov (.t 0)) 5 true,
ag 7 (.bin .leq .no (.t 6) (.c (.int .u8 122))) 5 true,
ao 8 (.pick (.t 5) (.t 7) (.c (.bool false)))])
(.cond (.t 8)
(.reg [mv 9 0,
ao 10 (.bin .sub .no (.t 9) (.c (.int .u8 32))),
mv 0 10])
.skip))
(.seq (.reg [mv 11 0,
ao 12 (.call 52 [(.c (.str ⟨#[48, 49, 50, 51, 52, 53, 54, 55, 56, 57, 65, 66, 67, 68, 69, 70, 71, 72, 73, 74, 75, 76, 77, 78, 79, 80, 81, 82, 83, 84, 85, 86, 87, 88, 89, 90]⟩)), (.t 11)]),
mv 2 12])
.ret))) }
def w128 : WF := { nt := 36, results := [(2, none)], code :=
(.seq (.reg [ao 2 (.mov (.c (.list [] true)))])
(.seq (.reg [ao 3 (.mov (.c (.int .i64 0)))])
(.seq (.seq (.reg [mv 9 0,
ao 10 (.len (.t 9)),
ao 11 (.mov (.c (.int .i64 0)))])
(.block 0 (.loop (.seq (.reg [ao 12 (.bin .lss .no (.t 11) (.t 10))])
(.seq (.cond (.t 12)
.skip
(.exit 0))
(.seq (.block 1 (.seq (.reg [ao 13 (.indexSl 1 (.t 9) (.t 11)),
ao 14 (.load false 1 (.t 13)),
mv 5 14])
(.seq (.reg [mv 15 3,
mv 16 5,
ao 17 (.len (.t 16)),
ao 18 (.bin .add .no (.t 15) (.t 17)),
mv 3 18])
(.seq (.reg [mv 19 3,
ao 20 (.bin .lss .no (.t 19) (.c (.int .i64 0)))])
(.cond (.t 20)
(.reg [ao 21 (.makeIface 9 (.c (.str ⟨#[108, 101, 110, 32, 111, 117, 116, 32, 111, 102, 32, 114, 97, 110, 103, 101]⟩))),
an (.panic (.t 21))])
.skip)))))
(.reg [ao 22 (.bin .add .no (.t 11) (.c (.int .i64 1))),
mv 11 22])))))))
(.seq (.reg [mv 23 3,
ao 24 (.call 325 [(.c (.list [] true)), (.t 23)]),
mv 6 24])
(.seq (.seq (.reg [mv 25 0,
ao 26 (.len (.t 25)),
ao 27 (.mov (.c (.int .i64 0)))])
(.block 2 (.loop (.seq (.reg [ao 28 (.bin .lss .no (.t 27) (.t 26))])
(.seq (.cond (.t 28)
.skip
(.exit 2))
(.seq (.block 3 (.seq (.reg [ao 29 (.indexSl 1 (.t 25) (.t 27)),
ao 30 (.load false 1 (.t 29)),
mv 8 30])
(.reg [mv 31 6,
mv 32 8,
ao 33 (.append 1 8 none (.t 31) (.t 32)),
mv 6 33])))
(.reg [ao 34 (.bin .add .no (.t 27) (.c (.int .i64 1))),
mv 27 34])))))))
(.seq (.reg [mv 35 6,
mv 2 35])
.ret)))))) }
def w131 : WF := { nt := 2, results := [(0, none)], code :=
(.seq (.reg [ao 0 (.mov (.c (.list [] true)))])
(.seq (.reg [ao 1 (.call 123 [(.c (.str ⟨#[69, 88, 73, 84, 32, 40, 76, 73, 84, 41, 32, 40, 66, 82, 65, 78, 67, 72, 41, 32, 40, 48, 66, 82, 65, 78, 67, 72, 41, 32, 40, 68, 79, 41, 32, 40, 76, 79, 79, 80, 41, 32, 40, 43, 76, 79, 79, 80, 41, 32, 40, 86, 65, 82, 41, 32, 40, 68, 79, 69, 83, 41, 32, 40, 84, 69, 88, 84, 41, 32, 40, 77, 65, 82, 75, 41, 32, 67, 79, 77, 80, 73, 76, 69, 44, 32, 68, 85, 80, 32, 68, 82, 79, 80, 32, 83, 87, 65, 80, 32, 79, 86, 69, 82, 32, 82, 79, 84, 32, 78, 73, 80, 32, 84, 85, 67, 75, 32, 63, 68, 85, 80, 32, 50, 68, 85, 80, 32, 50, 68, 82, 79, 80, 32, 50, 83, 87, 65, 80, 32, 50, 79, 86, 69, 82, 32, 80, 73, 67, 75, 32, 82, 79, 76, 76, 32, 68, 69, 80, 84, 72, 32, 43, 32, 45, 32, 42, 32, 47, 32, 77, 79, 68, 32, 47, 77, 79, 68, 32, 42, 47, 32, 42, 47, 77, 79, 68, 32, 49, 43, 32, 49, 45, 32, 50, 42, 32, 50, 47, 32, 78, 69, 71, 65, 84, 69, 32, 65, 66, 83, 32, 77, 73, 78, 32, 77, 65, 88, 32, 65, 78, 68, 32, 79, 82, 32, 88, 79, 82, 32, 73, 78, 86, 69, 82, 84, 32, 76, 83, 72, 73, 70, 84, 32, 82, 83, 72, 73, 70, 84, 32, 61, 32, 60, 62, 32, 60, 32, 62, 32, 85, 60, 32, 48, 61, 32, 48, 60, 32, 48, 60, 62, 32, 48, 62, 32, 87, 73, 84, 72, 73, 78, 32, 84, 82, 85, 69, 32, 70, 65, 76, 83, 69, 32, 67, 69, 76, 76, 83, 32, 67, 69, 76, 76, 43, 32, 70, 43, 32, 70, 45, 32, 70, 42, 32, 70, 47, 32, 70, 77, 73, 78, 32, 70, 77, 65, 88, 32, 70, 78, 69, 71, 65, 84, 69, 32, 70, 65, 66, 83, 32, 70, 83, 81, 82, 84, 32, 70, 76, 79, 79, 82, 32, 70, 60, 32, 70, 61, 32, 83, 62, 70, 32, 70, 62, 83, 32, 64, 32, 33, 32, 43, 33, 32, 67, 64, 32, 67, 33, 32, 72, 69, 82, 69, 32, 65, 76, 76, 79, 84, 32, 44, 32, 67, 44, 32, 65, 76, 73, 71, 78, 32, 66, 65, 83, 69, 32, 68, 69, 67, 73, 77, 65, 76, 32, 72, 69, 88, 32, 62, 82, 32, 82, 62, 32, 82, 64, 32, 73, 32, 74, 32, 85, 78, 76, 79, 79, 80, 32, 76, 69, 65, 86, 69, 32, 73, 70, 32, 69, 76, 83, 69, 32, 84, 72, 69, 78, 32, 66, 69, 71, 73, 78, 32, 65, 71, 65, 73, 78, 32, 85, 78, 84, 73, 76, 32, 87, 72, 73, 76, 69, 32, 82, 69, 80, 69, 65, 84, 32, 68, 79, 32, 76, 79, 79, 80, 32, 43, 76, 79, 79, 80, 32, 82, 69, 67, 85, 82, 83, 69, 32, 58, 32, 59, 32, 73, 77, 77, 69, 68, 73, 65, 84, 69, 32, 67, 79, 78, 83, 84, 65, 78, 84, 32, 86, 65, 82, 73, 65, 66, 76, 69, 32, 67, 82, 69, 65, 84, 69, 32, 68, 79, 69, 83, 62, 32, 77, 65, 82, 75, 69, 82, 32, 39, 32, 91, 39, 93, 32, 76, 73, 84, 69, 82, 65, 76, 32, 80, 79, 83, 84, 80, 79, 78, 69, 32, 91, 32, 93, 32, 69, 88, 69, 67, 85, 84, 69, 32, 67, 72, 65, 82, 32, 91, 67, 72, 65, 82, 93, 32, 40, 32, 92, 32, 46, 34, 32, 69, 77, 73, 84, 32, 67, 82, 32, 83, 80, 65, 67, 69, 32, 46, 32, 84, 89, 80, 69, 32, 75, 69, 89, 32, 84, 72, 82, 79, 87, 32, 65, 66, 79, 82, 84]⟩))]),
mv 0 1])
.ret)) }
def w132 : WF := { nt := 4, results := [(2, none)], code :=
(.seq (.reg [ao 1 (.box (.t 0)),
ao 2 (.mov (.c .nilfn))])
(.seq (.reg [ao 3 (.makeFunc (.func 327) [] [(.t 1)]),
mv 2 3])
.ret)) }
def w134 : WF := { nt := 4, results := [(2, none)], code :=
(.seq (.reg [ao 2 (.mov (.c (.list [] true)))])
(.seq (.reg [mv 3 0,
mv 2 3])
.ret)) }
def w136 : WF := { nt := 4, results := [(2, none)], code :=
(.seq (.reg [ao 1 (.box (.t 0)),
ao 2 (.mov (.c .nilfn))])
(.seq (.reg [ao 3 (.makeFunc (.func 328) [] [(.t 1)]),
mv 2 3])
.ret)) }
def w139 : WF := { nt := 4, results := [(2, none)], code :=
(.seq (.reg [ao 1 (.box (.t 0)),
ao 2 (.mov (.c .nilfn))])
(.seq (.reg [ao 3 (.makeFunc (.func 330) [] [(.t 1)]),
mv 2 3])
.ret)) }
def w145 : WF := { nt := 4, results := [(2, none)], code :=
(.seq (.reg [ao 1 (.box (.t 0)),
ao 2 (.mov (.c .nilfn))])
(.seq (.reg [ao 3 (.makeFunc (.func 331) [] [(.t 1)]),
mv 2 3])
.ret)) }
def w150 : WF := { nt := 24, results := [(2, none)], code :=
(.seq (.reg [ao 2 (.mov (.c (.int .i64 0)))])
(.seq (.reg [mv 7 0,
ao 8 (.nilCheck (.t 7)),
ao 9 (.fieldAddr 0 (.t 8)),
ao 10 (.load false 1 (.t 9)),
ao 11 (.call 332 [(.t 10), (.c (.int .i64 1))]),
mv 6 11,
ao 12 (.extract 0 (.t 6)),
ao 13 (.extract 1 (.t 6)),
ao 14 (.extract 2 (.t 6)),
mv 3 12,
mv 4 13,
mv 5 14])
(.seq (.reg [mv 15 5,
ao 16 (.call 152 [(.t 15)])])
(.seq (.reg [mv 17 0,
mv 18 3,
ao 19 (.nilCheck (.t 17)),
ao 20 (.fieldAddr 0 (.t 19)),
an (.store 1 (.t 20) (.t 18))])
(.seq (.reg [mv 21 4,
ao 22 (.indexSl 1 (.t 21) (.c (.int .i64 0))),
ao 23 (.load false 1 (.t 22)),
mv 2 23])
.ret))))) }
def w152 : WF := { nt := 6, results := [], code :=
(.seq (.reg [mv 2 0,
ao 3 (.bin .neq .no (.t 2) (.c (.int .i64 0)))])
(.cond (.t 3)
(.reg [mv 4 0,
ao 5 (.makeIface 143 (.t 4)),
an (.panic (.t 5))])
.skip)) }
def w153 : WF := { nt := 24, results := [], code :=
(.calm [mv 4 0,
mv 5 0,
⟨(some 6), .nilCheck (.t 5), none, [1], false⟩,
⟨(some 7), .fieldAddr 0 (.t 6), none, [2], false⟩,
⟨(some 8), .load false 1 (.t 7), none, [3], false⟩,
mv 9 0,
⟨(some 10), .nilCheck (.t 9), none, [5], false⟩,
⟨(some 11), .fieldAddr 0 (.t 10), none, [6], false⟩,
⟨(some 12), .load false 1 (.t 11), none, [7], false⟩,
⟨(some 13), .len (.t 12), none, [8], false⟩,
mv 14 0,
⟨(some 15), .nilCheck (.t 14), none, [10], false⟩,
⟨(some 16), .fieldAddr 0 (.t 15), none, [11], false⟩,
⟨(some 17), .load false 1 (.t 16), none, [12], false⟩,
⟨(some 18), .len (.t 17), none, [13], false⟩,
⟨(some 19), .slice (.sl 1) (.t 8) none (some (.t 13)) (some (.t 18)), none, [4, 9, 14], false⟩,
mv 20 1,
⟨(some 21), .append 1 8 none (.t 19) (.t 20), none, [15, 16], true⟩,
⟨(some 22), .nilCheck (.t 4), none, [0, 0, 1, 2, 3, 4, 5, 6, 7, 8, 9, 10, 11, 12, 13, 14, 15, 16, 17], false⟩,
⟨(some 23), .fieldAddr 0 (.t 22), none, [18, 0, 1, 2, 3, 4, 5, 6, 7, 8, 9, 10, 11, 12, 13, 14, 15, 16, 17], false⟩,
⟨none, .store 1 (.t 23) (.t 21), none, [19, 17, 17, 0, 1, 2, 3, 4, 5, 6, 7, 8, 9, 10, 11, 12, 13, 14, 15, 16, 17], true⟩]) }
def w159 : WF := { nt := 10, results := [(4, none)], code :=
(.seq (.reg [ao 4 (.mov (.c (.list [] true)))])
(.seq (.reg [mv 5 0,
mv 6 1,
ao 7 (.bin .add .no (.t 5) (.t 6)),
ao 8 (.buildSlice 1 1 [(.int .i64 0)] [(0, 1, (.t 7))]),
ao 9 (.call 134 [(.t 8)]),
mv 4 9])
.ret)) }
def w162 : WF := { nt := 5, results := [(2, none)], code :=
(.seq (.reg [ao 1 (.box (.t 0)),
ao 2 (.mov (.c .nilfn))])
(.seq (.reg [ao 3 (.makeFunc (.func 334) [] [(.t 1)]),
ao 4 (.call 136 [(.t 3)]),
mv 2 4])
.ret)) }
def w166 : WF := { nt := 5, results := [(2, none)], code :=
(.seq (.reg [ao 1 (.box (.t 0)),
ao 2 (.mov (.c .nilfn))])
(.seq (.reg [ao 3 (.makeFunc (.func 337) [] [(.t 1)]),
ao 4 (.call 139 [(.t 3)]),
mv 2 4])
.ret)) }
def w202 : WF := { nt := 5, results := [(2, none)], code :=
(.seq (.reg [ao 1 (.box (.t 0)),
ao 2 (.mov (.c .nilfn))])
(.seq (.reg [ao 3 (.makeFunc (.func 203) [] [(.t 1)]),
ao 4 (.call 136 [(.t 3)]),
mv 2 4])
.ret)) }
def w205 : WF := { nt := 5, results := [(2, none)], code :=
(.seq (.reg [ao 1 (.box (.t 0)),
ao 2 (.mov (.c .nilfn))])
(.seq (.reg [ao 3 (.makeFunc (.func 206) [] [(.t 1)]),
ao 4 (.call 132 [(.t 3)]),
mv 2 4])
.ret)) }
def w317 : WF := { nt := 19, results := [(4, none)], code :=
(.seq (.reg [ao 4 (.mov (.c (.int .i64 0)))])
(.seq (.seq (.reg [mv 6 0,
ao 7 (.len (.t 6)),
ao 8 (.mov (.c (.int .i64 0)))])
(.block 0 (.loop (.seq (.reg [ao 9 (.bin .lss .no (.t 8) (.t 7))])
(.seq (.cond (.t 9)
.skip
(.exit 0))
(.seq (.block 1 (.seq (.reg [mv 10 8,
mv 5 10])
(.seq (.reg [mv 11 1,
mv 12 0,
mv 13 5,
ao 14 (.indexSl 4 (.t 12) (.t 13)),
ao 15 (.load true 4 (.t 14)),
ao 16 (.callv (.t 11) [(.t 15)])])
(.cond (.t 16)
(.seq (.reg [mv 17 5,
mv 4 17])
.ret)
.skip))))
(.reg [ao 18 (.bin .add .no (.t 8) (.c (.int .i64 1))),
mv 8 18])))))))
(.seq (.reg [ao 4 (.mov (.c (.int .i64 (-1))))])
.ret))) }
def w321 : WF := { nt := 19, results := [(4, none)], code :=
(.seq (.reg [ao 4 (.mov (.c (.int .i64 0)))])
(.seq (.seq (.reg [mv 6 0,
ao 7 (.len (.t 6)),
ao 8 (.mov (.c (.int .i64 0)))])
(.block 0 (.loop (.seq (.reg [ao 9 (.bin .lss .no (.t 8) (.t 7))])
(.seq (.cond (.t 9)
.skip
(.exit 0))
(.seq (.block 1 (.seq (.reg [mv 10 8,
mv 5 10])
(.seq (.reg [mv 11 1,
mv 12 0,
mv 13 5,
ao 14 (.indexSl 1 (.t 12) (.t 13)),
ao 15 (.load false 1 (.t 14)),
ao 16 (.bin .eql .no (.t 11) (.t 15))])
(.cond (.t 16)
(.seq (.reg [mv 17 5,
mv 4 17])
.ret)
.skip))))
(.reg [ao 18 (.bin .add .no (.t 8) (.c (.int .i64 1))),
mv 8 18])))))))
(.seq (.reg [ao 4 (.mov (.c (.int .i64 (-1))))])
.ret))) }
def w324 : WF := { nt := 15, results := [(4, none), (5, none)], code :=
(.seq (.reg [ao 4 (.mov (.c (.str ⟨#[]⟩))),
ao 5 (.mov (.c (.bool false)))])
(.seq (.seq (.reg [mv 6 0,
mv 7 1,
ao 8 (.call 326 [(.t 6), (.t 7)]),
ao 9 (.un .not (.t 8))])
(.cond (.t 9)
(.seq (.reg [mv 10 0,
mv 4 10,
ao 5 (.mov (.c (.bool false)))])
.ret)
.skip))
(.seq (.reg [mv 11 0,
mv 12 1,
ao 13 (.lenS (.t 12)),
ao 14 (.slice .str (.t 11) (some (.t 13)) none none),
mv 4 14,
ao 5 (.mov (.c (.bool true)))])
.ret))) }
def w325 : WF := { nt := 27, results := [(4, none)], code :=
(.seq (.reg [ao 4 (.mov (.c (.list [] true)))])
(.seq (.seq (.reg [mv 5 1,
ao 6 (.bin .lss .no (.t 5) (.c (.int .i64 0)))])
(.cond (.t 6)
(.reg [ao 7 (.makeIface 9 (.c (.str ⟨#[99, 97, 110, 110, 111, 116, 32, 98, 101, 32, 110, 101, 103, 97, 116, 105, 118, 101]⟩))),
an (.panic (.t 7))])
.skip))
(.seq (.seq (.reg [mv 8 1,
mv 9 0,
ao 10 (.cap (.t 9)),
mv 11 0,
ao 12 (.len (.t 11)),
ao 13 (.bin .sub .no (.t 10) (.t 12)),
ao 14 (.bin .sub .no (.t 8) (.t 13)),
mv 1 14])
(.seq (.reg [mv 15 1,
ao 16 (.bin .gtr .no (.t 15) (.c (.int .i64 0)))])
(.cond (.t 16)
(.reg [mv 17 0,
mv 18 0,
ao 19 (.cap (.t 18)),
ao 20 (.slice (.sl 1) (.t 17) none (some (.t 19)) none),
mv 21 1,
ao 22 (.append 1 8 (some [(.int .i64 0)]) (.t 20) (.t 21)),
mv 23 0,
ao 24 (.len (.t 23)),
ao 25 (.slice (.sl 1) (.t 22) none (some (.t 24)) none),
mv 0 25])
.skip)))
(.seq (.reg [mv 26 0,
mv 4 26])
.ret)))) }
def w326 : WF := { nt := 18, results := [(4, none)], code :=
(.seq (.reg [ao 4 (.mov (.c (.bool false)))])
(.seq (.reg [mv 5 0,
ao 6 (.lenS (.t 5)),
mv 7 1,
ao 8 (.lenS (.t 7)),
ao 9 (.bin .geq .no (.t 6) (.t 8)),
mv 10 9,
ag 11 (.mov (.t 0)) 10 true,
ag 12 (.mov (.t 1)) 10 true,
ag 13 (.lenS (.t 12)) 10 true,
ag 14 (.slice .str (.t 11) none (some (.t 13)) none) 10 true,
ag 15 (.mov (.t 1)) 10 true,
ag 16 (.bin .eql .no (.t 14) (.t 15)) 10 true,
ao 17 (.pick (.t 10) (.t 16) (.c (.bool false))),
mv 4 17])
.ret)) }
def w328 : WF := { nt := 15, results := [], code :=
(.seq (.reg [mv 4 0,
ao 5 (.call 329 [(.t 4), (.c (.int .i64 2))])])
(.seq (.reg [mv 6 0,
ao 7 (.call 150 [(.t 6)]),
mv 3 7])
(.same [mv 8 0,
ao 9 (.load false 1 (.t 1)),
mv 10 0,
⟨(some 11), .call 150 [(.t 10)], none, [2], true⟩,
mv 12 3,
⟨(some 13), .callv (.t 9) [(.t 11), (.t 12)], none, [1, 3, 4, 3], true⟩,
⟨(some 14), .call 153 [(.t 8), (.t 13)], none, [0, 5, 5], true⟩]))) }
def w329 : WF := { nt := 12, results := [], code :=
(.reg [mv 4 0,
ao 5 (.nilCheck (.t 4)),
ao 6 (.fieldAddr 0 (.t 5)),
ao 7 (.load false 1 (.t 6)),
ao 8 (.len (.t 7)),
mv 9 1,
ao 10 (.bin .geq .no (.t 8) (.t 9)),
ao 11 (.call 101 [(.t 10), (.c (.int .i64 (-4)))])]) }
def w332 : WF := { nt := 29, results := [(4, none), (5, none), (6, none)], code :=
(.seq (.reg [ao 4 (.mov (.c (.list [] true))),
ao 5 (.mov (.c (.list [] true))),
ao 6 (.mov (.c (.int .i64 0)))])
(.seq (.reg [mv 8 0,
ao 9 (.len (.t 8)),
mv 10 1,
ao 11 (.bin .sub .no (.t 9) (.t 10)),
mv 7 11])
(.seq (.seq (.reg [mv 12 1,
ao 13 (.bin .lss .no (.t 12) (.c (.int .i64 0))),
mv 14 13,
ag 15 (.mov (.t 7)) 14 false,
ag 16 (.bin .lss .no (.t 15) (.c (.int .i64 0))) 14 false,
ao 17 (.pick (.t 14) (.c (.bool true)) (.t 16))])
(.cond (.t 17)
(.seq (.reg [ao 4 (.mov (.c (.list [] true))),
ao 5 (.mov (.c (.list [] true))),
ao 6 (.mov (.c (.int .i64 (-4))))])
.ret)
.skip))
(.seq (.calm [mv 18 0,
mv 19 7,
mv 20 7,
⟨(some 21), .slice (.sl 1) (.t 18) none (some (.t 19)) (some (.t 20)), none, [0, 1, 2], false⟩,
mv 22 0,
mv 23 7,
mv 24 0,
⟨(some 25), .len (.t 24), none, [6], false⟩,
mv 26 0,
⟨(some 27), .len (.t 26), none, [8], false⟩,
⟨(some 28), .slice (.sl 1) (.t 22) (some (.t 23)) (some (.t 25)) (some (.t 27)), none, [4, 5, 7, 9], false⟩,
⟨(some 4), .mov (.t 21), none, [3, 0, 1, 2, 3], false⟩,
⟨(some 5), .mov (.t 28), none, [10, 11, 0, 1, 2, 3, 4, 5, 6, 7, 8, 9, 10, 11], false⟩,
⟨(some 6), .mov (.c (.int .i64 0)), none, [12, 0, 1, 2, 3, 4, 5, 6, 7, 8, 9, 10, 11, 12], false⟩])
.ret)))) }
def tab : List (Nat × AFun) := [(3, w3.toA), (4, w4.toA), (5, w5.toA), (6, w6.toA), (7, w7.toA), (8, w8.toA), (9, w9.toA), (10, w10.toA), (11, w11.toA), (12, w12.toA), (13, w13.toA), (14, w14.toA), (15, w15.toA), (16, w16.toA), (17, w17.toA), (18, w18.toA), (19, w19.toA), (20, w20.toA), (21, w21.toA), (22, w22.toA), (23, w23.toA), (24, w24.toA), (25, w25.toA), (26, w26.toA), (27, w27.toA), (28, w28.toA), (29, w29.toA), (30, w30.toA), (31, w31.toA), (32, w32.toA), (33, w33.toA), (34, w34.toA), (35, w35.toA), (36, w36.toA), (37, w37.toA), (38, w38.toA), (39, w39.toA), (40, w40.toA), (41, w41.toA), (42, w42.toA), (43, w43.toA), (44, w44.toA), (45, w45.toA), (46, w46.toA), (47, w47.toA), (48, w48.toA), (50, w50.toA), (51, w51.toA), (52, w52.toA), (53, w53.toA), (54, w54.toA), (55, w55.toA), (56, w56.toA), (57, w57.toA), (58, w58.toA), (60, w60.toA), (61, w61.toA), (62, w62.toA), (63, w63.toA), (64, w64.toA), (66, w66.toA), (67, w67.toA), (68, w68.toA), (69, w69.toA), (70, w70.toA), (71, w71.toA), (75, w75.toA), (81, w81.toA), (82, w82.toA), (83, w83.toA), (84, w84.toA), (85, w85.toA), (86, w86.toA), (87, w87.toA), (93, w93.toA), (94, w94.toA), (95, w95.toA), (96, w96.toA), (97, w97.toA), (98, w98.toA), (99, w99.toA), (100, w100.toA), (101, w101.toA), (115, w115.toA), (116, w116.toA), (117, w117.toA), (120, w120.toA), (121, w121.toA), (122, w122.toA), (123, w123.toA), (124, w124.toA), (125, w125.toA), (126, w126.toA), (127, w127.toA), (128, w128.toA), (131, w131.toA), (132, w132.toA), (134, w134.toA), (136, w136.toA), (139, w139.toA), (145, w145.toA), (150, w150.toA), (152, w152.toA), (153, w153.toA), (159, w159.toA), (162, w162.toA), (166, w166.toA), (202, w202.toA), (205, w205.toA), (317, w317.toA), (321, w321.toA), (324, w324.toA), (325, w325.toA), (326, w326.toA), (328, w328.toA), (329, w329.toA), (332, w332.toA)]
theorem tab_ok : ∀ x ∈ tab, cFun Tryz.prog x.1 = some x.2.erase := by
  intro x hx
  simp only [tab, List.mem_cons, List.not_mem_nil, or_false] at hx
  rcases hx with rfl | rfl | rfl | rfl | rfl | rfl | rfl | rfl | rfl | rfl | rfl | rfl | rfl | rfl | rfl | rfl | rfl | rfl | rfl | rfl | rfl | rfl | rfl | rfl | rfl | rfl | rfl | rfl | rfl | rfl | rfl | rfl | rfl | rfl | rfl | rfl | rfl | rfl | rfl | rfl | rfl | rfl | rfl | rfl | rfl | rfl | rfl | rfl | rfl | rfl | rfl | rfl | rfl | rfl | rfl | rfl | rfl | rfl | rfl | rfl | rfl | rfl | rfl | rfl | rfl | rfl | rfl | rfl | rfl | rfl | rfl | rfl | rfl | rfl | rfl | rfl | rfl | rfl | rfl | rfl | rfl | rfl | rfl | rfl | rfl | rfl | rfl | rfl | rfl | rfl | rfl | rfl | rfl | rfl | rfl | rfl | rfl | rfl | rfl | rfl | rfl | rfl | rfl | rfl | rfl | rfl | rfl | rfl | rfl | rfl | rfl | rfl | rfl | rfl | rfl | rfl | rfl
  · kernel_rfl
  · kernel_rfl
  · kernel_rfl
  · kernel_rfl
  · kernel_rfl
  · kernel_rfl
  · kernel_rfl
  · kernel_rfl
  · kernel_rfl
  · kernel_rfl
  · kernel_rfl
  · kernel_rfl
  · kernel_rfl
  · kernel_rfl
  · kernel_rfl
  · kernel_rfl
  · kernel_rfl
  · kernel_rfl
  · kernel_rfl
  · kernel_rfl
  · kernel_rfl
  · kernel_rfl
  · kernel_rfl
  · kernel_rfl
  · kernel_rfl
  · kernel_rfl
  · kernel_rfl
  · kernel_rfl
  · kernel_rfl
  · kernel_rfl
  · kernel_rfl
  · kernel_rfl
  · kernel_rfl
  · kernel_rfl
  · kernel_rfl
  · kernel_rfl
  · kernel_rfl
  · kernel_rfl
  · kernel_rfl
  · kernel_rfl
  · kernel_rfl
  · kernel_rfl
  · kernel_rfl
  · kernel_rfl
  · kernel_rfl
  · kernel_rfl
  · kernel_rfl
  · kernel_rfl
  · kernel_rfl
  · kernel_rfl
  · kernel_rfl
  · kernel_rfl
  · kernel_rfl
  · kernel_rfl
  · kernel_rfl
  · kernel_rfl
  · kernel_rfl
  · kernel_rfl
  · kernel_rfl
  · kernel_rfl
  · kernel_rfl
  · kernel_rfl
  · kernel_rfl
  · kernel_rfl
  · kernel_rfl
  · kernel_rfl
  · kernel_rfl
  · kernel_rfl
  · kernel_rfl
  · kernel_rfl
  · kernel_rfl
  · kernel_rfl
  · kernel_rfl
  · kernel_rfl
  · kernel_rfl
  · kernel_rfl
  · kernel_rfl
  · kernel_rfl
  · kernel_rfl
  · kernel_rfl
  · kernel_rfl
  · kernel_rfl
  · kernel_rfl
  · kernel_rfl
  · kernel_rfl
  · kernel_rfl
  · kernel_rfl
  · kernel_rfl
  · kernel_rfl
  · kernel_rfl
  · kernel_rfl
  · kernel_rfl
  · kernel_rfl
  · kernel_rfl
  · kernel_rfl
  · kernel_rfl
  · kernel_rfl
  · kernel_rfl
  · kernel_rfl
  · kernel_rfl
  · kernel_rfl
  · kernel_rfl
  · kernel_rfl
  · kernel_rfl
  · kernel_rfl
  · kernel_rfl
  · kernel_rfl
  · kernel_rfl
  · kernel_rfl
  · kernel_rfl
  · kernel_rfl
  · kernel_rfl
  · kernel_rfl
  · kernel_rfl
  · kernel_rfl
  · kernel_rfl
  · kernel_rfl
theorem k3 : okW w3.code = true := by kernel_rfl
theorem k4 : okW w4.code = true := by kernel_rfl
theorem k5 : okW w5.code = true := by kernel_rfl
theorem k8 : okW w8.code = true := by kernel_rfl
theorem k16 : okW w16.code = true := by kernel_rfl
theorem k17 : okW w17.code = true := by kernel_rfl
theorem k18 : okW w18.code = true := by kernel_rfl
theorem k19 : okW w19.code = true := by kernel_rfl
theorem k20 : okW w20.code = true := by kernel_rfl
theorem k26 : okW w26.code = true := by kernel_rfl
theorem k37 : okW w37.code = true := by kernel_rfl
theorem k38 : okW w38.code = true := by kernel_rfl
theorem k39 : okW w39.code = true := by kernel_rfl
theorem k40 : okW w40.code = true := by kernel_rfl
theorem k41 : okW w41.code = true := by kernel_rfl
theorem k42 : okW w42.code = true := by kernel_rfl
theorem k51 : okW w51.code = true := by kernel_rfl
theorem k66 : okW w66.code = true := by kernel_rfl
theorem k85 : okW w85.code = true := by kernel_rfl
theorem k123 : okW w123.code = true := by kernel_rfl
theorem k131 : okW w131.code = true := by kernel_rfl
def bods (k : Nat) : Option ABody := if k = 310 then some bd310 else none
theorem bods_ok (k : Nat) (ab : ABody) (h : bods k = some ab) : hasR ab.assign = false ∧ hasR ab.body = false := by
  unfold bods at h
  split at h
  · cases h; exact ⟨by kernel_rfl, by kernel_rfl⟩
  cases h
def lk : List (Nat × AFun) → FuncId → Option AFun
  | [], _ => none
  | (i, a) :: r, f => if f = i then some a else lk r f
theorem lk_mem : ∀ (t : List (Nat × AFun)) (f : FuncId) (a : AFun), lk t f = some a → (f, a) ∈ t
  | [], _, _, h => by cases h
  | (i, b) :: r, f, a, h => by
    unfold lk at h
    split at h
    · rename_i e; cases h; subst e; exact List.mem_cons_self ..
    · exact List.mem_cons_of_mem _ (lk_mem r f a h)
end Fz.D
set_option maxRecDepth 100000
namespace Fz.D
open Go Go.Proofs
def isInl (f : FuncId) : Bool := f == 33 || f == 34 || f == 37 || f == 38 || f == 43 || f == 44 || f == 47 || f == 55 || f == 57 || f == 62 || f == 66 || f == 68 || f == 70 || f == 85 || f == 93 || f == 100 || f == 115 || f == 116 || f == 122 || f == 123 || f == 124 || f == 128 || f == 159 || f == 202 || f == 205 || f == 317 || f == 321 || f == 325 || f == 328
def prim0 (f : FuncId) : Option (List V → List Ob → Option (V × List Ob)) := if f = 118 then some (liftP foldP) else if f = 92 then some (liftP idxP) else if f = 371 then some (liftP (primV .fbits)) else if f = 363 then some (liftP (primV .ffrom)) else if f = 372 then some (liftP (primV .sqrt)) else if f = 373 then some (liftP (primV (.integral .down))) else if f = 387 then some (liftP (primV (.integral .zero))) else none
def p0 : AP := { fn := lk tab, prim := prim0, inl := isInl, body := bods }
@[simp] theorem inl_eq0 (f : FuncId) : p0.inlY f = (f == 4000000000 || isInl f) := (rfl)
end Fz.D
set_option maxRecDepth 100000
namespace Fz.D
open Go Go.Proofs
theorem asc_all : ∀ b : Fin 256, asciiN[b.val]? = some (if isSp (UInt8.ofNat b.val) then 1 else 0) := by decide +kernel
theorem asc (b : UInt8) : asciiN[b.toNat]? = some (if isSp b then 1 else 0) := by
  have := asc_all ⟨b.toNat, b.toNat_lt⟩
  simpa using this
theorem asc_len : asciiN.length = 256 := by kernel_rfl
theorem asc1 (b : UInt8) : List.take 1 (List.drop b.toNat (asciiN.map (V.int .u8))) = [V.int .u8 (if isSp b then 1 else 0)] := by
  have h := asc b
  obtain ⟨h1, h2⟩ := List.getElem?_eq_some_iff.1 h
  rw [← List.map_drop, List.drop_eq_getElem_cons h1, h2]
  rfl
@[simp] theorem glA_pr (P : Nat → Nat → Prop) (R : List V → Prop) : wPR glA P R = R (asciiN.map (V.int .u8)) := (rfl)
theorem asc_ok (b : UInt8) : ((b.toNat : Int) < 256 ∧ b.toNat ≤ 256) ∧ 1 ≤ 256 - b.toNat := by
  have := b.toNat_lt
  omega
theorem u8_or (b : Int) (c : UInt8) (h0 : 0 ≤ b) (h1 : b < 128) (hc : c.toNat < 128) : 0 ≤ IntKind.u8.wrap ((((b % 2 ^ IntKind.u8.bits).toNat ||| c.toNat % 2 ^ IntKind.u8.bits) : Nat) : Int) ∧ IntKind.u8.wrap ((((b % 2 ^ IntKind.u8.bits).toNat ||| c.toNat % 2 ^ IntKind.u8.bits) : Nat) : Int) < 128 := by
  have e1 : (b % 2 ^ IntKind.u8.bits).toNat = b.toNat := by show (b % 256).toNat = _; omega
  have e2 : c.toNat % 2 ^ IntKind.u8.bits = c.toNat := by show c.toNat % 256 = _; omega
  have h2 : b.toNat ||| c.toNat < 2 ^ 7 := Nat.or_lt_two_pow (by omega) (by omega)
  rw [e1, e2]
  have : IntKind.u8.wrap ((b.toNat ||| c.toNat : Nat) : Int) = ((b.toNat ||| c.toNat : Nat) : Int) := by
    show ((b.toNat ||| c.toNat : Nat) : Int) % 256 = _
    omega
  rw [this]
  omega
theorem cntF_le : ∀ (l : List UInt8) (w : Bool), cntF l w ≤ l.length
  | [], _ => Nat.le_refl _
  | c :: r, w => by
    have := cntF_le r (isSp c)
    rw [cntF, List.length_cons]
    split <;> omega
theorem ext_list (l : List UInt8) (a b : Nat) : (ByteArray.mk l.toArray).extract a b = ⟨((l.drop a).take (b - a)).toArray⟩ := by
  apply ByteArray.ext
  rw [ByteArray.data_extract]
  simp
def wV (w : List UInt8) : V := .str ⟨w.toArray⟩
abbrev emp : V := .str ⟨#[]⟩
theorem tk_snoc {l : List UInt8} {fs i : Nat} (h1 : fs ≤ i) (h2 : i < l.length) : (l.drop fs).take (i + 1 - fs) = (l.drop fs).take (i - fs) ++ [l[i]] := by
  rw [show i + 1 - fs = i - fs + 1 from by omega, List.take_add_one]
  congr 1
  rw [List.getElem?_drop, show fs + (i - fs) = i from by omega, List.getElem?_eq_getElem h2]
  rfl
theorem words_no {c : UInt8} {r p : List UInt8} (h : isSp c = false) : wordsF (c :: r) p = wordsF r (p ++ [c]) := by
  rw [wordsF, if_neg (by rw [h]; exact Bool.false_ne_true)]
theorem words_sp {c : UInt8} {r p : List UInt8} (h : isSp c = true) (hp : p ≠ []) : wordsF (c :: r) p = p :: wordsF r [] := by
  cases p with
  | nil => exact absurd rfl hp
  | cons a p => rw [wordsF, if_pos h]; rfl
theorem fields_s {l : List UInt8} {n : Nat} (ha : ∀ c ∈ l, c.toNat < 128) (hs : l.length ≤ 100000) (hn : (wordsF l []).length = n) (hc : cntF l true = n) (hp : 0 < n) {Q : CR → List Ob → Prop}
    (hq : Q (.ret (.own 0 0 n 1)) [.live ((wordsF l []).map wV)]) : WFun p0 123 [.str ⟨l.toArray⟩] [] Q := by
  have hnl : n ≤ 100000 := by have := cntF_le l true; omega
  have hsz : (ByteArray.mk l.toArray).size = l.length := by simp [ByteArray.size]
  refine WFun_of w123 rfl rfl k123 ?_
  simp -dsimp [w123]
  refine xL_by (by kernel_rfl) (fun k e H => ∃ (i m : Nat) (w : Bool) (b : Int), i ≤ l.length ∧ k = l.length - i ∧ e 0 = .str ⟨l.toArray⟩ ∧ e 3 = .int .i64 m ∧ e 4 = .int .i64 (if w then 1 else 0) ∧ e 5 = .int .u8 b ∧ e 6 = .int .i64 i ∧ H = [] ∧ 0 ≤ b ∧ b < 128 ∧ m + cntF (l.drop i) w = n) l.length ?_ ?_
  · refine ⟨0, 0, true, 0, by omega, rfl, ?_⟩
    simp -dsimp [hc]
  · rintro k e H ⟨i, m, w, b, hi, hk, h0, h3, h4, h5, h6, rfl, hb0, hb1, hm⟩
    by_cases c1 : i < l.length
    · have hq1 := asc_ok l[i]
      have hq2 := asc1 l[i]
      have hor := u8_or b l[i] hb0 hb1 (ha _ (List.getElem_mem c1))
      generalize hd : IntKind.u8.wrap ((((b % 2 ^ IntKind.u8.bits).toNat ||| (l[i]).toNat % 2 ^ IntKind.u8.bits) : Nat) : Int) = d at hor
      rw [List.drop_eq_getElem_cons c1, cntF] at hm
      cases hsp : isSp l[i] <;> cases w <;> (rw [hsp] at hm hq2) <;> simp only [Bool.not_false, Bool.not_true, Bool.and_true, Bool.and_false, Bool.true_and, Bool.false_and, if_true, if_false, Bool.false_eq_true] at hm
      · simp -dsimp [h0, h3, h4, h5, h6, c1, hsz, asc_len, hq1, hq2, hsp]
        refine ⟨l.length - (i + 1), by omega, i + 1, m, false, d, by omega, rfl, ?_⟩
        simp -dsimp [h0, h3, h4, h5, h6, hd, hor]
        refine ⟨?_, rfl, Fz.w64 (by omega) (by omega), by omega⟩
        exact (Fz.w64 (by omega) (by omega) : IntKind.i64.wrap ((m : Int) + 0) = (m : Int) + 0).trans (by omega)
      · simp -dsimp [h0, h3, h4, h5, h6, c1, hsz, asc_len, hq1, hq2, hsp]
        refine ⟨l.length - (i + 1), by omega, i + 1, m + 1, false, d, by omega, rfl, ?_⟩
        simp -dsimp [h0, h3, h4, h5, h6, hd, hor]
        refine ⟨?_, rfl, Fz.w64 (by omega) (by omega), by omega⟩
        exact (Fz.w64 (by omega) (by omega) : IntKind.i64.wrap ((m : Int) + 1) = (m : Int) + 1)
      · simp -dsimp [h0, h3, h4, h5, h6, c1, hsz, asc_len, hq1, hq2, hsp]
        refine ⟨l.length - (i + 1), by omega, i + 1, m, true, d, by omega, rfl, ?_⟩
        simp -dsimp [h0, h3, h4, h5, h6, hd, hor]
        refine ⟨?_, rfl, Fz.w64 (by omega) (by omega), by omega⟩
        exact (Fz.w64 (by omega) (by omega) : IntKind.i64.wrap ((m : Int) + 0) = (m : Int) + 0).trans (by omega)
      · simp -dsimp [h0, h3, h4, h5, h6, c1, hsz, asc_len, hq1, hq2, hsp]
        refine ⟨l.length - (i + 1), by omega, i + 1, m, true, d, by omega, rfl, ?_⟩
        simp -dsimp [h0, h3, h4, h5, h6, hd, hor]
        refine ⟨?_, rfl, Fz.w64 (by omega) (by omega), by omega⟩
        exact (Fz.w64 (by omega) (by omega) : IntKind.i64.wrap ((m : Int) + 0) = (m : Int) + 0).trans (by omega)
    · have hii : i = l.length := by omega
      subst hii
      rw [List.drop_length, cntF, Nat.add_zero] at hm
      subst hm
      have c2 : ¬ (128 : Int) ≤ b := by omega
      simp -dsimp [h0, h3, h4, h5, h6, c1, hsz, c2]
      have hm0 : ¬ m = 0 := by omega
      refine ⟨by omega, ?_⟩
      rw [if_neg hm0]
      refine xL_by (by kernel_rfl) (fun k e H => ∃ (j : Nat), j ≤ l.length ∧ k = l.length - j ∧ e 0 = .str ⟨l.toArray⟩ ∧ e 9 = .own 0 0 m 1 ∧ e 10 = .int .i64 0 ∧ e 12 = .int .i64 j ∧ H = [.live (List.replicate m (.str ⟨#[]⟩))] ∧ wordsF (l.drop j) [] = wordsF l [] ∧ cntF (l.drop j) true = m) l.length ?_ ?_
      · refine ⟨0, by omega, rfl, ?_⟩
        simp -dsimp [h0, h3, hc]
      · rintro k e H ⟨j, hj, hk, h0, h9, h10, h12, rfl, hw, hcj⟩
        by_cases c3 : j < l.length
        · have hq1 := asc_ok l[j]
          have hq2 := asc1 l[j]
          cases hsp : isSp l[j]
          · rw [hsp] at hq2
            simp -dsimp [h0, h9, h10, h12, c3, hsz, asc_len, hq1, hq2, hsp]
            refine xL_by (by kernel_rfl) (fun k e H => ∃ (i fs : Nat) (acc : List (List UInt8)), fs ≤ i ∧ i ≤ l.length ∧ k = l.length - i ∧ e 0 = .str ⟨l.toArray⟩ ∧ e 9 = .own 0 0 m 1 ∧ e 10 = .int .i64 acc.length ∧ e 11 = .int .i64 fs ∧ e 12 = .int .i64 i ∧ H = [.live (acc.map wV ++ List.replicate (m - acc.length) emp)] ∧
              acc ++ wordsF (l.drop i) ((l.drop fs).take (i - fs)) = wordsF l [] ∧ acc.length + (if fs < i then 1 else 0) + cntF (l.drop i) (decide (fs = i)) = m ∧ (∀ h : i < l.length, fs = i → isSp l[i] = false)) (l.length - j) ?_ ?_
            · refine ⟨j, j, [], by omega, by omega, rfl, ?_⟩
              simp -dsimp [h0, h9, h10, h12, hw, hcj, hsp]
            rintro k e H ⟨i, fs, acc, hfi, hi, hk, h0, h9, h10, h11, h12, rfl, hw, hci, hst⟩
            by_cases c4 : i < l.length
            · have hq1 := asc_ok l[i]
              have hq2 := asc1 l[i]
              have hst := hst c4
              have hsub := List.drop_eq_getElem_cons c4
              cases hsp : isSp l[i]
              · rw [hsp] at hq2
                simp -dsimp [h0, h9, h10, h11, h12, c4, hsz, asc_len, hq1, hq2, hsp]
                refine ⟨l.length - (i + 1), by omega, i + 1, fs, acc, by omega, by omega, rfl, ?_⟩
                simp -dsimp [h0, h9, h10, h11, h12]
                rw [hsub, words_no hsp] at hw
                rw [hsub, cntF, hsp] at hci
                refine ⟨Fz.w64 (by omega) (by omega), by rw [tk_snoc hfi c4]; exact hw, ?_, by omega⟩
                rw [if_pos (by omega), decide_eq_false (by omega)]
                by_cases c5 : fs = i
                · rw [if_neg (by omega), decide_eq_true c5] at hci
                  simp at hci; omega
                · rw [if_pos (by omega), decide_eq_false c5] at hci
                  simp at hci; omega
              · rw [hsp] at hq2
                have hlt : fs < i := by
                  rcases Nat.lt_or_ge fs i with h | h
                  · exact h
                  · have := hst (by omega); rw [hsp] at this; cases this
                have hpne : (l.drop fs).take (i - fs) ≠ [] := by
                  intro h
                  have := congrArg List.length h
                  simp at this; omega
                rw [hsub, words_sp hsp hpne] at hw
                rw [hsub, cntF, hsp, if_pos hlt] at hci
                simp at hci
                have hac : acc.length < m := by omega
                have hrep : List.replicate (m - acc.length) emp = emp :: List.replicate (m - (acc.length + 1)) emp := by
                  rw [show m - acc.length = m - (acc.length + 1) + 1 from by omega]; rfl
                have w1 : IntKind.i64.wrap ((acc.length : Int) + 1) = (acc.length : Int) + 1 := Fz.w64 (by omega) (by omega)
                have w2 : IntKind.i64.wrap ((i : Int) + 1) = (i : Int) + 1 := Fz.w64 (by omega) (by omega)
                simp -dsimp [h0, h9, h10, h11, h12, c4, hsz, asc_len, hq1, hq2, hsp, w1, w2]
                refine ⟨⟨hfi, hi⟩, hac, by omega, ?_⟩
                refine xL_by (by kernel_rfl) (fun k e H => ∃ (q : Nat), i + 1 ≤ q ∧ q ≤ l.length ∧ k = l.length - q ∧ e 0 = .str ⟨l.toArray⟩ ∧ e 9 = .own 0 0 m 1 ∧ e 10 = .int .i64 ((acc.length : Int) + 1) ∧ e 12 = .int .i64 q ∧ H = [.live ((acc ++ [(l.drop fs).take (i - fs)]).map wV ++ List.replicate (m - (acc.length + 1)) emp)] ∧ wordsF (l.drop q) [] = wordsF (l.drop (i + 1)) [] ∧ cntF (l.drop q) true = cntF (l.drop (i + 1)) true) (l.length - (i + 1)) ?_ ?_
                · refine ⟨i + 1, by omega, by omega, rfl, ?_⟩
                  have hdrop : List.drop (acc.length + 1) (List.map wV acc ++ List.replicate (m - acc.length) emp) = List.replicate (m - (acc.length + 1)) emp := by
                    rw [List.drop_append, List.length_map, List.drop_eq_nil_of_le (by simp), List.nil_append, List.drop_replicate]
                    congr 1; omega
                  simp -dsimp [h0, h9, h10, h11, h12]
                  exact ⟨by rw [ext_list]; rfl, hdrop⟩
                rintro k e H ⟨q, hq, hql, hk, h0, h9, h10, h12, rfl, hwq, hcq⟩
                by_cases c6 : q < l.length
                · have hq1 := asc_ok l[q]
                  have hq2 := asc1 l[q]
                  cases hsp2 : isSp l[q]
                  · rw [hsp2] at hq2
                    simp -dsimp [h0, h9, h10, h12, c6, hsz, asc_len, hq1, hq2, hsp2]
                    refine ⟨l.length - q, by omega, q, q, acc ++ [(l.drop fs).take (i - fs)], by omega, by omega, rfl, ?_⟩
                    simp -dsimp [h0, h9, h10, h12]
                    refine ⟨?_, ?_, ?_⟩
                    · rw [hwq]; exact hw
                    · rw [hcq]; omega
                    · intro _; exact hsp2
                  · rw [hsp2] at hq2
                    rw [List.drop_eq_getElem_cons c6, cntF, hsp2] at hcq
                    rw [List.drop_eq_getElem_cons c6, wordsF, hsp2] at hwq
                    simp -dsimp [h0, h9, h10, h12, c6, hsz, asc_len, hq1, hq2, hsp2]
                    refine ⟨l.length - (q + 1), by omega, q + 1, by omega, by omega, rfl, ?_⟩
                    simp -dsimp [h0, h9, h10, h12]
                    refine ⟨Fz.w64 (by omega) (by omega), by simpa using hwq, by simpa using hcq⟩
                · simp -dsimp [h0, h9, h10, h12, c6, hsz]
                  refine ⟨l.length - q, by omega, q, q, acc ++ [(l.drop fs).take (i - fs)], by omega, by omega, rfl, ?_⟩
                  simp -dsimp [h0, h9, h10, h12]
                  refine ⟨?_, ?_, ?_⟩
                  · rw [hwq]; exact hw
                  · rw [hcq]; omega
                  · intro h; omega
            · have hii : i = l.length := by omega
              subst hii
              by_cases c5 : fs < l.length
              · rw [if_pos c5, List.drop_length, cntF] at hci
                have hpne : (l.drop fs).take (l.length - fs) ≠ [] := by
                  intro h
                  have := congrArg List.length h
                  simp at this; omega
                have hwe : wordsF [] ((l.drop fs).take (l.length - fs)) = [(l.drop fs).take (l.length - fs)] := by
                  cases hx : (l.drop fs).take (l.length - fs) with
                  | nil => exact absurd hx hpne
                  | cons a r => rfl
                rw [List.drop_length, hwe] at hw
                simp -dsimp [h0, h9, h10, h11, h12, c5, hsz]
                refine ⟨hfi, by omega, by omega, ?_⟩
                have hdrop : List.drop (acc.length + 1) (List.map wV acc ++ List.replicate (m - acc.length) emp) = [] := by
                  apply List.drop_eq_nil_of_le
                  simp; omega
                rw [hdrop, ext_list, show V.str ⟨((l.drop fs).take (l.length - fs)).toArray⟩ = wV ((l.drop fs).take (l.length - fs)) from rfl]
                rw [← hw] at hq
                simpa using hq
              · have hfe : fs = l.length := by omega
                subst hfe
                rw [if_neg (by omega), List.drop_length, cntF] at hci
                simp -dsimp [h0, h9, h10, h11, h12, c5, hsz]
                rw [List.drop_length] at hw
                rw [show m - acc.length = 0 from by omega]
                have hw' : acc = wordsF l [] := by simpa [wordsF] using hw
                rw [hw']
                simpa using hq
          · rw [hsp] at hq2
            rw [List.drop_eq_getElem_cons c3, cntF, hsp] at hcj
            rw [List.drop_eq_getElem_cons c3, wordsF, hsp] at hw
            simp -dsimp [h0, h9, h10, h12, c3, hsz, asc_len, hq1, hq2, hsp]
            refine ⟨l.length - (j + 1), by omega, j + 1, by omega, rfl, ?_⟩
            simp -dsimp [h0, h9, h10, h12]
            exact ⟨Fz.w64 (by omega) (by omega), by simpa using hw, by simpa using hcj⟩
        · obtain rfl : j = l.length := by omega
          rw [List.drop_length, cntF] at hcj
          omega
end Fz.D
set_option maxRecDepth 100000
namespace Fz.D
open Go Go.Proofs
def allB : List UInt8 := [69, 88, 73, 84, 32, 40, 76, 73, 84, 41, 32, 40, 66, 82, 65, 78, 67, 72, 41, 32, 40, 48, 66, 82, 65, 78, 67, 72, 41, 32, 40, 68, 79, 41, 32, 40, 76, 79, 79, 80, 41, 32, 40, 43, 76, 79, 79, 80, 41, 32, 40, 86, 65, 82, 41, 32, 40, 68, 79, 69, 83, 41, 32, 40, 84, 69, 88, 84, 41, 32, 40, 77, 65, 82, 75, 41, 32, 67, 79, 77, 80, 73, 76, 69, 44, 32, 68, 85, 80, 32, 68, 82, 79, 80, 32, 83, 87, 65, 80, 32, 79, 86, 69, 82, 32, 82, 79, 84, 32, 78, 73, 80, 32, 84, 85, 67, 75, 32, 63, 68, 85, 80, 32, 50, 68, 85, 80, 32, 50, 68, 82, 79, 80, 32, 50, 83, 87, 65, 80, 32, 50, 79, 86, 69, 82, 32, 80, 73, 67, 75, 32, 82, 79, 76, 76, 32, 68, 69, 80, 84, 72, 32, 43, 32, 45, 32, 42, 32, 47, 32, 77, 79, 68, 32, 47, 77, 79, 68, 32, 42, 47, 32, 42, 47, 77, 79, 68, 32, 49, 43, 32, 49, 45, 32, 50, 42, 32, 50, 47, 32, 78, 69, 71, 65, 84, 69, 32, 65, 66, 83, 32, 77, 73, 78, 32, 77, 65, 88, 32, 65, 78, 68, 32, 79, 82, 32, 88, 79, 82, 32, 73, 78, 86, 69, 82, 84, 32, 76, 83, 72, 73, 70, 84, 32, 82, 83, 72, 73, 70, 84, 32, 61, 32, 60, 62, 32, 60, 32, 62, 32, 85, 60, 32, 48, 61, 32, 48, 60, 32, 48, 60, 62, 32, 48, 62, 32, 87, 73, 84, 72, 73, 78, 32, 84, 82, 85, 69, 32, 70, 65, 76, 83, 69, 32, 67, 69, 76, 76, 83, 32, 67, 69, 76, 76, 43, 32, 70, 43, 32, 70, 45, 32, 70, 42, 32, 70, 47, 32, 70, 77, 73, 78, 32, 70, 77, 65, 88, 32, 70, 78, 69, 71, 65, 84, 69, 32, 70, 65, 66, 83, 32, 70, 83, 81, 82, 84, 32, 70, 76, 79, 79, 82, 32, 70, 60, 32, 70, 61, 32, 83, 62, 70, 32, 70, 62, 83, 32, 64, 32, 33, 32, 43, 33, 32, 67, 64, 32, 67, 33, 32, 72, 69, 82, 69, 32, 65, 76, 76, 79, 84, 32, 44, 32, 67, 44, 32, 65, 76, 73, 71, 78, 32, 66, 65, 83, 69, 32, 68, 69, 67, 73, 77, 65, 76, 32, 72, 69, 88, 32, 62, 82, 32, 82, 62, 32, 82, 64, 32, 73, 32, 74, 32, 85, 78, 76, 79, 79, 80, 32, 76, 69, 65, 86, 69, 32, 73, 70, 32, 69, 76, 83, 69, 32, 84, 72, 69, 78, 32, 66, 69, 71, 73, 78, 32, 65, 71, 65, 73, 78, 32, 85, 78, 84, 73, 76, 32, 87, 72, 73, 76, 69, 32, 82, 69, 80, 69, 65, 84, 32, 68, 79, 32, 76, 79, 79, 80, 32, 43, 76, 79, 79, 80, 32, 82, 69, 67, 85, 82, 83, 69, 32, 58, 32, 59, 32, 73, 77, 77, 69, 68, 73, 65, 84, 69, 32, 67, 79, 78, 83, 84, 65, 78, 84, 32, 86, 65, 82, 73, 65, 66, 76, 69, 32, 67, 82, 69, 65, 84, 69, 32, 68, 79, 69, 83, 62, 32, 77, 65, 82, 75, 69, 82, 32, 39, 32, 91, 39, 93, 32, 76, 73, 84, 69, 82, 65, 76, 32, 80, 79, 83, 84, 80, 79, 78, 69, 32, 91, 32, 93, 32, 69, 88, 69, 67, 85, 84, 69, 32, 67, 72, 65, 82, 32, 91, 67, 72, 65, 82, 93, 32, 40, 32, 92, 32, 46, 34, 32, 69, 77, 73, 84, 32, 67, 82, 32, 83, 80, 65, 67, 69, 32, 46, 32, 84, 89, 80, 69, 32, 75, 69, 89, 32, 84, 72, 82, 79, 87, 32, 65, 66, 79, 82, 84]
def ctlB : List UInt8 := [73, 70, 32, 69, 76, 83, 69, 32, 84, 72, 69, 78, 32, 66, 69, 71, 73, 78, 32, 65, 71, 65, 73, 78, 32, 85, 78, 84, 73, 76, 32, 87, 72, 73, 76, 69, 32, 82, 69, 80, 69, 65, 84, 32, 68, 79, 32, 76, 79, 79, 80, 32, 43, 76, 79, 79, 80, 32, 82, 69, 67, 85, 82, 83, 69, 32, 59, 32, 68, 79, 69, 83, 62, 32, 91, 39, 93, 32, 76, 73, 84, 69, 82, 65, 76, 32, 80, 79, 83, 84, 80, 79, 78, 69, 32, 91, 67, 72, 65, 82, 93]
def opsL : List (List UInt8) := [[69, 88, 73, 84], [40, 76, 73, 84, 41], [40, 66, 82, 65, 78, 67, 72, 41], [40, 48, 66, 82, 65, 78, 67, 72, 41], [40, 68, 79, 41], [40, 76, 79, 79, 80, 41], [40, 43, 76, 79, 79, 80, 41], [40, 86, 65, 82, 41], [40, 68, 79, 69, 83, 41], [40, 84, 69, 88, 84, 41], [40, 77, 65, 82, 75, 41], [67, 79, 77, 80, 73, 76, 69, 44], [68, 85, 80], [68, 82, 79, 80], [83, 87, 65, 80], [79, 86, 69, 82], [82, 79, 84], [78, 73, 80], [84, 85, 67, 75], [63, 68, 85, 80], [50, 68, 85, 80], [50, 68, 82, 79, 80], [50, 83, 87, 65, 80], [50, 79, 86, 69, 82], [80, 73, 67, 75], [82, 79, 76, 76], [68, 69, 80, 84, 72], [43], [45], [42], [47], [77, 79, 68], [47, 77, 79, 68], [42, 47], [42, 47, 77, 79, 68], [49, 43], [49, 45], [50, 42], [50, 47], [78, 69, 71, 65, 84, 69], [65, 66, 83], [77, 73, 78], [77, 65, 88], [65, 78, 68], [79, 82], [88, 79, 82], [73, 78, 86, 69, 82, 84], [76, 83, 72, 73, 70, 84], [82, 83, 72, 73, 70, 84], [61], [60, 62], [60], [62], [85, 60], [48, 61], [48, 60], [48, 60, 62], [48, 62], [87, 73, 84, 72, 73, 78], [84, 82, 85, 69], [70, 65, 76, 83, 69], [67, 69, 76, 76, 83], [67, 69, 76, 76, 43], [70, 43], [70, 45], [70, 42], [70, 47], [70, 77, 73, 78], [70, 77, 65, 88], [70, 78, 69, 71, 65, 84, 69], [70, 65, 66, 83], [70, 83, 81, 82, 84], [70, 76, 79, 79, 82], [70, 60], [70, 61], [83, 62, 70], [70, 62, 83], [64], [33], [43, 33], [67, 64], [67, 33], [72, 69, 82, 69], [65, 76, 76, 79, 84], [44], [67, 44], [65, 76, 73, 71, 78], [66, 65, 83, 69], [68, 69, 67, 73, 77, 65, 76], [72, 69, 88], [62, 82], [82, 62], [82, 64], [73], [74], [85, 78, 76, 79, 79, 80], [76, 69, 65, 86, 69], [73, 70], [69, 76, 83, 69], [84, 72, 69, 78], [66, 69, 71, 73, 78], [65, 71, 65, 73, 78], [85, 78, 84, 73, 76], [87, 72, 73, 76, 69], [82, 69, 80, 69, 65, 84], [68, 79], [76, 79, 79, 80], [43, 76, 79, 79, 80], [82, 69, 67, 85, 82, 83, 69], [58], [59], [73, 77, 77, 69, 68, 73, 65, 84, 69], [67, 79, 78, 83, 84, 65, 78, 84], [86, 65, 82, 73, 65, 66, 76, 69], [67, 82, 69, 65, 84, 69], [68, 79, 69, 83, 62], [77, 65, 82, 75, 69, 82], [39], [91, 39, 93], [76, 73, 84, 69, 82, 65, 76], [80, 79, 83, 84, 80, 79, 78, 69], [91], [93], [69, 88, 69, 67, 85, 84, 69], [67, 72, 65, 82], [91, 67, 72, 65, 82, 93], [40], [92], [46, 34], [69, 77, 73, 84], [67, 82], [83, 80, 65, 67, 69], [46], [84, 89, 80, 69], [75, 69, 89], [84, 72, 82, 79, 87], [65, 66, 79, 82, 84]]
def ctlL : List (List UInt8) := [[73, 70], [69, 76, 83, 69], [84, 72, 69, 78], [66, 69, 71, 73, 78], [65, 71, 65, 73, 78], [85, 78, 84, 73, 76], [87, 72, 73, 76, 69], [82, 69, 80, 69, 65, 84], [68, 79], [76, 79, 79, 80], [43, 76, 79, 79, 80], [82, 69, 67, 85, 82, 83, 69], [59], [68, 79, 69, 83, 62], [91, 39, 93], [76, 73, 84, 69, 82, 65, 76], [80, 79, 83, 84, 80, 79, 78, 69], [91, 67, 72, 65, 82, 93]]
theorem allB_w : wordsF allB [] = opsL := by kernel_rfl
theorem ctlB_w : wordsF ctlB [] = ctlL := by kernel_rfl
theorem allB_a : ∀ c ∈ allB, c.toNat < 128 := by decide +kernel
theorem ctlB_a : ∀ c ∈ ctlB, c.toNat < 128 := by decide +kernel
theorem ren_wV (g : Nat → Nat) : ∀ l : List (List UInt8), renL g (l.map wV) = l.map wV
  | [] => rfl
  | a :: r => by rw [List.map_cons, renL, ren_wV g r]; rfl
theorem refs_wV : ∀ l : List (List UInt8), refsL (l.map wV) = []
  | [] => rfl
  | a :: r => by rw [List.map_cons, refsL, refs_wV r]; rfl
theorem list_run : WFun p0 131 [] [] fun r H => r = .ret (.own 0 0 137 1) ∧ H = [.live (opsL.map wV)] := by
  refine WFun_of w131 rfl rfl k131 ?_
  simp -dsimp [w131]
  refine WCall_inl (ids := []) rfl rfl ?_
  refine fields_s (l := allB) (n := 137) allB_a (by decide +kernel) (by rw [allB_w]; kernel_rfl) (by kernel_rfl) (by decide) ?_
  have k0 : backK [] 0 0 = 0 := by simp [backK]
  simp -dsimp [allB_w, backH, setAll, renR, renOb, crV, refs, refsL, renL, ren, ren_wV, refs_wV, k0]
theorem control_run : WFun p0 85 [] [] fun r H => r = .ret (.own 0 0 18 1) ∧ H = [.live (ctlL.map wV)] := by
  refine WFun_of w85 rfl rfl k85 ?_
  simp -dsimp [w85]
  refine WCall_inl (ids := []) rfl rfl ?_
  refine fields_s (l := ctlB) (n := 18) ctlB_a (by decide +kernel) (by rw [ctlB_w]; kernel_rfl) (by kernel_rfl) (by decide) ?_
  have k0 : backK [] 0 0 = 0 := by simp [backK]
  simp -dsimp [ctlB_w, backH, setAll, renR, renOb, crV, refs, refsL, renL, ren, ren_wV, refs_wV, k0]
def laidP (l : List (List UInt8)) : List V → List Ob → Option (V × List Ob)
  | [], [] => some (.own 0 0 l.length 1, [.live (l.map wV)])
  | _, _ => none
def prim1 (f : FuncId) : Option (List V → List Ob → Option (V × List Ob)) := if f = 131 then some (laidP opsL) else if f = 85 then some (laidP ctlL) else prim0 f
def p1 : AP := { fn := lk tab, prim := prim1, inl := isInl, body := bods }
@[simp] theorem inl_eq1 (f : FuncId) : p1.inlY f = (f == 4000000000 || isInl f) := (rfl)
theorem fn_ok (f : FuncId) (af : AFun) (h : lk tab f = some af) : cFun Tryz.prog f = some af.erase := tab_ok _ (lk_mem _ _ _ h)
end Fz.D
set_option maxRecDepth 100000
namespace Fz.D
open Go Go.Proofs
def p : AP := p1
@[simp] theorem inl_eq (f : FuncId) : p.inlY f = (f == 4000000000 || isInl f) := (rfl)
def isTrue : Option (CR × List Ob) → Bool
  | some (.ret (.bool b), _) => b
  | _ => false
theorem isTrue_ok {r : Option (CR × List Ob)} (h : isTrue r = true) : ∃ H, r = some (.ret (.bool true), H) := by
  unfold isTrue at h
  split at h
  · subst h; exact ⟨_, rfl⟩
  · cases h
theorem awake22 : isTrue (acall p1 1000 15 [] []) = true := by kernel_rfl
end Fz.D
set_option maxRecDepth 100000
namespace Fz.D
open Go
def byV (b : List Int) : V := .list (b.map (V.int .u8)) false
@[simp] theorem byV.gd (b : List Int) : ground (byV b) = true := by simp [byV]
@[simp] theorem byV.gk (b : List Int) (k : Nat) : gk (k + 1) (byV b) = true := by simp [byV]
@[simp] theorem byV.nr (b : List Int) : nrm (byV b) = byV b := by simp [byV]
@[simp] theorem byV.nrc : nrm ∘ byV = byV := funext fun x => byV.nr x
@[simp] theorem byV.nm (b : List Int) : nm (byV b) = true := by simp [byV]
@[simp] theorem byV.any (b : List Int) : isAny (byV b) = false := rfl
@[simp] theorem byV.cells (b : List Int) : cellsOf (byV b) = [byV b] := rfl
@[simp] theorem byV.st (b : List Int) : storable (byV b) = true := rfl
@[simp] theorem byV.lf (b : List Int) : leafy (byV b) = true := rfl
@[simp] theorem byV.uni (l : List (List Int)) : uni 1 (l.map byV) = true := uni_map fun _ => rfl
@[simp] theorem byV.flat (l : List (List Int)) : flat (l.map byV) = l.map byV := flat_one fun _ => rfl
@[simp] theorem byV.sl (b : List Int) (L : List V → Bool → Prop) (O : Nat → Nat → Nat → Nat → Prop) : wSl (byV b) L O = L (b.map (V.int .u8)) false := (rfl)
@[simp] theorem byV.el (b : List Int) (H : List Ob) (n : Nat) (K : List V → Nat → Prop) : xElems H n (byV b) K = xElems H n (.list (b.map (V.int .u8)) false) K := (rfl)
@[simp] theorem byV.xs (b : List Int) (H : List Ob) (n : Nat) (lo hi mx : Option V) (K : V → Prop) : xSlice H (.sl n) (byV b) lo hi mx K = xSlice H (.sl n) (.list (b.map (V.int .u8)) false) lo hi mx K := (rfl)
def inV (b : List Int) : V := .list (b.map (V.int .i64)) false
@[simp] theorem inV.gd (b : List Int) : ground (inV b) = true := by simp [inV]
@[simp] theorem inV.gk (b : List Int) (k : Nat) : gk (k + 1) (inV b) = true := by simp [inV]
@[simp] theorem inV.nr (b : List Int) : nrm (inV b) = inV b := by simp [inV]
@[simp] theorem inV.nrc : nrm ∘ inV = inV := funext fun x => inV.nr x
@[simp] theorem inV.nm (b : List Int) : nm (inV b) = true := by simp [inV]
@[simp] theorem inV.any (b : List Int) : isAny (inV b) = false := rfl
@[simp] theorem inV.cells (b : List Int) : cellsOf (inV b) = [inV b] := rfl
@[simp] theorem inV.st (b : List Int) : storable (inV b) = true := rfl
@[simp] theorem inV.lf (b : List Int) : leafy (inV b) = true := rfl
@[simp] theorem inV.uni (l : List (List Int)) : uni 1 (l.map inV) = true := uni_map fun _ => rfl
@[simp] theorem inV.flat (l : List (List Int)) : flat (l.map inV) = l.map inV := flat_one fun _ => rfl
@[simp] theorem inV.sl (b : List Int) (L : List V → Bool → Prop) (O : Nat → Nat → Nat → Nat → Prop) : wSl (inV b) L O = L (b.map (V.int .i64)) false := (rfl)
@[simp] theorem inV.el (b : List Int) (H : List Ob) (n : Nat) (K : List V → Nat → Prop) : xElems H n (inV b) K = xElems H n (.list (b.map (V.int .i64)) false) K := (rfl)
@[simp] theorem inV.xs (b : List Int) (H : List Ob) (n : Nat) (lo hi mx : Option V) (K : V → Prop) : xSlice H (.sl n) (inV b) lo hi mx K = xSlice H (.sl n) (.list (b.map (V.int .i64)) false) lo hi mx K := (rfl)
structure Slo where
  v : Int
  call : Bool
deriving Inhabited, DecidableEq
structure Wor where
  name : ByteArray
  code : Int
  now : Bool
  hid : Bool
deriving Inhabited
structure Spo where
  addr : Int
  at_ : Int
deriving Inhabited, DecidableEq
structure Rn where
  at_ : Int
  b : List Int
deriving Inhabited, DecidableEq
def sloV (s : Slo) : V := .agg [.int .i64 s.v, .bool s.call]
@[simp] theorem sloV.gd (s : Slo) : ground (sloV s) = true := by simp [sloV]
@[simp] theorem sloV.gk (s : Slo) (k : Nat) : gk (k + 2) (sloV s) = true := by simp [sloV]
@[simp] theorem sloV.nr (s : Slo) : nrm (sloV s) = sloV s := by simp [sloV]
@[simp] theorem sloV.nrc : nrm ∘ sloV = sloV := funext fun x => sloV.nr x
@[simp] theorem sloV.nm (s : Slo) : nm (sloV s) = true := by simp [sloV]
@[simp] theorem sloV.any (s : Slo) : isAny (sloV s) = false := rfl
@[simp] theorem sloV.cells (s : Slo) : cellsOf (sloV s) = [.int .i64 s.v, .bool s.call] := rfl
@[simp] theorem sloV.uni (l : List (Slo)) : uni 2 (l.map sloV) = true := uni_map fun _ => rfl
@[simp] theorem sloV.flat (l : List (Slo)) : flat (l.map sloV) = l.flatMap fun s => [.int .i64 s.v, .bool s.call] := by rw [flat_map]; rfl
def worV (s : Wor) : V := .agg [.str s.name, .int .i64 s.code, .bool s.now, .bool s.hid]
@[simp] theorem worV.gd (s : Wor) : ground (worV s) = true := by simp [worV]
@[simp] theorem worV.gk (s : Wor) (k : Nat) : gk (k + 2) (worV s) = true := by simp [worV]
@[simp] theorem worV.nr (s : Wor) : nrm (worV s) = worV s := by simp [worV]
@[simp] theorem worV.nrc : nrm ∘ worV = worV := funext fun x => worV.nr x
@[simp] theorem worV.nm (s : Wor) : nm (worV s) = true := by simp [worV]
@[simp] theorem worV.any (s : Wor) : isAny (worV s) = false := rfl
@[simp] theorem worV.cells (s : Wor) : cellsOf (worV s) = [.str s.name, .int .i64 s.code, .bool s.now, .bool s.hid] := rfl
@[simp] theorem worV.uni (l : List (Wor)) : uni 4 (l.map worV) = true := uni_map fun _ => rfl
@[simp] theorem worV.flat (l : List (Wor)) : flat (l.map worV) = l.flatMap fun s => [.str s.name, .int .i64 s.code, .bool s.now, .bool s.hid] := by rw [flat_map]; rfl
def spoV (s : Spo) : V := .agg [.int .i64 s.addr, .int .i64 s.at_]
@[simp] theorem spoV.gd (s : Spo) : ground (spoV s) = true := by simp [spoV]
@[simp] theorem spoV.gk (s : Spo) (k : Nat) : gk (k + 2) (spoV s) = true := by simp [spoV]
@[simp] theorem spoV.nr (s : Spo) : nrm (spoV s) = spoV s := by simp [spoV]
@[simp] theorem spoV.nrc : nrm ∘ spoV = spoV := funext fun x => spoV.nr x
@[simp] theorem spoV.nm (s : Spo) : nm (spoV s) = true := by simp [spoV]
@[simp] theorem spoV.any (s : Spo) : isAny (spoV s) = false := rfl
@[simp] theorem spoV.cells (s : Spo) : cellsOf (spoV s) = [.int .i64 s.addr, .int .i64 s.at_] := rfl
@[simp] theorem spoV.uni (l : List (Spo)) : uni 2 (l.map spoV) = true := uni_map fun _ => rfl
@[simp] theorem spoV.flat (l : List (Spo)) : flat (l.map spoV) = l.flatMap fun s => [.int .i64 s.addr, .int .i64 s.at_] := by rw [flat_map]; rfl
def runV (s : Rn) : V := .agg [.int .i64 s.at_, byV s.b]
@[simp] theorem runV.gd (s : Rn) : ground (runV s) = true := by simp [runV]
@[simp] theorem runV.gk (s : Rn) (k : Nat) : gk (k + 2) (runV s) = true := by simp [runV]
@[simp] theorem runV.nr (s : Rn) : nrm (runV s) = runV s := by simp [runV]
@[simp] theorem runV.nrc : nrm ∘ runV = runV := funext fun x => runV.nr x
@[simp] theorem runV.nm (s : Rn) : nm (runV s) = true := by simp [runV]
@[simp] theorem runV.any (s : Rn) : isAny (runV s) = false := rfl
@[simp] theorem runV.cells (s : Rn) : cellsOf (runV s) = [.int .i64 s.at_, byV s.b] := rfl
@[simp] theorem runV.uni (l : List (Rn)) : uni 2 (l.map runV) = true := uni_map fun _ => rfl
@[simp] theorem runV.flat (l : List (Rn)) : flat (l.map runV) = l.flatMap fun s => [.int .i64 s.at_, byV s.b] := by rw [flat_map]; rfl
def slosV (l : List Slo) : V := .list (l.map sloV) false
@[simp] theorem slosV.gd (l : List Slo) : ground (slosV l) = true := by simp [slosV]
@[simp] theorem slosV.gk (l : List Slo) (k : Nat) : gk (k + 1) (slosV l) = true := by simp [slosV]
@[simp] theorem slosV.nr (l : List Slo) : nrm (slosV l) = slosV l := by simp [slosV]
@[simp] theorem slosV.nrc : nrm ∘ slosV = slosV := funext fun x => slosV.nr x
@[simp] theorem slosV.nm (l : List Slo) : nm (slosV l) = true := by simp [slosV]
@[simp] theorem slosV.any (l : List Slo) : isAny (slosV l) = false := rfl
@[simp] theorem slosV.cells (l : List Slo) : cellsOf (slosV l) = [slosV l] := rfl
@[simp] theorem slosV.st (l : List Slo) : storable (slosV l) = true := rfl
@[simp] theorem slosV.lf (l : List Slo) : leafy (slosV l) = true := rfl
@[simp] theorem slosV.uni (l : List (List Slo)) : uni 1 (l.map slosV) = true := uni_map fun _ => rfl
@[simp] theorem slosV.flat (l : List (List Slo)) : flat (l.map slosV) = l.map slosV := flat_one fun _ => rfl
@[simp] theorem slosV.sl (l : List Slo) (L : List V → Bool → Prop) (O : Nat → Nat → Nat → Nat → Prop) : wSl (slosV l) L O = L (l.map sloV) false := (rfl)
@[simp] theorem slosV.el (l : List Slo) (H : List Ob) (n : Nat) (K : List V → Nat → Prop) : xElems H n (slosV l) K = xElems H n (.list (l.map sloV) false) K := (rfl)
@[simp] theorem slosV.xs (l : List Slo) (H : List Ob) (n : Nat) (lo hi mx : Option V) (K : V → Prop) : xSlice H (.sl n) (slosV l) lo hi mx K = xSlice H (.sl n) (.list (l.map sloV) false) lo hi mx K := (rfl)
def worsV (l : List Wor) : V := .list (l.map worV) false
@[simp] theorem worsV.gd (l : List Wor) : ground (worsV l) = true := by simp [worsV]
@[simp] theorem worsV.gk (l : List Wor) (k : Nat) : gk (k + 1) (worsV l) = true := by simp [worsV]
@[simp] theorem worsV.nr (l : List Wor) : nrm (worsV l) = worsV l := by simp [worsV]
@[simp] theorem worsV.nrc : nrm ∘ worsV = worsV := funext fun x => worsV.nr x
@[simp] theorem worsV.nm (l : List Wor) : nm (worsV l) = true := by simp [worsV]
@[simp] theorem worsV.any (l : List Wor) : isAny (worsV l) = false := rfl
@[simp] theorem worsV.cells (l : List Wor) : cellsOf (worsV l) = [worsV l] := rfl
@[simp] theorem worsV.st (l : List Wor) : storable (worsV l) = true := rfl
@[simp] theorem worsV.lf (l : List Wor) : leafy (worsV l) = true := rfl
@[simp] theorem worsV.uni (l : List (List Wor)) : uni 1 (l.map worsV) = true := uni_map fun _ => rfl
@[simp] theorem worsV.flat (l : List (List Wor)) : flat (l.map worsV) = l.map worsV := flat_one fun _ => rfl
@[simp] theorem worsV.sl (l : List Wor) (L : List V → Bool → Prop) (O : Nat → Nat → Nat → Nat → Prop) : wSl (worsV l) L O = L (l.map worV) false := (rfl)
@[simp] theorem worsV.el (l : List Wor) (H : List Ob) (n : Nat) (K : List V → Nat → Prop) : xElems H n (worsV l) K = xElems H n (.list (l.map worV) false) K := (rfl)
@[simp] theorem worsV.xs (l : List Wor) (H : List Ob) (n : Nat) (lo hi mx : Option V) (K : V → Prop) : xSlice H (.sl n) (worsV l) lo hi mx K = xSlice H (.sl n) (.list (l.map worV) false) lo hi mx K := (rfl)
def sposV (l : List Spo) : V := .list (l.map spoV) false
@[simp] theorem sposV.gd (l : List Spo) : ground (sposV l) = true := by simp [sposV]
@[simp] theorem sposV.gk (l : List Spo) (k : Nat) : gk (k + 1) (sposV l) = true := by simp [sposV]
@[simp] theorem sposV.nr (l : List Spo) : nrm (sposV l) = sposV l := by simp [sposV]
@[simp] theorem sposV.nrc : nrm ∘ sposV = sposV := funext fun x => sposV.nr x
@[simp] theorem sposV.nm (l : List Spo) : nm (sposV l) = true := by simp [sposV]
@[simp] theorem sposV.any (l : List Spo) : isAny (sposV l) = false := rfl
@[simp] theorem sposV.cells (l : List Spo) : cellsOf (sposV l) = [sposV l] := rfl
@[simp] theorem sposV.st (l : List Spo) : storable (sposV l) = true := rfl
@[simp] theorem sposV.lf (l : List Spo) : leafy (sposV l) = true := rfl
@[simp] theorem sposV.uni (l : List (List Spo)) : uni 1 (l.map sposV) = true := uni_map fun _ => rfl
@[simp] theorem sposV.flat (l : List (List Spo)) : flat (l.map sposV) = l.map sposV := flat_one fun _ => rfl
@[simp] theorem sposV.sl (l : List Spo) (L : List V → Bool → Prop) (O : Nat → Nat → Nat → Nat → Prop) : wSl (sposV l) L O = L (l.map spoV) false := (rfl)
@[simp] theorem sposV.el (l : List Spo) (H : List Ob) (n : Nat) (K : List V → Nat → Prop) : xElems H n (sposV l) K = xElems H n (.list (l.map spoV) false) K := (rfl)
@[simp] theorem sposV.xs (l : List Spo) (H : List Ob) (n : Nat) (lo hi mx : Option V) (K : V → Prop) : xSlice H (.sl n) (sposV l) lo hi mx K = xSlice H (.sl n) (.list (l.map spoV) false) lo hi mx K := (rfl)
def runsV (l : List Rn) : V := .list (l.map runV) false
@[simp] theorem runsV.gd (l : List Rn) : ground (runsV l) = true := by simp [runsV]
@[simp] theorem runsV.gk (l : List Rn) (k : Nat) : gk (k + 1) (runsV l) = true := by simp [runsV]
@[simp] theorem runsV.nr (l : List Rn) : nrm (runsV l) = runsV l := by simp [runsV]
@[simp] theorem runsV.nrc : nrm ∘ runsV = runsV := funext fun x => runsV.nr x
@[simp] theorem runsV.nm (l : List Rn) : nm (runsV l) = true := by simp [runsV]
@[simp] theorem runsV.any (l : List Rn) : isAny (runsV l) = false := rfl
@[simp] theorem runsV.cells (l : List Rn) : cellsOf (runsV l) = [runsV l] := rfl
@[simp] theorem runsV.st (l : List Rn) : storable (runsV l) = true := rfl
@[simp] theorem runsV.lf (l : List Rn) : leafy (runsV l) = true := rfl
@[simp] theorem runsV.uni (l : List (List Rn)) : uni 1 (l.map runsV) = true := uni_map fun _ => rfl
@[simp] theorem runsV.flat (l : List (List Rn)) : flat (l.map runsV) = l.map runsV := flat_one fun _ => rfl
@[simp] theorem runsV.sl (l : List Rn) (L : List V → Bool → Prop) (O : Nat → Nat → Nat → Nat → Prop) : wSl (runsV l) L O = L (l.map runV) false := (rfl)
@[simp] theorem runsV.el (l : List Rn) (H : List Ob) (n : Nat) (K : List V → Nat → Prop) : xElems H n (runsV l) K = xElems H n (.list (l.map runV) false) K := (rfl)
@[simp] theorem runsV.xs (l : List Rn) (H : List Ob) (n : Nat) (lo hi mx : Option V) (K : V → Prop) : xSlice H (.sl n) (runsV l) lo hi mx K = xSlice H (.sl n) (.list (l.map runV) false) lo hi mx K := (rfl)
structure St where
  mem : List Int
  data : List Int
  ret : List Slo
  ctl : List Int
  words : List Wor
  spots : List Spo
  out : List Int
  ip : Int
  here : Int
  at_ : Int
  tok : Int
  in_ : Int
  err : Int
  comp : Bool
  halt : Bool
deriving Inhabited
structure De where
  mem : List Rn
  dk : Int
  dt : List Int
  rk : Int
  rt : List Slo
  ck : Int
  ct : List Int
  wk : Int
  wt : List Wor
  sk : Int
  st : List Spo
  out : Int
  r0 : Int
  r1 : Int
  r2 : Int
  r3 : Int
  r4 : Int
  r5 : Int
  comp : Bool
  halt : Bool
deriving Inhabited
def stV (s : St) : V := .agg [byV s.mem, inV s.data, slosV s.ret, inV s.ctl, worsV s.words, sposV s.spots, byV s.out, .int .i64 s.ip, .int .i64 s.here, .int .i64 s.at_, .int .i64 s.tok, .int .i64 s.in_, .int .i64 s.err, .bool s.comp, .bool s.halt]
@[simp] theorem stV.gd (s : St) : ground (stV s) = true := by simp [stV]
@[simp] theorem stV.gk (s : St) (k : Nat) : gk (k + 2) (stV s) = true := by simp [stV]
@[simp] theorem stV.nr (s : St) : nrm (stV s) = stV s := by simp [stV]
@[simp] theorem stV.nrc : nrm ∘ stV = stV := funext fun x => stV.nr x
@[simp] theorem stV.nm (s : St) : nm (stV s) = true := by simp [stV]
@[simp] theorem stV.any (s : St) : isAny (stV s) = false := rfl
@[simp] theorem stV.cells (s : St) : cellsOf (stV s) = [byV s.mem, inV s.data, slosV s.ret, inV s.ctl, worsV s.words, sposV s.spots, byV s.out, .int .i64 s.ip, .int .i64 s.here, .int .i64 s.at_, .int .i64 s.tok, .int .i64 s.in_, .int .i64 s.err, .bool s.comp, .bool s.halt] := rfl
@[simp] theorem stV.uni (l : List (St)) : uni 15 (l.map stV) = true := uni_map fun _ => rfl
@[simp] theorem stV.flat (l : List (St)) : flat (l.map stV) = l.flatMap fun s => [byV s.mem, inV s.data, slosV s.ret, inV s.ctl, worsV s.words, sposV s.spots, byV s.out, .int .i64 s.ip, .int .i64 s.here, .int .i64 s.at_, .int .i64 s.tok, .int .i64 s.in_, .int .i64 s.err, .bool s.comp, .bool s.halt] := by rw [flat_map]; rfl
def deV (d : De) : V := .agg [runsV d.mem, .int .i64 d.dk, inV d.dt, .int .i64 d.rk, slosV d.rt, .int .i64 d.ck, inV d.ct, .int .i64 d.wk, worsV d.wt, .int .i64 d.sk, sposV d.st, .int .i64 d.out, .int .i64 d.r0, .int .i64 d.r1, .int .i64 d.r2, .int .i64 d.r3, .int .i64 d.r4, .int .i64 d.r5, .bool d.comp, .bool d.halt]
@[simp] theorem deV.gd (d : De) : ground (deV d) = true := by simp [deV]
@[simp] theorem deV.gk (d : De) (k : Nat) : gk (k + 2) (deV d) = true := by simp [deV]
@[simp] theorem deV.nr (d : De) : nrm (deV d) = deV d := by simp [deV]
@[simp] theorem deV.nrc : nrm ∘ deV = deV := funext fun x => deV.nr x
@[simp] theorem deV.nm (d : De) : nm (deV d) = true := by simp [deV]
@[simp] theorem deV.any (d : De) : isAny (deV d) = false := rfl
@[simp] theorem deV.cells (d : De) : cellsOf (deV d) = [runsV d.mem, .int .i64 d.dk, inV d.dt, .int .i64 d.rk, slosV d.rt, .int .i64 d.ck, inV d.ct, .int .i64 d.wk, worsV d.wt, .int .i64 d.sk, sposV d.st, .int .i64 d.out, .int .i64 d.r0, .int .i64 d.r1, .int .i64 d.r2, .int .i64 d.r3, .int .i64 d.r4, .int .i64 d.r5, .bool d.comp, .bool d.halt] := rfl
@[simp] theorem deV.uni (l : List (De)) : uni 20 (l.map deV) = true := uni_map fun _ => rfl
@[simp] theorem deV.flat (l : List (De)) : flat (l.map deV) = l.flatMap fun d => [runsV d.mem, .int .i64 d.dk, inV d.dt, .int .i64 d.rk, slosV d.rt, .int .i64 d.ck, inV d.ct, .int .i64 d.wk, worsV d.wt, .int .i64 d.sk, sposV d.st, .int .i64 d.out, .int .i64 d.r0, .int .i64 d.r1, .int .i64 d.r2, .int .i64 d.r3, .int .i64 d.r4, .int .i64 d.r5, .bool d.comp, .bool d.halt] := by rw [flat_map]; rfl
end Fz.D
set_option maxRecDepth 100000
namespace Fz.D
open Go
def i64 (a : Int) : Prop := -9223372036854775808 ≤ a ∧ a ≤ 9223372036854775807
def nmB (s : ByteArray) : List Int := s.data.toList.map fun b => (b.toNat : Int)
def inQ (a b : Int) : Bool := decide (a = b)
def sloQ (a b : Slo) : Bool := decide (a.v = b.v) && (a.call == b.call)
def worQ (a b : Wor) : Bool := decide (a.name = b.name) && (decide (a.code = b.code) && ((a.now == b.now) && (a.hid == b.hid)))
def spoQ (a b : Spo) : Bool := decide (a.addr = b.addr) && decide (a.at_ = b.at_)
structure StLen (s : St) : Prop where
  mem : s.mem.length ≤ 100000
  data : s.data.length ≤ 100000
  ret : s.ret.length ≤ 100000
  ctl : s.ctl.length ≤ 100000
  words : s.words.length ≤ 100000
  spots : s.spots.length ≤ 100000
  out : s.out.length ≤ 100000000
def by8 (b : List Int) : Prop := ∀ x ∈ b, 0 ≤ x ∧ x < 256
def bstr (b : List Int) : ByteArray := bytesV (b.map (V.int .u8))
def u8f (x : Int) : UInt8 := x.toNat.toUInt8
def fewB (s : St) : Bool := (s.words.take 41).all (fun w => decide (w.name.size ≤ 60)) && (decide (s.mem.length ≤ 600) && (decide (s.data.length ≤ 40) && (decide (s.ret.length ≤ 40) && (decide (s.ctl.length ≤ 200) && (decide (s.words.length ≤ 40) && (decide (s.spots.length ≤ 100) && decide (s.out.length ≤ 200)))))))
theorem all_take {α : Type} {f : α → Bool} {l : List α} {i : Nat} (h : i < l.length) : (l.take (i + 1)).all f = ((l.take i).all f && f l[i]) := by
  rw [List.take_succ_eq_append_getElem h, List.all_append, List.all_cons, List.all_nil, Bool.and_true]
theorem all_false {α : Type} {f : α → Bool} {l : List α} {i n : Nat} (h : i < l.length) (hn : i < n) (hf : f l[i] = false) : (l.take n).all f = false := by
  rw [List.all_eq_false]
  exact ⟨l[i], List.mem_take_iff_getElem.2 ⟨i, by omega, rfl⟩, by simp [hf]⟩
theorem few_s (s : St) : Comes p 20 [stV s] (.bool (fewB s)) := by
  refine Comes_of w20 rfl rfl k20 ?_ ?_ ?_ ?_
  · simp
  · simp
  · simp
  · simp -dsimp [w20, wFix_by, isInl]
    refine xL_by (by kernel_rfl) (fun k e H => ∃ i : Nat, i ≤ 41 ∧ k = 41 - i ∧ e 1 = .ptr 0 0 ∧ e 3 = .int .i64 i ∧ H = [.live (cellsOf (stV s))] ∧ (s.words.take i).all (fun w => decide (w.name.size ≤ 60)) = true) 41 ?_ ?_
    · refine ⟨0, by omega, rfl, ?_⟩
      simp -dsimp
    rintro k e H ⟨i, hi, hk, h1, h3, rfl, hall⟩
    by_cases c1 : i < s.words.length
    · by_cases c2 : i < 41
      · have w2 : IntKind.i64.wrap ((i : Int) + 1) = ((i + 1 : Nat) : Int) := by rw [Fz.w64 (by omega) (by omega)]; omega
        have c2' : (i : Int) < 41 := by omega
        have q := all_take (f := (fun w => decide (w.name.size ≤ 60))) c1
        by_cases c3 : s.words[i].name.size ≤ 60
        · have c3' : ¬ ((s.words[i].name.size : Nat) : Int) > 60 := by omega
          have c3'' : ¬ (60 < ((s.words[i].name.size : Nat) : Int)) := by omega
          simp -dsimp [h1, h3, c1, c2, c2', c3', c3'', w2]
          refine ⟨41 - (i + 1), by omega, i + 1, by omega, rfl, ?_⟩
          rw [q, hall]
          simp -dsimp [h1, h3, c3]
        · have c3' : ((s.words[i].name.size : Nat) : Int) > 60 := by omega
          have c3'' : 60 < ((s.words[i].name.size : Nat) : Int) := by omega
          have z : fewB s = false := by
            have := all_false (f := (fun w => decide (w.name.size ≤ 60))) (n := 41) c1 c2 (by simp; omega)
            unfold fewB
            rw [this]; simp
          simp -dsimp [h1, h3, c1, c2, c2', c3', c3'', wFix_by, isInl, z]
      have hi' : i = 41 := by omega
      have c2' : ¬ (i : Int) < 41 := by omega
      have a0 : (s.words.take 41).all (fun w => decide (w.name.size ≤ 60)) = true := by rw [← hi']; exact hall
      have f0 : ¬ (i < s.words.length ∧ i < 41) := by omega
      by_cases d0 : ¬ s.mem.length ≤ 600
      · have d0' : ¬ (((s.mem.length : Nat) : Int) ≤ 600) := by omega
        simp -dsimp [h1, h3, wFix_by, isInl, c1, c2, c2', d0, d0', fewB]
      rw [Classical.not_not] at d0
      have d0' : (((s.mem.length : Nat) : Int) ≤ 600) := by omega
      by_cases d1 : ¬ s.data.length ≤ 40
      · have d1' : ¬ (((s.data.length : Nat) : Int) ≤ 40) := by omega
        simp -dsimp [h1, h3, wFix_by, isInl, c1, c2, c2', d0, d0', d1, d1', fewB]
      rw [Classical.not_not] at d1
      have d1' : (((s.data.length : Nat) : Int) ≤ 40) := by omega
      by_cases d2 : ¬ s.ret.length ≤ 40
      · have d2' : ¬ (((s.ret.length : Nat) : Int) ≤ 40) := by omega
        simp -dsimp [h1, h3, wFix_by, isInl, c1, c2, c2', d0, d0', d1, d1', d2, d2', fewB]
      rw [Classical.not_not] at d2
      have d2' : (((s.ret.length : Nat) : Int) ≤ 40) := by omega
      by_cases d3 : ¬ s.ctl.length ≤ 200
      · have d3' : ¬ (((s.ctl.length : Nat) : Int) ≤ 200) := by omega
        simp -dsimp [h1, h3, wFix_by, isInl, c1, c2, c2', d0, d0', d1, d1', d2, d2', d3, d3', fewB]
      rw [Classical.not_not] at d3
      have d3' : (((s.ctl.length : Nat) : Int) ≤ 200) := by omega
      by_cases d4 : ¬ s.words.length ≤ 40
      · have d4' : ¬ (((s.words.length : Nat) : Int) ≤ 40) := by omega
        simp -dsimp [h1, h3, wFix_by, isInl, c1, c2, c2', d0, d0', d1, d1', d2, d2', d3, d3', d4, d4', fewB]
      rw [Classical.not_not] at d4
      have d4' : (((s.words.length : Nat) : Int) ≤ 40) := by omega
      by_cases d5 : ¬ s.spots.length ≤ 100
      · have d5' : ¬ (((s.spots.length : Nat) : Int) ≤ 100) := by omega
        simp -dsimp [h1, h3, wFix_by, isInl, c1, c2, c2', d0, d0', d1, d1', d2, d2', d3, d3', d4, d4', d5, d5', fewB]
      rw [Classical.not_not] at d5
      have d5' : (((s.spots.length : Nat) : Int) ≤ 100) := by omega
      by_cases d6 : ¬ s.out.length ≤ 200
      · have d6' : ¬ (((s.out.length : Nat) : Int) ≤ 200) := by omega
        simp -dsimp [h1, h3, wFix_by, isInl, c1, c2, c2', d0, d0', d1, d1', d2, d2', d3, d3', d4, d4', d5, d5', d6, d6', fewB]
      rw [Classical.not_not] at d6
      have d6' : (((s.out.length : Nat) : Int) ≤ 200) := by omega
      simp -dsimp [h1, h3, wFix_by, isInl, c1, c2, c2', d0, d0', d1, d1', d2, d2', d3, d3', d4, d4', d5, d5', d6, d6', a0, fewB]
    have a0 : (s.words.take 41).all (fun w => decide (w.name.size ≤ 60)) = true := by
      rw [List.take_of_length_le (by omega)]
      rw [List.take_of_length_le (by omega)] at hall
      exact hall
    by_cases d0 : ¬ s.mem.length ≤ 600
    · have d0' : ¬ (((s.mem.length : Nat) : Int) ≤ 600) := by omega
      simp -dsimp [h1, h3, wFix_by, isInl, c1, d0, d0', fewB]
    rw [Classical.not_not] at d0
    have d0' : (((s.mem.length : Nat) : Int) ≤ 600) := by omega
    by_cases d1 : ¬ s.data.length ≤ 40
    · have d1' : ¬ (((s.data.length : Nat) : Int) ≤ 40) := by omega
      simp -dsimp [h1, h3, wFix_by, isInl, c1, d0, d0', d1, d1', fewB]
    rw [Classical.not_not] at d1
    have d1' : (((s.data.length : Nat) : Int) ≤ 40) := by omega
    by_cases d2 : ¬ s.ret.length ≤ 40
    · have d2' : ¬ (((s.ret.length : Nat) : Int) ≤ 40) := by omega
      simp -dsimp [h1, h3, wFix_by, isInl, c1, d0, d0', d1, d1', d2, d2', fewB]
    rw [Classical.not_not] at d2
    have d2' : (((s.ret.length : Nat) : Int) ≤ 40) := by omega
    by_cases d3 : ¬ s.ctl.length ≤ 200
    · have d3' : ¬ (((s.ctl.length : Nat) : Int) ≤ 200) := by omega
      simp -dsimp [h1, h3, wFix_by, isInl, c1, d0, d0', d1, d1', d2, d2', d3, d3', fewB]
    rw [Classical.not_not] at d3
    have d3' : (((s.ctl.length : Nat) : Int) ≤ 200) := by omega
    by_cases d4 : ¬ s.words.length ≤ 40
    · have d4' : ¬ (((s.words.length : Nat) : Int) ≤ 40) := by omega
      simp -dsimp [h1, h3, wFix_by, isInl, c1, d0, d0', d1, d1', d2, d2', d3, d3', d4, d4', fewB]
    rw [Classical.not_not] at d4
    have d4' : (((s.words.length : Nat) : Int) ≤ 40) := by omega
    by_cases d5 : ¬ s.spots.length ≤ 100
    · have d5' : ¬ (((s.spots.length : Nat) : Int) ≤ 100) := by omega
      simp -dsimp [h1, h3, wFix_by, isInl, c1, d0, d0', d1, d1', d2, d2', d3, d3', d4, d4', d5, d5', fewB]
    rw [Classical.not_not] at d5
    have d5' : (((s.spots.length : Nat) : Int) ≤ 100) := by omega
    by_cases d6 : ¬ s.out.length ≤ 200
    · have d6' : ¬ (((s.out.length : Nat) : Int) ≤ 200) := by omega
      simp -dsimp [h1, h3, wFix_by, isInl, c1, d0, d0', d1, d1', d2, d2', d3, d3', d4, d4', d5, d5', d6, d6', fewB]
    rw [Classical.not_not] at d6
    have d6' : (((s.out.length : Nat) : Int) ≤ 200) := by omega
    simp -dsimp [h1, h3, wFix_by, isInl, c1, d0, d0', d1, d1', d2, d2', d3, d3', d4, d4', d5, d5', d6, d6', a0, fewB]
structure StTy (s : St) : Prop where
  mem : by8 s.mem
  data : ∀ n ∈ s.data, i64 n
  ret : ∀ x ∈ s.ret, i64 x.v
  ctl : ∀ n ∈ s.ctl, i64 n
  words : ∀ x ∈ s.words, i64 x.code
  spots : ∀ x ∈ s.spots, i64 x.addr ∧ i64 x.at_
  out : by8 s.out
  regs : ∀ n ∈ [s.ip, s.here, s.at_, s.tok, s.in_, s.err], i64 n
def SloT : Ty := .agg [.int .i64, .bool]
def WorT : Ty := .agg [.str, .int .i64, .bool, .bool]
def SpoT : Ty := .agg [.int .i64, .int .i64]
def RnT : Ty := .agg [.int .i64, .sl (.int .u8)]
def StT : Ty := .agg [.sl (.int .u8), .sl (.int .i64), .sl SloT, .sl (.int .i64), .sl WorT, .sl SpoT, .sl (.int .u8), .int .i64, .int .i64, .int .i64, .int .i64, .int .i64, .int .i64, .bool, .bool]
theorem list_of {α : Type} {T : Ty} {f : α → V} {P : α → Prop} (h : ∀ v, HasT T v → ∃ a, v = f a ∧ P a) {v : V} (hv : HasT (.sl T) v) : ∃ l : List α, v = .list (l.map f) false ∧ ∀ a ∈ l, P a := by
  obtain ⟨vs, rfl, hh⟩ := hv
  have : ∃ l : List α, vs = l.map f ∧ ∀ a ∈ l, P a := by
    induction vs with
    | nil => exact ⟨[], rfl, fun a h => by cases h⟩
    | cons v vs ih =>
      obtain ⟨l, rfl, hl⟩ := ih fun x hx => hh x (List.mem_cons_of_mem _ hx)
      obtain ⟨a, rfl, ha⟩ := h v (hh v (List.mem_cons_self ..))
      refine ⟨a :: l, rfl, fun x hx => ?_⟩
      rcases List.mem_cons.1 hx with rfl | hx
      · exact ha
      · exact hl x hx
  obtain ⟨l, rfl, hl⟩ := this
  exact ⟨l, rfl, hl⟩
theorem u8_of {v : V} (h : HasT (.int .u8) v) : ∃ n, v = V.int .u8 n ∧ (0 ≤ n ∧ n < 256) := by
  obtain ⟨n, rfl, h1, h2⟩ := h
  have h1 : 0 ≤ n := h1
  have h2 : n ≤ 255 := h2
  exact ⟨n, rfl, by omega⟩
theorem i64_of {v : V} (h : HasT (.int .i64) v) : ∃ n, v = V.int .i64 n ∧ i64 n := by
  obtain ⟨n, rfl, h1, h2⟩ := h
  exact ⟨n, rfl, h1, h2⟩
theorem slo_of {v : V} (h : HasT SloT v) : ∃ s, v = sloV s ∧ i64 s.v := by
  obtain ⟨l, rfl, v1, r1, rfl, h1, v2, r2, rfl, ⟨b, rfl⟩, rfl⟩ := h
  obtain ⟨n, rfl, h1'⟩ := i64_of h1
  exact ⟨⟨n, b⟩, rfl, h1'⟩
theorem wor_of {v : V} (h : HasT WorT v) : ∃ s, v = worV s ∧ i64 s.code := by
  obtain ⟨l, rfl, v0, r0, rfl, ⟨s, rfl⟩, v1, r1, rfl, h1, v2, r2, rfl, ⟨b, rfl⟩, v3, r3, rfl, ⟨c, rfl⟩, rfl⟩ := h
  obtain ⟨n, rfl, h1'⟩ := i64_of h1
  exact ⟨⟨s, n, b, c⟩, rfl, h1'⟩
theorem spo_of {v : V} (h : HasT SpoT v) : ∃ s, v = spoV s ∧ (i64 s.addr ∧ i64 s.at_) := by
  obtain ⟨l, rfl, v1, r1, rfl, h1, v2, r2, rfl, h2, rfl⟩ := h
  obtain ⟨n, rfl, h1'⟩ := i64_of h1
  obtain ⟨m, rfl, h2'⟩ := i64_of h2
  exact ⟨⟨n, m⟩, rfl, h1', h2'⟩
theorem by_of {v : V} (h : HasT (.sl (.int .u8)) v) : ∃ b, v = byV b ∧ by8 b := list_of (fun _ h => u8_of h) h
theorem in_of {v : V} (h : HasT (.sl (.int .i64)) v) : ∃ b, v = inV b ∧ ∀ n ∈ b, i64 n := list_of (fun _ h => i64_of h) h
theorem st_of {v : V} (h : HasT StT v) : ∃ s, v = stV s ∧ StTy s := by
  obtain ⟨l, rfl, v1, r1, rfl, h1, v2, r2, rfl, h2, v3, r3, rfl, h3, v4, r4, rfl, h4, v5, r5, rfl, h5, v6, r6, rfl, h6, v7, r7, rfl, h7, v8, r8, rfl, h8, v9, r9, rfl, h9, v10, r10, rfl, h10, v11, r11, rfl, h11, v12, r12, rfl, h12, v13, r13, rfl, h13, v14, r14, rfl, ⟨b1, rfl⟩, v15, r15, rfl, ⟨b2, rfl⟩, rfl⟩ := h
  obtain ⟨a1, rfl, h1'⟩ := by_of h1
  obtain ⟨a2, rfl, h2'⟩ := in_of h2
  obtain ⟨a3, rfl, h3'⟩ := list_of (fun _ h => slo_of h) h3
  obtain ⟨a4, rfl, h4'⟩ := in_of h4
  obtain ⟨a5, rfl, h5'⟩ := list_of (fun _ h => wor_of h) h5
  obtain ⟨a6, rfl, h6'⟩ := list_of (fun _ h => spo_of h) h6
  obtain ⟨a7, rfl, h7'⟩ := by_of h7
  obtain ⟨n8, rfl, h8'⟩ := i64_of h8
  obtain ⟨n9, rfl, h9'⟩ := i64_of h9
  obtain ⟨n10, rfl, h10'⟩ := i64_of h10
  obtain ⟨n11, rfl, h11'⟩ := i64_of h11
  obtain ⟨n12, rfl, h12'⟩ := i64_of h12
  obtain ⟨n13, rfl, h13'⟩ := i64_of h13
  refine ⟨⟨a1, a2, a3, a4, a5, a6, a7, n8, n9, n10, n11, n12, n13, b1, b2⟩, rfl, ⟨h1', h2', h3', h4', h5', h6', h7', ?_⟩⟩
  intro n hn
  simp only [List.mem_cons, List.not_mem_nil, or_false] at hn
  rcases hn with rfl | rfl | rfl | rfl | rfl | rfl <;> assumption
theorem few_len {s : St} (h : fewB s = true) : s.mem.length ≤ 600 ∧ s.data.length ≤ 40 ∧ s.ret.length ≤ 40 ∧ s.ctl.length ≤ 200 ∧ s.words.length ≤ 40 ∧ s.spots.length ≤ 100 ∧ s.out.length ≤ 200 ∧ ∀ w ∈ s.words, w.name.size ≤ 60 := by
  unfold fewB at h
  simp only [Bool.and_eq_true, decide_eq_true_eq, List.all_eq_true] at h
  obtain ⟨h0, h1, h2, h3, h4, h5, h6, h7⟩ := h
  exact ⟨h1, h2, h3, h4, h5, h6, h7, fun w hw => h0 w (by rw [List.take_of_length_le (by omega)]; exact hw)⟩
theorem few_st {s : St} (h : fewB s = true) : StLen s := by
  obtain ⟨h1, h2, h3, h4, h5, h6, h7, _⟩ := few_len h
  constructor <;> omega
theorem stF (s : St) : V.agg (cellsOf (stV s)) = stV s := rfl
end Fz.D
set_option maxRecDepth 100000
namespace Go.Proofs
open Go Go.Shelf Go.RowKit
open Fz (upB upS)
theorem Tryz.blSize : (Tryz.prog.info? 218).map (·.size) = some 2 := by kernel_rfl
theorem Tryz.blLies : liesAt Tryz.prog Tryz.prog.depth 218 (2 / Tryz.prog.cellsOf 218) 0 218 1 = true := by kernel_rfl
theorem Tryz.blByte : (Tryz.prog.info? 5).map (fun i => (i.zero, i.size, i.bytes)) = some (some (.int .u8 0), 1, 1) := by kernel_rfl
set_option maxHeartbeats 1000000 in
theorem Tryz.bl_used (b : Nat) (w : World) (h0 : w.cell? ⟨b, 0, none⟩ = some (.pointer (some ⟨b, 0, none⟩))) :
    Calls Tryz.prog 356 #[.pointer (some ⟨b, 0, none⟩)] w fun e w' => e = .returned (.tuple #[]) ∧ w' = w := by
  obtain ⟨j, hj, _⟩ := Option.map_eq_some_iff.1 Tryz.blSize
  go_enter Tryz.func356, Tryz.ntmps356
  go_wp2
  rw [Lib.run_neq_ptr_same w _ Tryz.underlying216 hj]
  go_wp2
  go_end0
  exact ⟨rfl, rfl⟩
set_option maxHeartbeats 1000000 in
theorem Tryz.bl_fresh (b : Nat) (w : World) (h0 : w.cell? ⟨b, 0, none⟩ = some (.pointer none)) (hsh : w.shape? b = some (218, 2)) (hfz : w.frozen? ⟨b, 0, none⟩ = false) :
    Calls Tryz.prog 356 #[.pointer (some ⟨b, 0, none⟩)] w fun e w' => e = .returned (.tuple #[]) ∧ w' = w.setCell ⟨b, 0, none⟩ (.pointer (some ⟨b, 0, none⟩)) := by
  obtain ⟨j, hj, hjs⟩ := Option.map_eq_some_iff.1 Tryz.blSize
  go_enter Tryz.func356, Tryz.ntmps356
  go_wp2
  rw [Lib.run_to_unsafe w ⟨b, 0, none⟩ Tryz.underlying216 Tryz.underlying267 hj (by rw [hjs]; decide) hsh (Nat.zero_lt_succ 1)]
  simp only [Result.andThen]
  rw [Oper.upon_value]
  go_wp2
  rw [run_callFunc_extern Tryz.func377 (by kernel_rfl) (by kernel_rfl) (by kernel_rfl) (e := Extern.AbiNoEscape.same) (by kernel_rfl)]
  rw [Lib.run_noEscape]
  simp only [Result.andThen]
  rw [Oper.upon_value]
  go_wp2
  rw [Lib.run_from_unsafe w ⟨b, 0, none⟩ Tryz.underlying267 Tryz.underlying216 hj hsh Tryz.blLies]
  simp only [Result.andThen]
  rw [Oper.upon_value]
  go_wp2
  go_end0
  exact ⟨rfl, rfl⟩
theorem Tryz.bl_check (B b : Nat) (bs : List Value) (w : World) (h : Lib.IsBuilder 218 5 B b bs w) :
    Calls Tryz.prog 356 #[.pointer (some ⟨b, 0, none⟩)] w fun e w' => e = .returned (.tuple #[]) ∧ (Lib.BuilderAt 218 5 B b (.pointer (some ⟨b, 0, none⟩)) bs w' ∧ Below B w w') := by
  rcases h with h | h
  · refine (Tryz.bl_fresh b w h.cell0 h.shape h.frozen0).mono ?_
    rintro e w' ⟨rfl, rfl⟩
    exact ⟨rfl, h.used _, (Below.refl B w).setCell (p := ⟨b, 0, none⟩) h.1 _⟩
  · refine (Tryz.bl_used b w h.cell0).mono ?_
    rintro e w' ⟨rfl, rfl⟩
    exact ⟨rfl, h, Below.refl B _⟩
set_option maxHeartbeats 2000000 in
theorem Tryz.bl_write (B b : Nat) (bs : List Value) (c : Int) (w : World) (h : Lib.IsBuilder 218 5 B b bs w) (hlen : bs.length + 1 ≤ 140737488355328) (hBw : B ≤ w.heap.size) :
    Calls Tryz.prog 319 #[.pointer (some ⟨b, 0, none⟩), .int .u8 c] w fun e w' => e = .returned .nilIface ∧ (Lib.BuilderAt 218 5 B b (.pointer (some ⟨b, 0, none⟩)) (bs ++ [.int .u8 c]) w' ∧ Below B w w') := by
  obtain ⟨i0, hi, hz0, hz1, hz2⟩ := info_parts Tryz.blByte
  go_enter Tryz.func319, Tryz.ntmps319
  go_wp2_with (go_at_call 356; refine (Tryz.bl_check B b bs _ h).mono ?_)
  rintro e w1 ⟨rfl, h1, hb1⟩
  obtain ⟨hB, v, hbk, hown, hne⟩ := h1
  have c0 : w1.cell? ⟨b, 0, none⟩ = some (.pointer (some ⟨b, 0, none⟩)) := by rw [Lib.cell_of_heap hbk]; rfl
  have c1 : w1.cell? ⟨b, 1, none⟩ = some v := by rw [Lib.cell_of_heap hbk]; rfl
  go_wp2_with (at_builtin; refine wpList_append_own _ rfl _ _ 22 rfl B 5 i0 (.int .u8 0) 1 1 Tryz.underlying22 hi hz0 hz1 hz2 rfl (by decide) _ _ _ rfl (hown.alloc _) ⟨w1.heap.size, 0, none⟩ 1 1 [.int .u8 c] rfl rfl ?c1 ?c2 ?c3 ?c4 ?c5 ?_)
  case c1 =>
    intro j u hj
    match j, hj with
    | 0, hj => simp at hj; subst hj; simp [Addr.add]
  case c2 => intro u hu; simp at hu; subst hu; rfl
  case c3 => unfold maxLen; omega
  case c4 => omega
  case c5 => have := hb1.size; simp; omega
  intro v' w2 hown' hgrow _
  have hlt : b < w1.heap.size := by
    rcases Nat.lt_or_ge b w1.heap.size with h' | h'
    · exact h'
    · simp [Array.getElem?_eq_none h'] at hbk
  have hb2 : w2.heap[b]? = some (.cells #[.pointer (some ⟨b, 0, none⟩), v] 218 (0, 0)) := by
    rw [hgrow.block b (by simp; omega) (fun e => hne e.symm), Lib.alloc_old w1 _ b hlt]
    exact hbk
  have d0 : w2.cell? ⟨b, 0, none⟩ = some (.pointer (some ⟨b, 0, none⟩)) := by rw [Lib.cell_of_heap hb2]; rfl
  have d1 : w2.cell? ⟨b, 1, none⟩ = some v := by rw [Lib.cell_of_heap hb2]; rfl
  have f1 : w2.frozen? ⟨b, 1, none⟩ = false := Lib.frozen_of_heap hb2 1
  obtain ⟨g, cap, rfl⟩ : ∃ g cap, v' = .slice (some ⟨g, 0, none⟩) (bs.length + 1) cap := by
    rcases hown'.2 with ⟨_, h0⟩ | ⟨g, cap, cur, hv, _⟩
    · omega
    · exact ⟨g, cap, hv⟩
  go_wp2
  go_ret
  refine ⟨rfl, ?_, ?_⟩
  · exact Lib.BuilderAt.put (T := 218) (e := 5) hB hb2 (bs' := bs ++ [.int .u8 c]) (by simpa using hown') (by decide)
  · exact ((hb1.alloc (by have := hb1.size; omega) _).grown hgrow (by have := hb1.size; simp; omega) (fun k hk => (hown.lt k hk).1)).setCell (p := ⟨b, 1, none⟩) hB _
def Tryz.blRen : Go.Shelf.Ren := ⟨fun | 169 => 320 | n => n, fun | 70 => 216 | 9 => 9 | 0 => 0 | 72 => 218 | 37 => 22 | 127 => 248 | 3 => 3 | 5 => 5 | n => n, fun | n => n⟩
theorem Tryz.blLays : Go.Proofs.Lays.n169 Tryz.prog Tryz.blRen := {
  mixed := by kernel_rfl
  f169 := Tryz.func320.trans (congrArg some (by kernel_rfl))
  t0 := Tryz.underlying0
  a0 := Tryz.isAgg0
  z0 := Tryz.sizeOf0
  v0 := Tryz.zeroValue0
  t3 := Tryz.underlying3
  a3 := Tryz.isAgg3
  z3 := Tryz.sizeOf3
  v3 := Tryz.zeroValue3
  t9 := Tryz.underlying9
  a9 := Tryz.isAgg9
  z9 := Tryz.sizeOf9
  v9 := Tryz.zeroValue9
  t37 := Tryz.underlying22
  a37 := Tryz.isAgg22
  z37 := Tryz.sizeOf22
  v37 := Tryz.zeroValue22
  t70 := Tryz.underlying216
  a70 := Tryz.isAgg216
  z70 := Tryz.sizeOf216
  v70 := Tryz.zeroValue216
  t72 := Tryz.underlying218
  a72 := Tryz.isAgg218
  z72 := Tryz.sizeOf218
  v72 := Tryz.zeroValue218
  t127 := Tryz.underlying248
  a127 := Tryz.isAgg248
  z127 := Tryz.sizeOf248
  v127 := Tryz.zeroValue248 }
theorem Tryz.blExtra : Builder.Extra Tryz.prog Tryz.blRen := {
  sizeBuilder := by kernel_rfl
  liesBuilder := by kernel_rfl
  t5 := Tryz.underlying5
  a5 := Tryz.isAgg5
  z5 := Tryz.sizeOf5
  v5 := Tryz.zeroValue5
  infoByte := by kernel_rfl
  cellsByte := by kernel_rfl
  sizeByte := by kernel_rfl
  neB5 := by decide }
theorem Tryz.bl_string (B b : Nat) (l : List UInt8) (w : World) (h : Lib.IsBuilder 218 5 B b (Lib.byteCells l) w) (hBw : B ≤ w.heap.size) :
    Calls Tryz.prog 320 #[.pointer (some ⟨b, 0, none⟩)] w fun e w' => e = .returned (.string ⟨l.toArray⟩) ∧ Below B w w' := Any.Builder_String_any Tryz.blLays Tryz.blExtra B b l w h hBw
set_option maxHeartbeats 4000000 in
theorem Tryz.bl_cap (s : ByteArray) (B k : Nat) (hk : k < s.size) (w : World) (hc : w.cell? ⟨B, 0, none⟩ = some (.string s)) :
    Calls Tryz.prog 318 #[.int .i64 k, .pointer (some ⟨B, 0, none⟩)] w fun e w' => e = .returned (.int .u8 (upB s[k]).toNat) ∧ w' = w := by
  go_enter Tryz.func318, Tryz.ntmps318
  go_wp2
  · rename_i h1 h2
    go_ret
    refine ⟨?_, rfl⟩
    show Ending.returned (Value.int .u8 ((s[k].toNat : Int) - 97 + 65)) = _
    unfold upB
    rw [if_pos ⟨by omega, by omega⟩, UInt8.toNat_sub_of_le _ _ (by rw [UInt8.le_iff_toNat_le]; show 32 ≤ _; omega)]
    rw [show ((s[k].toNat - UInt8.toNat 32 : Nat) : Int) = (s[k].toNat : Int) - 97 + 65 from by show ((s[k].toNat - 32 : Nat) : Int) = _; omega]
  · rename_i h1 h2
    go_ret
    refine ⟨?_, rfl⟩
    show Ending.returned (Value.int .u8 (s[k].toNat : Int)) = _
    unfold upB
    rw [if_neg (by omega)]
  · rename_i h1
    go_ret
    refine ⟨?_, rfl⟩
    show Ending.returned (Value.int .u8 (s[k].toNat : Int)) = _
    unfold upB
    rw [if_neg (by omega)]
set_option maxHeartbeats 4000000 in
theorem Tryz.bl_fold (s : ByteArray) (w : World) (hs : s.size ≤ 35184372088832) :
    Calls Tryz.prog 118 #[.string s] w fun e w' => e = .returned (.string (upS s)) ∧ Below w.heap.size w w' := by
  go_enter Tryz.func118, Tryz.ntmps118
  go_wp2
  go_loopw [9] (fun i wr => ∃ k : Nat, k ≤ s.size ∧ i = .int .i64 k ∧ Lib.IsBuilder 218 5 (w.heap.size + 1) (w.heap.size + 1) (Lib.byteCells ((s.data.toList.take k).map upB)) wr ∧ wr.heap[w.heap.size]? = some (.cells #[.string s] 9 (0, 0)) ∧ Below w.heap.size w wr ∧ w.heap.size + 1 < wr.heap.size) (fun i _ => s.size - (intOf i).toNat)
  case atStart =>
    have e0 : (w.alloc (Obj.cells #[Value.string s] 9)).heap.size = w.heap.size + 1 := by simp
    have hf := Lib.fresh_isBuilder 218 5 (w.alloc (Obj.cells #[Value.string s] 9))
    rw [e0] at hf
    refine ⟨0, by omega, rfl, hf, ?_, ((Below.refl _ w).alloc (Nat.le_refl _) _).alloc (by simp) _, by simp⟩
    rw [Lib.alloc_old _ _ _ (by simp)]
    exact heap_alloc_new w _
  case round =>
    obtain ⟨k, hk, rfl, hI, hb, hbw, hsz⟩ := hrel
    have c0 : wr.cell? ⟨w.heap.size, 0, none⟩ = some (.string s) := by rw [Lib.cell_of_heap hb]; rfl
    have sz : s.data.toList.length = s.size := by rw [Array.length_toList]; rfl
    have hlen : (Lib.byteCells ((s.data.toList.take k).map upB)).length + 1 ≤ 140737488355328 := by
      rw [Lib.byteCells_length, List.length_map, List.length_take, sz]; omega
    by_cases hp : k < s.size
    · go_wp2_with (first
        | (go_at_call 318; refine (Tryz.bl_cap s w.heap.size k hp _ c0).mono ?_; rintro e w1 ⟨rfl, rfl⟩)
        | (go_at_call 319; refine (Tryz.bl_write (w.heap.size + 1) (w.heap.size + 1) _ _ _ hI hlen (by omega)).mono ?_; rintro e w2 ⟨rfl, h1, b1⟩))
      go_roundw
      case rel =>
        refine ⟨k + 1, by omega, by go_num, ?_, by rw [b1.block _ (by omega)]; exact hb, hbw.trans (b1.mono (by omega)), ?_⟩
        · have e1 : (s.data.toList.take (k + 1)).map upB = (s.data.toList.take k).map upB ++ [upB s[k]] := by
            rw [List.take_add_one, List.map_append]
            have : s.data.toList[k]? = some s[k] := by rw [Array.getElem?_toList]; exact Array.getElem?_eq_getElem hp
            rw [this]; rfl
          rw [e1, Lib.byteCells_append]; exact .inr h1
        · have := b1.size; omega
      case measure =>
        show s.size - ((k : Int) + 1).toNat < s.size - (k : Int).toNat
        omega
    · obtain rfl : k = s.size := by omega
      go_wp2_with (go_at_call 320; refine (Tryz.bl_string (w.heap.size + 1) (w.heap.size + 1) _ _ hI (by omega)).mono ?_; rintro e w1 ⟨rfl, b1⟩)
      go_ret
      refine ⟨?_, hbw.trans (b1.mono (by omega))⟩
      rw [List.take_of_length_le (by first | (rw [List.length_map, sz]; exact Nat.le_refl _) | (rw [sz]; exact Nat.le_refl _))]
      rfl
end Go.Proofs
set_option maxRecDepth 100000
namespace Fz.D
open Go Go.Proofs Go.Proofs.YtadilgibkjdheaaGreatDoor Go.ChangeShapes Go.WideShapes Go.ChangeAt Go.RowKit
def nr (af : AFun) : Bool := !hasR af.code && match af.dfr with
  | some (pre, _, _, r) => pre.all (fun c => !hasR c) && !hasR r
  | none => true
theorem rOkF_of {q : AP} {af : AFun} (h : nr af = true) : rOkF q af := by
  unfold nr at h
  rw [Bool.and_eq_true, Bool.not_eq_true'] at h
  refine ⟨rOk_of _ h.1, fun x hx => ?_⟩
  obtain ⟨pre, a, b, r⟩ := x
  rw [hx] at h
  simp only [Bool.and_eq_true, List.all_eq_true, Bool.not_eq_true'] at h
  exact ⟨fun c hc => rOk_of _ (h.2.1 c hc), rOk_of _ h.2.2⟩
theorem tab_nr : tab.all (fun x => x.1 == 31 || nr x.2) = true := by kernel_rfl
theorem rng_ok {q : AP} (hq : q.body = bods) (f : FuncId) (af : AFun) (h : lk tab f = some af) : rOkF q af := by
  by_cases hf : f = 31
  · subst hf
    have e : lk tab 31 = some w31.toA := rfl
    rw [e] at h
    cases h
    refine ⟨?_, fun x hx => by cases hx⟩
    simp only [WF.toA, w31, toA, rOk, true_and, and_true]
    exact ⟨bd310, by rw [hq]; rfl, rfl, rfl, rfl⟩
  · have := List.all_eq_true.1 tab_nr _ (lk_mem _ _ _ h)
    rw [Bool.or_eq_true] at this
    rcases this with h1 | h1
    · exact absurd (by simpa using h1) hf
    · exact rOkF_of h1
theorem lift_ok {P : Program} {f : FuncId} {g : List V → Option V} (hg : ∀ args v, g args = some v → ∀ (K : Kn) (β : Bi) (H : List Ob) (w : World) (cargs : Array Value), Inv K β H w → LR K β args cargs.toList → DoesOk P f cargs w (CallPost K β H w (.ret v) H))
    (args : List V) (H : List Ob) (v : V) (H' : List Ob) (h : liftP g args H = some (v, H')) (K : Kn) (β : Bi) (w : World) (cargs : Array Value) (hI : Inv K β H w) (ha : LR K β args cargs.toList) : DoesOk P f cargs w (CallPost K β H w (.ret v) H') := by
  obtain ⟨u, hu, h⟩ := Option.map_eq_some_iff.1 h
  cases h
  exact hg _ _ hu K β H w cargs hI ha
theorem fold_ok (args : List V) (v : V) (h : foldP args = some v) (K : Kn) (β : Bi) (H : List Ob) (w : World) (cargs : Array Value) (hI : Inv K β H w) (ha : LR K β args cargs.toList) : DoesOk Tryz.prog 118 cargs w (CallPost K β H w (.ret v) H) := by
  unfold foldP at h
  split at h
  · rename_i s
    split at h
    · rename_i hs
      cases h
      obtain ⟨cs⟩ := cargs
      obtain ⟨c, r, e, h1, h2⟩ := ha.head
      obtain rfl : r = [] := List.eq_nil_of_length_eq_zero h2.1.symm
      have e : cs = [c] := e
      subst e
      cases h1
      exact walked_ok Tryz.func118 (by kernel_rfl) rfl (by decide) hI (Tryz.bl_fold s w hs) (.str _)
    · cases h
  · cases h
theorem prim0_ok (f : FuncId) (g : List V → List Ob → Option (V × List Ob)) (h : prim0 f = some g) (args : List V) (H : List Ob) (v : V) (H' : List Ob) (hv : g args H = some (v, H')) (K : Kn) (β : Bi) (w : World) (cargs : Array Value) (hI : Inv K β H w) (ha : LR K β args cargs.toList) :
    DoesOk Tryz.prog f cargs w (CallPost K β H w (.ret v) H') := by
  unfold prim0 at h
  split at h
  · rename_i e; subst e; cases h; exact lift_ok fold_ok _ _ _ _ hv K β w cargs hI ha
  split at h
  · rename_i e; subst e; cases h; exact lift_ok (fun a v h K β H w c => idx_ok Tryz.func92 (by kernel_rfl) (by kernel_rfl) (by kernel_rfl) (fun a => by kernel_rfl) (by decide) a v h K β H w c) _ _ _ _ hv K β w cargs hI ha
  split at h
  · rename_i e; subst e; cases h; exact lift_ok (fun a v h K β H w c hI ha => prim_ok Tryz.func371 (by kernel_rfl) (by kernel_rfl) (by kernel_rfl) (fun a => by kernel_rfl) a v h K β H w c hI ha) _ _ _ _ hv K β w cargs hI ha
  split at h
  · rename_i e; subst e; cases h; exact lift_ok (fun a v h K β H w c hI ha => prim_ok Tryz.func363 (by kernel_rfl) (by kernel_rfl) (by kernel_rfl) (fun a => by kernel_rfl) a v h K β H w c hI ha) _ _ _ _ hv K β w cargs hI ha
  split at h
  · rename_i e; subst e; cases h; exact lift_ok (fun a v h K β H w c hI ha => prim_ok Tryz.func372 (by kernel_rfl) (by kernel_rfl) (by kernel_rfl) (fun a => by kernel_rfl) a v h K β H w c hI ha) _ _ _ _ hv K β w cargs hI ha
  split at h
  · rename_i e; subst e; cases h; exact lift_ok (fun a v h K β H w c hI ha => prim_ok Tryz.func373 (by kernel_rfl) (by kernel_rfl) (by kernel_rfl) (fun a => by kernel_rfl) a v h K β H w c hI ha) _ _ _ _ hv K β w cargs hI ha
  split at h
  · rename_i e; subst e; cases h; exact lift_ok (fun a v h K β H w c hI ha => prim_ok Tryz.func387 (by kernel_rfl) (by kernel_rfl) (by kernel_rfl) (fun a => by kernel_rfl) a v h K β H w c hI ha) _ _ _ _ hv K β w cargs hI ha
  cases h
theorem apOk0 : APOk Tryz.prog p0 where
  mixed := by kernel_rfl
  fn f af h := fn_ok f af h
  prim f g h args H v H' hv K β w cargs _ hI ha := prim0_ok f g h args H v H' hv K β w cargs hI ha
  rng f af h := rng_ok rfl f af h
  bods := bods_ok
theorem laid_ok {l : List (List UInt8)} {f : FuncId} {n : Nat} (hn : l.length = n) (h : WFun p0 f [] [] fun r H => r = .ret (.own 0 0 n 1) ∧ H = [.live (l.map wV)]) (args : List V) (H : List Ob) (v : V) (H' : List Ob) (hv : laidP l args H = some (v, H')) : H = [] ∧ ∃ k, acall p0 k f args [] = some (.ret v, H') := by
  unfold laidP at hv
  split at hv
  · cases hv
    obtain ⟨k, r, G, h1, rfl, rfl⟩ := h
    exact ⟨rfl, k, by rw [h1, hn]⟩
  · cases hv
theorem apOk1 : APOk Tryz.prog p1 where
  mixed := by kernel_rfl
  fn f af h := fn_ok f af h
  prim f g h args H v H' hv K β w cargs hL hI ha := by
    have h : prim1 f = some g := h
    unfold prim1 at h
    split at h
    · rename_i e; subst e; cases h; exact proved_own apOk0 (laid_ok (by kernel_rfl) list_run) args H v H' hv K β w cargs hL hI ha
    split at h
    · rename_i e; subst e; cases h; exact proved_own apOk0 (laid_ok (by kernel_rfl) control_run) args H v H' hv K β w cargs hL hI ha
    exact prim0_ok f g h args H v H' hv K β w cargs hI ha
  rng f af h := rng_ok rfl f af h
  bods := bods_ok
theorem apOk : APOk Tryz.prog p := apOk1
theorem bulkOk : Bulk (fun {_} => Rows.uptoBulk) (fun {_} => Rows.uptoBulkAll) where
  lit b := by simp [Rows.uptoBulk]
  pos d := by
    cases d with
    | lit l => cases l <;> simp [Rows.uptoBulk]
    | _ => simp [Rows.uptoBulk]
  agg l := by simp [Rows.uptoBulk]
  slice l m := by simp [Rows.uptoBulk]
  nil := by simp [Rows.uptoBulkAll]
  cons d l := by simp [Rows.uptoBulkAll]
theorem own : ownKnob Tryz.prog.godebug = none := by kernel_rfl
theorem laidOut : laidOutB Tryz.prog = true := by kernel_rfl
theorem frz_bool {k : Nat} {u u' : V} {b : Bool} {H H' : List Ob} (h : freezeV k u H = some (u', H')) (hn : nrm u' = .bool b) : u = .bool b := by
  cases k with
  | zero => cases h
  | succ k =>
    have hu : ∀ x, nrm x = .bool b → x = .bool b := by
      intro x hx
      cases x <;> first | (rw [nr_bool] at hx; exact hx) | (simp [nrm] at hx)
    have := hu u' hn
    subst this
    cases u with
    | bool c => simp [freezeV] at h; rw [h.1]
    | own a b c d => exfalso; simp only [freezeV] at h; repeat' split at h
                     all_goals first | (cases h; done) | simp at h
    | mref a => exfalso; simp only [freezeV] at h; repeat' split at h
                all_goals first | (cases h; done) | simp at h
    | agg l => simp only [freezeV] at h; obtain ⟨x, _, h⟩ := Option.map_eq_some_iff.1 h; simp at h
    | tuple l => simp only [freezeV] at h; obtain ⟨x, _, h⟩ := Option.map_eq_some_iff.1 h; simp at h
    | _ => simp [freezeV] at h
theorem done {f : FuncId} {args : List V} (h : Comes p f args (.bool true)) (hi : p.inlY f = false) : ∃ n H', acall p n f args [] = some (.ret (.bool true), H') := by
  obtain ⟨_, _, _, n, u, H', h3, h4⟩ := h
  rcases h4 with ⟨h4, rfl⟩ | ⟨_, u', H'', h5, h6⟩
  · rw [hi] at h4; cases h4
  · exact ⟨n, H', by rw [h3, frz_bool h5 h6]⟩
end Fz.D
set_option maxRecDepth 100000
namespace Go.Proofs.YtadilgibkjdheaaGreatDoor
open Fz Fz.D Go.ChangeShapes Go.WideShapes Go.ChangeAt Go.RowKit
theorem gTab : Tryz.prog.globalNamed "strings.asciiSpace" = some 1 := by kernel_rfl
theorem gTabType : (Tryz.prog.globals[1]?).map (·.type) = some 224 := by kernel_rfl
theorem cellsTab : Tryz.prog.cellsOf 224 = 256 := by kernel_rfl
theorem cells8 : Tryz.prog.cellsOf 5 = 1 := by kernel_rfl
theorem tab_data : (Rows.laid_strings_asciiSpace : DataW Unit) = Lib.tabData .u8 asciiN := by kernel_rfl
theorem glob_ok {W : World} (hL : laidMet Tryz.prog (("strings.asciiSpace", Lib.tabData .u8 asciiN) :: []) W) : GlobW W := by
  have t : Lib.TabIs Tryz.prog W "strings.asciiSpace" .u8 asciiN := Lib.tabIs_of_head (rest := []) gTab gTabType Tryz.underlying224 Tryz.underlying5 cells8 cellsTab hL
  intro g l hg
  unfold globs at hg
  split at hg
  · rename_i e
    subst e
    cases hg
    have hc : ∀ i, i < 256 → W.cell? ⟨1, i, none⟩ = some (.int .u8 (asciiN.getD i 0)) := fun i hi => t.cell gTab i (by rw [show asciiN.length = 256 from by kernel_rfl]; exact hi)
    obtain ⟨_, cs, e, fr, h1, h2⟩ := cell_block (hc 255 (by omega))
    have h1 : W.heap[1]? = some (.cells cs e fr) := h1
    have hsz : 255 < cs.size := (Array.getElem?_eq_some_iff.1 (show cs[255]? = _ from h2)).1
    refine ⟨cs, e, fr, h1, by rw [List.length_map, show asciiN.length = 256 from by kernel_rfl]; omega, fun i v hv => ?_⟩
    rw [List.getElem?_map, Option.map_eq_some_iff] at hv
    obtain ⟨n, hn, rfl⟩ := hv
    refine ⟨.u8, n, rfl, ?_⟩
    have hi : i < 256 := by rw [← show asciiN.length = 256 from by kernel_rfl]; exact (List.getElem?_eq_some_iff.1 hn).1
    obtain ⟨_, cs', e', fr', h3, h4⟩ := cell_block (hc i hi)
    have h3 : W.heap[1]? = some (.cells cs' e' fr') := h3
    rw [h1] at h3
    cases h3
    have h4 : cs[i]? = some (.int .u8 (asciiN.getD i 0)) := h4
    rw [Array.getD_eq_getD_getElem?, h4, List.getD_eq_getElem?_getD, hn]
    rfl
  · cases hg
def seatLaid : List (String × DataW Unit) := [("unicode.White_Space", Rows.laid_unicode_White_Space), ("strings.asciiSpace", Rows.laid_strings_asciiSpace)]
theorem glob_seat {W : World} (hL : laidMetH Tryz.prog seatLaid W) : GlobW W := by
  rw [MakeChecks.laidMetH_plain _ _ _ (by kernel_rfl)] at hL
  have h := hL.filter fun x => x.1 == "strings.asciiSpace"
  refine glob_ok ?_
  rw [← tab_data]
  exact h
theorem door_met (os : Os) (args : Array Value) : laidMetH Tryz.prog seatLaid ((World.doorLaid Tryz.prog 400 os).forCall (fun _ _ => 0) ⟨#[], args, []⟩).memory :=
  laidMetH_of_parts3 (fuel := 8) (laidMet_of_run' 8 (by kernel_rfl) (by kernel_rfl)) (by kernel_rfl) (by kernel_rfl)
end Go.Proofs.YtadilgibkjdheaaGreatDoor
set_option maxRecDepth 100000
namespace Fz.D
open Go
def leN : List Int → Nat
  | [] => 0
  | c :: r => c.toNat + 256 * leN r
def cellE (m : List Int) (i : Int) : Int := if i < 0 ∨ (m.length : Int) - 8 < i then -9 else if i % 8 = 0 then 0 else -23
def cellN (m : List Int) (i : Int) : Int := if cellE m i = 0 then IntKind.i64.wrap (leN ((m.drop i.toNat).take 8) : Nat) else 0
def spanE (m : List Int) (i n : Int) : Int := if i < 0 ∨ n < 0 ∨ (m.length : Int) < n ∨ (m.length : Int) - n < i then -9 else 0
def spanB (m : List Int) (i n : Int) : List Int := if spanE m i n = 0 then (m.drop i.toNat).take n.toNat else []
end Fz.D
set_option maxRecDepth 100000
namespace Fz.D
open Go
structure Stp where
  source : ByteArray
  input : List Int
  size : Int
  depth : Int
  room : Int
def stpV (x : Stp) : V := .agg [.str x.source, byV x.input, .int .i64 x.size, .int .i64 x.depth, .int .i64 x.room]
@[simp] theorem stpV.gd (x : Stp) : ground (stpV x) = true := by simp [stpV]
@[simp] theorem stpV.gk (x : Stp) (k : Nat) : gk (k + 2) (stpV x) = true := by simp [stpV]
@[simp] theorem stpV.nr (x : Stp) : nrm (stpV x) = stpV x := by simp [stpV]
@[simp] theorem stpV.nm (x : Stp) : nm (stpV x) = true := by simp [stpV]
@[simp] theorem stpV.any (x : Stp) : isAny (stpV x) = false := rfl
@[simp] theorem stpV.cells (x : Stp) : cellsOf (stpV x) = [.str x.source, byV x.input, .int .i64 x.size, .int .i64 x.depth, .int .i64 x.room] := rfl
theorem stpF (x : Stp) : V.agg (cellsOf (stpV x)) = stpV x := rfl
structure StpTy (x : Stp) : Prop where
  input : by8 x.input
  size : i64 x.size
  depth : i64 x.depth
  room : i64 x.room
theorem setup_of {v : V} (h : HasT (.agg [.str, .sl (.int .u8), .int .i64, .int .i64, .int .i64]) v) : ∃ x, v = stpV x ∧ StpTy x := by
  obtain ⟨l, rfl, v1, r1, rfl, ⟨s, rfl⟩, v2, r2, rfl, h2, v3, r3, rfl, h3, v4, r4, rfl, h4, v5, r5, rfl, h5, rfl⟩ := h
  obtain ⟨a2, rfl, h2'⟩ := by_of h2
  obtain ⟨n3, rfl, h3'⟩ := i64_of h3
  obtain ⟨n4, rfl, h4'⟩ := i64_of h4
  obtain ⟨n5, rfl, h5'⟩ := i64_of h5
  exact ⟨⟨s, a2, n3, n4, n5⟩, rfl, h2', h3', h4', h5'⟩
def winB (a b c : Int) : Bool := decide (b ≤ a) && decide (a ≤ c)
def mayB (x : Stp) : Bool := winB x.size 512 65536 && (decide (Int.tmod x.size 8 = 0) && (winB x.depth 4 256 && (winB x.room 0 65536 && (decide ((x.source.size : Int) ≤ 4096) && decide ((x.input.length : Int) ≤ 4096)))))
def mayE (x : Stp) : Int := if mayB x then 0 else 1
end Fz.D
set_option maxRecDepth 100000
namespace Fz.D
open Go
def fewX (s : St) (x : Stp) : Bool := fewB s && (decide ((x.source.size : Int) ≤ 200) && decide ((x.input.length : Int) ≤ 40))
theorem few12_s (s : St) (x : Stp) : Comes p 8 [stV s, stpV x] (.bool (fewX s x)) := by
  have c := few_s s
  rw [← stF s] at c
  simp only [stV.cells] at c
  refine Comes_of w8 rfl rfl k8 ?_ ?_ ?_ ?_
  · simp
  · simp
  · simp
  · cases h1 : fewB s with
    | false => rw [h1] at c; simp -dsimp [w8, wFix_by, isInl, call_by c, fewX, h1]
    | true =>
      rw [h1] at c
      by_cases c1 : (x.source.size : Int) ≤ 200 <;> by_cases c2 : (x.input.length : Int) ≤ 40 <;> simp -dsimp [w8, wFix_by, isInl, call_by c, fewX, h1, c1, c2]
def bnd (n : Nat) (at_ : Int) : Nat := (min (max at_ 0) n).toNat
theorem bnd_le (n : Nat) (a : Int) : bnd n a ≤ n := by unfold bnd; omega
theorem bound_s (s : ByteArray) (a : Int) : Comes p 26 [.str s, .int .i64 a] (.int .i64 (bnd s.size a)) := by
  refine Comes_of w26 rfl rfl k26 ?_ ?_ ?_ ?_
  · simp
  · simp
  · simp
  · by_cases c1 : a < 0
    · have e : bnd s.size a = 0 := by unfold bnd; omega
      simp -dsimp [w26, wFix_by, isInl, c1, e]
    · by_cases c2 : (s.size : Int) < a
      · have e : bnd s.size a = s.size := by unfold bnd; omega
        simp -dsimp [w26, wFix_by, isInl, c1, c2, e]
      · have e : (bnd s.size a : Int) = a := by unfold bnd; omega
        simp -dsimp [w26, wFix_by, isInl, c1, c2, e]
theorem rest1_s (s : ByteArray) (a : Int) {Q : CR → List Ob → Prop} (hq : Q (.ret (.int .i64 (bnd s.size a))) [.live [.str s], .live [.int .i64 a]]) : xCall p 66 [.ptr 1 0, .ptr 0 0] [.live [.str s], .live [.int .i64 a]] Q := by
  refine WCall_inl (ids := [1, 0]) (by kernel_rfl) (by
    show reach _ (996 + 1 + 1 + 1 + 1) [1, 0] [] = _
    simp [reach, refsOb, refsL, refs]) ?_
  have i0 : List.idxOf 0 [1, 0] = 1 := rfl
  have i1 : List.idxOf 1 [1, 0] = 0 := rfl
  have k0 : backK [1, 0] 2 0 = 1 := rfl
  have k1 : backK [1, 0] 2 1 = 0 := rfl
  simp -dsimp [renL, ren, renOb, i0, i1]
  refine WFun_of w66 rfl rfl k66 ?_
  simp -dsimp [w66]
  have e : (if (s.size : Int) < if a < 0 then 0 else a then (s.size : Int) else if a < 0 then 0 else a) = bnd s.size a := by
    unfold bnd
    by_cases c1 : a < 0
    · rw [if_pos c1, if_neg (by omega)]; omega
    · rw [if_neg c1]; split <;> omega
  rw [e]
  simp -dsimp [backH, setAll, renR, renOb, crV, refs, refsL, renL, ren, k0, k1]
  exact hq
def sfx (s : ByteArray) (n : Nat) : ByteArray := s.extract n s.size
theorem rest_src (s : ByteArray) (a : Int) (hs : s.size ≤ 1000000) : Comes p 51 [.str s, .int .i64 a] (.tuple [.str (sfx s (bnd s.size a)), .int .i64 (bnd s.size a)]) := by
  have hb := bnd_le s.size a
  refine Comes_of w51 rfl rfl k51 ?_ ?_ ?_ ?_
  · simp
  · simp
  · simp
  · simp -dsimp [w51, wFix_by, isInl]
    refine rest1_s s a ?_
    simp -dsimp [wFix_by, isInl, sfx]
    exact hb
def nl : List UInt8 → Nat
  | [] => 0
  | b :: l => if b = 10 then 1 else nl l + 1
def lineP (s : ByteArray) (a : Int) : Nat := bnd s.size a + nl (s.data.toList.drop (bnd s.size a))
theorem len_s (s : ByteArray) : s.data.toList.length = s.size := by rw [Array.length_toList]; rfl
end Fz.D
set_option maxRecDepth 100000
namespace Fz.D
open Go
def plc (p : Nat × Nat) (c : UInt8) : Nat × Nat := if c = 10 then (p.1 + 1, 1) else (p.1, p.2 + 1)
def placeP (s : ByteArray) (a : Int) : Nat × Nat := (s.data.toList.take (bnd s.size a)).foldl plc (1, 1)
theorem plc_le (l : List UInt8) : (l.foldl plc (1, 1)).1 ≤ l.length + 1 ∧ (l.foldl plc (1, 1)).2 ≤ l.length + 1 ∧ 1 ≤ (l.foldl plc (1, 1)).2 := by
  have : ∀ (l : List UInt8) (p : Nat × Nat), 1 ≤ p.2 → (l.foldl plc p).1 ≤ l.length + p.1 ∧ (l.foldl plc p).2 ≤ l.length + p.2 ∧ 1 ≤ (l.foldl plc p).2 := by
    intro l
    induction l with
    | nil => intro p hp; simp; exact hp
    | cons c l ih =>
      intro p hp
      rw [List.foldl_cons, List.length_cons]
      have h2 : (plc p c).1 ≤ p.1 + 1 ∧ (plc p c).2 ≤ p.2 + 1 ∧ 1 ≤ (plc p c).2 := by unfold plc; split <;> simp
      have h := ih (plc p c) h2.2.2
      omega
  have := this l (1, 1) (Nat.le_refl _)
  simpa using this
theorem plc_snoc {l : List UInt8} {i : Nat} (h : i < l.length) : (l.take (i + 1)).foldl plc (1, 1) = plc ((l.take i).foldl plc (1, 1)) l[i] := by
  rw [List.take_succ_eq_append_getElem h, List.foldl_append]; rfl
theorem refPlace_s (s : ByteArray) (a : Int) (hs : s.size ≤ 1000000) : Comes p 40 [.str s, .int .i64 a] (.tuple [.int .i64 (placeP s a).1, .int .i64 (placeP s a).2]) := by
  have c := bound_s s a
  have hb := bnd_le s.size a
  refine Comes_of w40 rfl rfl k40 ?_ ?_ ?_ ?_
  · simp
  · simp
  · simp
  · simp -dsimp [w40, wFix_by, isInl]
    refine xL_by (by kernel_rfl) (fun k e H => ∃ i : Nat, i ≤ bnd s.size a ∧ k = bnd s.size a - i ∧ e 0 = .str s ∧ e 1 = .int .i64 a ∧ e 6 = .int .i64 ((s.data.toList.take i).foldl plc (1, 1)).1 ∧ e 7 = .int .i64 ((s.data.toList.take i).foldl plc (1, 1)).2 ∧ e 8 = .int .i64 i ∧ H = []) (bnd s.size a) ?_ ?_
    · refine ⟨0, by omega, rfl, ?_⟩
      simp -dsimp
    · rintro k e H ⟨i, hi, hk, h0, h1, h6, h7, h8, rfl⟩
      by_cases c1 : i < bnd s.size a
      · have hil : i < s.data.toList.length := by rw [len_s]; omega
        have his : i < s.size := by omega
        have hq : s.data.toList[i] = s.data[i] := by simp
        have hp := plc_snoc hil
        obtain ⟨q1, q2, q3⟩ := plc_le (s.data.toList.take i)
        rw [List.length_take, len_s, Nat.min_eq_left (by omega)] at q1 q2
        have w1 : IntKind.i64.wrap ((i : Int) + 1) = (i : Int) + 1 := Fz.w64 (by omega) (by omega)
        have w2 : IntKind.i64.wrap ((((s.data.toList.take i).foldl plc (1, 1)).1 : Int) + 1) = (((s.data.toList.take i).foldl plc (1, 1)).1 : Int) + 1 := Fz.w64 (by omega) (by omega)
        have w3 : IntKind.i64.wrap ((((s.data.toList.take i).foldl plc (1, 1)).2 : Int) + 1) = (((s.data.toList.take i).foldl plc (1, 1)).2 : Int) + 1 := Fz.w64 (by omega) (by omega)
        by_cases c2 : s.data[i] = 10
        · simp -dsimp [call_by c, h0, h1, h6, h7, h8, c1, c2, his, w1, w2, w3]
          refine ⟨bnd s.size a - (i + 1), by omega, i + 1, by omega, rfl, ?_⟩
          simp -dsimp [h0, h1, h6, h7, h8]
          rw [hp, hq, plc, if_pos c2]
          simp
        · have c3 : ¬ ((s.data[i]).toNat : Int) = 10 := fun h => c2 (UInt8.toNat.inj (show (s.data[i]).toNat = 10 by omega))
          simp -dsimp [call_by c, h0, h1, h6, h7, h8, c1, c3, his, w1, w2, w3]
          refine ⟨bnd s.size a - (i + 1), by omega, i + 1, by omega, rfl, ?_⟩
          simp -dsimp [h0, h1, h6, h7, h8]
          rw [hp, hq, plc, if_neg c2]
          simp
      · have hii : i = bnd s.size a := by omega
        subst hii
        simp -dsimp [call_by c, h0, h1, h6, h7, h8, c1, wFix_by, isInl, placeP]
theorem decode_skip (s : ByteArray) (pos : Nat) : 1 ≤ (Utf8.decode s pos).2 ∧ ∀ k, 1 ≤ k → k < (Utf8.decode s pos).2 → pos + k < s.size ∧ (s.get! (pos + k)).toNat / 64 = 2 := by
  simp only [Utf8.decode]
  repeat' split
  all_goals refine ⟨by simp, fun k h1 h2 => ?_⟩
  all_goals simp_all
  all_goals first | omega | skip
  · obtain rfl : k = 1 := by omega
    simp_all
  · rcases (show k = 1 ∨ k = 2 by omega) with rfl | rfl
    all_goals simp_all
  · rcases (show k = 1 ∨ k = 2 ∨ k = 3 by omega) with rfl | rfl | rfl
    all_goals simp_all
def lb (l : List UInt8) (to : Nat) : Nat → Nat × Nat
  | 0 => (1, 0)
  | m + 1 => if m < to ∧ l[m]? = some 10 then ((lb l to m).1 + 1, m + 1) else lb l to m
theorem lb_le (l : List UInt8) (to : Nat) : ∀ m, (lb l to m).2 ≤ m ∧ (lb l to m).1 ≤ m + 1 ∧ (lb l to m).2 ≤ to
  | 0 => by simp [lb]
  | m + 1 => by
    obtain ⟨h1, h2, h3⟩ := lb_le l to m
    rw [lb]
    split
    · rename_i hh; refine ⟨Nat.le_refl _, ?_, ?_⟩ <;> (try dsimp only) <;> omega
    · refine ⟨?_, ?_, ?_⟩ <;> omega
theorem lb_fold (l : List UInt8) (to : Nat) (hto : to ≤ l.length) : ∀ m, m ≤ to → (l.take m).foldl plc (1, 1) = ((lb l to m).1, m + 1 - (lb l to m).2)
  | 0, _ => rfl
  | m + 1, h => by
    have hm : m < l.length := by omega
    obtain ⟨h1, _, _⟩ := lb_le l to m
    rw [plc_snoc hm, lb_fold l to hto m (by omega), lb, List.getElem?_eq_getElem hm, plc]
    by_cases c : l[m] = 10
    · rw [if_pos c, if_pos ⟨by omega, by rw [c]⟩]
      simp
    · rw [if_neg c, if_neg (fun h => c (Option.some.inj h.2))]
      simp; omega
theorem lb_past (l : List UInt8) (to : Nat) : ∀ k, lb l to (to + k) = lb l to to
  | 0 => rfl
  | k + 1 => by
    rw [← Nat.add_assoc, lb, if_neg (by omega)]
    exact lb_past l to k
theorem lb_skip (l : List UInt8) (to pos : Nat) : ∀ k, (∀ j, 1 ≤ j → j < k → l[pos + j]? ≠ some 10) → 1 ≤ k → lb l to (pos + k) = lb l to (pos + 1)
  | 0, _, h => by omega
  | 1, _, _ => rfl
  | k + 2, h, _ => by
    rw [← Nat.add_assoc, lb, if_neg (fun hh => h (k + 1) (by omega) (by omega) hh.2)]
    exact lb_skip l to pos (k + 1) (fun j h1 h2 => h j h1 (by omega)) (by omega)
theorem placeP_lb (s : ByteArray) (a : Int) : placeP s a = ((lb s.data.toList (bnd s.size a) s.size).1, bnd s.size a + 1 - (lb s.data.toList (bnd s.size a) s.size).2) := by
  have hb := bnd_le s.size a
  unfold placeP
  rw [lb_fold _ (bnd s.size a) (by rw [len_s]; exact hb) _ (Nat.le_refl _)]
  have := lb_past s.data.toList (bnd s.size a) (s.size - bnd s.size a)
  rw [show bnd s.size a + (s.size - bnd s.size a) = s.size from by omega] at this
  rw [this]
theorem place_s (s : ByteArray) (a : Int) (hs : s.size ≤ 1000000) : Comes p 39 [.str s, .int .i64 a] (.tuple [.int .i64 (placeP s a).1, .int .i64 (placeP s a).2]) := by
  have c := rest_src s a hs
  have hb := bnd_le s.size a
  rw [placeP_lb]
  generalize hto : bnd s.size a = to at *
  refine Comes_of w39 rfl rfl k39 ?_ ?_ ?_ ?_
  · simp
  · simp
  · simp
  · simp -dsimp [w39, wFix_by, isInl, call_by c]
    refine xL_by (by kernel_rfl) (fun k e H => ∃ m : Nat, m ≤ s.size ∧ k = s.size - m ∧ e 0 = .str s ∧ e 7 = .int .i64 to ∧ e 8 = .int .i64 (lb s.data.toList to m).1 ∧ e 9 = .int .i64 (lb s.data.toList to m).2 ∧ e 18 = .ptr 0 0 ∧ H = [.iter s m]) s.size ?_ ?_
    · refine ⟨0, by omega, rfl, ?_⟩
      simp -dsimp [lb]
    · rintro k e H ⟨m, hm, hk, h0, h7, h8, h9, h18, rfl⟩
      obtain ⟨l1, l2, l3⟩ := lb_le s.data.toList to m
      by_cases c1 : m < s.size
      · obtain ⟨d1, d2⟩ := decode_skip s m
        obtain ⟨w, hw⟩ : ∃ w, w = (Utf8.decode s m).2 := ⟨_, rfl⟩
        rw [← hw] at d1 d2
        have hle : m + w ≤ s.size := by
          by_cases hw1 : w = 1
          · omega
          · have := (d2 (w - 1) (by omega) (by omega)).1
            omega
        have hml : m < s.data.toList.length := by rw [len_s]; exact c1
        have hq : s.data.toList[m]? = some s.data[m] := by rw [Array.getElem?_toList]; exact Array.getElem?_eq_getElem c1
        have hsk : lb s.data.toList to (m + w) = lb s.data.toList to (m + 1) := by
          refine lb_skip _ _ _ _ (fun j h1 h2 hj => ?_) d1
          obtain ⟨e1, e2⟩ := d2 j h1 h2
          have e3 : s.data.toList[m + j]? = some s.data[m + j] := by rw [Array.getElem?_toList]; exact Array.getElem?_eq_getElem e1
          rw [e3] at hj
          have e4 : s.get! (m + j) = s.data[m + j] := by
            simp [ByteArray.get!]
            exact getElem!_pos s.data (m + j) e1
          rw [e4, Option.some.inj hj] at e2
          simp at e2
        have hlb : lb s.data.toList to (m + 1) = if m < to ∧ s.data.toList[m]? = some 10 then ((lb s.data.toList to m).1 + 1, m + 1) else lb s.data.toList to m := rfl
        have w1 : IntKind.i64.wrap ((m : Int) + 1) = (m : Int) + 1 := Fz.w64 (by omega) (by omega)
        have w2 : IntKind.i64.wrap (((lb s.data.toList to m).1 : Int) + 1) = ((lb s.data.toList to m).1 : Int) + 1 := Fz.w64 (by omega) (by omega)
        by_cases c2 : m < to
        · by_cases c3 : s.data[m] = 10
          · rw [if_pos ⟨c2, by rw [hq, c3]⟩] at hlb
            rw [hlb] at hsk
            simp -dsimp [h0, h7, h8, h9, h18, c1, c2, c3, w1, w2]
            refine ⟨s.size - (m + w), by omega, m + w, by omega, rfl, ?_⟩
            simp -dsimp [h0, h7, h8, h9, h18, ← hw, hsk]
          · have c4 : ¬ ((s.data[m]).toNat : Int) = 10 := fun h => c3 (UInt8.toNat.inj (show (s.data[m]).toNat = 10 by omega))
            rw [if_neg (fun h => c3 (by have := h.2; rw [hq] at this; exact Option.some.inj this))] at hlb
            rw [hlb] at hsk
            simp -dsimp [h0, h7, h8, h9, h18, c1, c2, c4, w1, w2]
            refine ⟨s.size - (m + w), by omega, m + w, by omega, rfl, ?_⟩
            simp -dsimp [h0, h7, h8, h9, h18, ← hw, hsk]
        · rw [if_neg (fun h => c2 h.1)] at hlb
          rw [hlb] at hsk
          simp -dsimp [h0, h7, h8, h9, h18, c1, c2, w1, w2]
          refine ⟨s.size - (m + w), by omega, m + w, by omega, rfl, ?_⟩
          simp -dsimp [h0, h7, h8, h9, h18, ← hw, hsk]
      · have hii : m = s.size := by omega
        subst hii
        simp -dsimp [h0, h7, h8, h9, h18, c1, wFix_by, isInl]
        rw [Fz.w64 (n := (to : Int) - _) (by omega) (by omega), Fz.w64 (by omega) (by omega)]
        omega
def runN (f : UInt8 → Bool) : List UInt8 → Nat
  | [] => 0
  | c :: l => if f c then runN f l + 1 else 0
theorem runN_le (f : UInt8 → Bool) : ∀ l, runN f l ≤ l.length
  | [] => Nat.le_refl _
  | c :: l => by
    have := runN_le f l
    rw [runN, List.length_cons]
    split <;> omega
def blk (c : UInt8) : Bool := decide ((c.toNat : Int) ≤ 32)
def tokF (s : ByteArray) (a : Int) : Nat := bnd s.size a + runN blk (s.data.toList.drop (bnd s.size a))
def tokT (s : ByteArray) (a : Int) : Nat := tokF s a + runN (fun c => !blk c) (s.data.toList.drop (tokF s a))
def tokS (s : ByteArray) (a : Int) : ByteArray := s.extract (tokF s a) (tokT s a)
theorem tok_le (s : ByteArray) (a : Int) : tokF s a ≤ tokT s a ∧ tokT s a ≤ s.size := by
  have h1 := runN_le blk (s.data.toList.drop (bnd s.size a))
  have h2 := runN_le (fun c => !blk c) (s.data.toList.drop (tokF s a))
  have h3 := bnd_le s.size a
  rw [List.length_drop, len_s] at h1 h2
  unfold tokT
  have : tokF s a ≤ s.size := by unfold tokF; omega
  omega
end Fz.D
set_option maxRecDepth 100000
namespace Fz.D
open Go
theorem runN_at (f : UInt8 → Bool) (s : ByteArray) {i : Nat} (h : i < s.size) : runN f (s.data.toList.drop i) = if f s.data[i] then runN f (s.data.toList.drop (i + 1)) + 1 else 0 := by
  have hl : i < s.data.toList.length := by rw [len_s]; exact h
  rw [List.drop_eq_getElem_cons hl, runN]
  have : s.data.toList[i] = s.data[i] := by simp
  rw [this]
theorem runN_end (f : UInt8 → Bool) (s : ByteArray) {i : Nat} (h : s.size ≤ i) : runN f (s.data.toList.drop i) = 0 := by
  rw [List.drop_eq_nil_of_le (by rw [len_s]; exact h)]; rfl
theorem token_s (s : ByteArray) (a : Int) (hs : s.size ≤ 1000000) : Comes p 41 [.str s, .int .i64 a] (.tuple [.str (tokS s a), .int .i64 (tokF s a), .int .i64 (tokT s a)]) := by
  have c := rest_src s a hs
  have hb := bnd_le s.size a
  obtain ⟨t1, t2⟩ := tok_le s a
  have hF : bnd s.size a + runN blk (s.data.toList.drop (bnd s.size a)) = tokF s a := rfl
  have hT : tokF s a + runN (fun c => !blk c) (s.data.toList.drop (tokF s a)) = tokT s a := rfl
  refine Comes_of w41 rfl rfl k41 ?_ ?_ ?_ ?_
  · simp
  · simp
  · simp
  · simp -dsimp [w41, wFix_by, isInl, call_by c]
    refine xL_by (by kernel_rfl) (fun k e H => ∃ i : Nat, i ≤ s.size ∧ k = s.size - i ∧ e 0 = .str s ∧ e 8 = .int .i64 i ∧ H = [] ∧ i + runN blk (s.data.toList.drop i) = tokF s a) (s.size - bnd s.size a) ?_ ?_
    · refine ⟨bnd s.size a, hb, rfl, ?_⟩
      simp -dsimp [hF]
    · rintro k e H ⟨i, hi, hk, h0, h8, rfl, hx⟩
      have w1 : IntKind.i64.wrap ((i : Int) + 1) = (i : Int) + 1 := Fz.w64 (by omega) (by omega)
      by_cases c1 : i < s.size
      · rw [runN_at blk s c1] at hx
        by_cases c2 : ((s.data[i]).toNat : Int) ≤ 32
        · rw [if_pos (by simpa [blk] using c2)] at hx
          simp -dsimp [h0, h8, c1, c2, w1]
          refine ⟨s.size - (i + 1), by omega, i + 1, by omega, rfl, ?_⟩
          simp -dsimp [h0, h8]
          omega
        · rw [if_neg (by simpa [blk] using c2)] at hx
          obtain rfl : i = tokF s a := by omega
          simp -dsimp [h0, h8, c1, c2]
          refine xL_by (by kernel_rfl) (fun k e H => ∃ q : Nat, tokF s a ≤ q ∧ q ≤ s.size ∧ k = s.size - q ∧ e 0 = .str s ∧ e 8 = .int .i64 (tokF s a) ∧ e 9 = .int .i64 q ∧ H = [] ∧ q + runN (fun c => !blk c) (s.data.toList.drop q) = tokT s a) (s.size - tokF s a) ?_ ?_
          · exact ⟨tokF s a, by omega, by omega, rfl, by simp -dsimp [h0, h8, hT]⟩
          rintro k e H ⟨q, hq1, hq2, hk, h0, h8, h9, rfl, hx⟩
          have w2 : IntKind.i64.wrap ((q : Int) + 1) = (q : Int) + 1 := Fz.w64 (by omega) (by omega)
          by_cases d1 : q < s.size
          · rw [runN_at (fun c => !blk c) s d1] at hx
            by_cases d2 : ((s.data[q]).toNat : Int) ≤ 32
            · rw [if_neg (by simpa [blk] using d2)] at hx
              obtain rfl : q = tokT s a := by omega
              simp -dsimp [h0, h8, h9, d1, d2, wFix_by, isInl, tokS]
              omega
            · rw [if_pos (by simpa [blk] using d2)] at hx
              simp -dsimp [h0, h8, h9, d1, d2, w2]
              refine ⟨s.size - (q + 1), by omega, q + 1, by omega, by omega, rfl, ?_⟩
              simp -dsimp [h0, h8, h9]
              omega
          · rw [runN_end (fun c => !blk c) s (by omega)] at hx
            obtain rfl : q = tokT s a := by omega
            simp -dsimp [h0, h8, h9, d1, wFix_by, isInl, tokS]
            omega
      · rw [runN_end blk s (by omega)] at hx
        obtain rfl : i = tokF s a := by omega
        simp -dsimp [h0, h8, c1]
        refine xL_by (by kernel_rfl) (fun k e H => ∃ q : Nat, tokF s a ≤ q ∧ q ≤ s.size ∧ k = s.size - q ∧ e 0 = .str s ∧ e 8 = .int .i64 (tokF s a) ∧ e 9 = .int .i64 q ∧ H = [] ∧ q + runN (fun c => !blk c) (s.data.toList.drop q) = tokT s a) (s.size - tokF s a) ?_ ?_
        · exact ⟨tokF s a, by omega, by omega, rfl, by simp -dsimp [h0, h8, hT]⟩
        rintro k e H ⟨q, hq1, hq2, hk, h0, h8, h9, rfl, hx⟩
        have w2 : IntKind.i64.wrap ((q : Int) + 1) = (q : Int) + 1 := Fz.w64 (by omega) (by omega)
        by_cases d1 : q < s.size
        · rw [runN_at (fun c => !blk c) s d1] at hx
          by_cases d2 : ((s.data[q]).toNat : Int) ≤ 32
          · rw [if_neg (by simpa [blk] using d2)] at hx
            obtain rfl : q = tokT s a := by omega
            simp -dsimp [h0, h8, h9, d1, d2, wFix_by, isInl, tokS]
            omega
          · rw [if_pos (by simpa [blk] using d2)] at hx
            simp -dsimp [h0, h8, h9, d1, d2, w2]
            refine ⟨s.size - (q + 1), by omega, q + 1, by omega, by omega, rfl, ?_⟩
            simp -dsimp [h0, h8, h9]
            omega
        · rw [runN_end (fun c => !blk c) s (by omega)] at hx
          obtain rfl : q = tokT s a := by omega
          simp -dsimp [h0, h8, h9, d1, wFix_by, isInl, tokS]
          omega
theorem refToken_s (s : ByteArray) (a : Int) (hs : s.size ≤ 1000000) : Comes p 42 [.str s, .int .i64 a] (.tuple [.str (tokS s a), .int .i64 (tokF s a), .int .i64 (tokT s a)]) := by
  have c := bound_s s a
  have hb := bnd_le s.size a
  obtain ⟨t1, t2⟩ := tok_le s a
  have hF : bnd s.size a + runN blk (s.data.toList.drop (bnd s.size a)) = tokF s a := rfl
  have hT : tokF s a + runN (fun c => !blk c) (s.data.toList.drop (tokF s a)) = tokT s a := rfl
  refine Comes_of w42 rfl rfl k42 ?_ ?_ ?_ ?_
  · simp
  · simp
  · simp
  · simp -dsimp [w42, wFix_by, isInl, call_by c]
    refine xL_by (by kernel_rfl) (fun k e H => ∃ i : Nat, i ≤ s.size ∧ k = s.size - i ∧ e 0 = .str s ∧ e 7 = .int .i64 i ∧ H = [] ∧ i + runN blk (s.data.toList.drop i) = tokF s a) (s.size - bnd s.size a) ?_ ?_
    · refine ⟨bnd s.size a, hb, rfl, ?_⟩
      simp -dsimp [hF]
    · rintro k e H ⟨i, hi, hk, h0, h7, rfl, hx⟩
      have w1 : IntKind.i64.wrap ((i : Int) + 1) = (i : Int) + 1 := Fz.w64 (by omega) (by omega)
      by_cases c1 : i < s.size
      · rw [runN_at blk s c1] at hx
        by_cases c2 : ((s.data[i]).toNat : Int) ≤ 32
        · rw [if_pos (by simpa [blk] using c2)] at hx
          simp -dsimp [h0, h7, c1, c2, w1]
          refine ⟨s.size - (i + 1), by omega, i + 1, by omega, rfl, ?_⟩
          simp -dsimp [h0, h7]
          omega
        · rw [if_neg (by simpa [blk] using c2)] at hx
          obtain rfl : i = tokF s a := by omega
          simp -dsimp [h0, h7, c1, c2]
          refine xL_by (by kernel_rfl) (fun k e H => ∃ q : Nat, tokF s a ≤ q ∧ q ≤ s.size ∧ k = s.size - q ∧ e 0 = .str s ∧ e 7 = .int .i64 (tokF s a) ∧ e 8 = .int .i64 q ∧ H = [] ∧ q + runN (fun c => !blk c) (s.data.toList.drop q) = tokT s a) (s.size - tokF s a) ?_ ?_
          · exact ⟨tokF s a, by omega, by omega, rfl, by simp -dsimp [h0, h7, hT]⟩
          rintro k e H ⟨q, hq1, hq2, hk, h0, h7, h8, rfl, hx⟩
          have w2 : IntKind.i64.wrap ((q : Int) + 1) = (q : Int) + 1 := Fz.w64 (by omega) (by omega)
          by_cases d1 : q < s.size
          · rw [runN_at (fun c => !blk c) s d1] at hx
            by_cases d2 : (32 : Int) < (s.data[q]).toNat
            · rw [if_pos (by simpa [blk] using d2)] at hx
              simp -dsimp [h0, h7, h8, d1, d2, w2]
              refine ⟨s.size - (q + 1), by omega, q + 1, by omega, by omega, rfl, ?_⟩
              simp -dsimp [h0, h7, h8]
              omega
            · rw [if_neg (by simpa [blk] using d2)] at hx
              obtain rfl : q = tokT s a := by omega
              simp -dsimp [h0, h7, h8, d1, d2, wFix_by, isInl, tokS]
              omega
          · rw [runN_end (fun c => !blk c) s (by omega)] at hx
            obtain rfl : q = tokT s a := by omega
            simp -dsimp [h0, h7, h8, d1, wFix_by, isInl, tokS]
            omega
      · rw [runN_end blk s (by omega)] at hx
        obtain rfl : i = tokF s a := by omega
        simp -dsimp [h0, h7, c1]
        refine xL_by (by kernel_rfl) (fun k e H => ∃ q : Nat, tokF s a ≤ q ∧ q ≤ s.size ∧ k = s.size - q ∧ e 0 = .str s ∧ e 7 = .int .i64 (tokF s a) ∧ e 8 = .int .i64 q ∧ H = [] ∧ q + runN (fun c => !blk c) (s.data.toList.drop q) = tokT s a) (s.size - tokF s a) ?_ ?_
        · exact ⟨tokF s a, by omega, by omega, rfl, by simp -dsimp [h0, h7, hT]⟩
        rintro k e H ⟨q, hq1, hq2, hk, h0, h7, h8, rfl, hx⟩
        have w2 : IntKind.i64.wrap ((q : Int) + 1) = (q : Int) + 1 := Fz.w64 (by omega) (by omega)
        by_cases d1 : q < s.size
        · rw [runN_at (fun c => !blk c) s d1] at hx
          by_cases d2 : (32 : Int) < (s.data[q]).toNat
          · rw [if_pos (by simpa [blk] using d2)] at hx
            simp -dsimp [h0, h7, h8, d1, d2, w2]
            refine ⟨s.size - (q + 1), by omega, q + 1, by omega, by omega, rfl, ?_⟩
            simp -dsimp [h0, h7, h8]
            omega
          · rw [if_neg (by simpa [blk] using d2)] at hx
            obtain rfl : q = tokT s a := by omega
            simp -dsimp [h0, h7, h8, d1, d2, wFix_by, isInl, tokS]
            omega
        · rw [runN_end (fun c => !blk c) s (by omega)] at hx
          obtain rfl : q = tokT s a := by omega
          simp -dsimp [h0, h7, h8, d1, wFix_by, isInl, tokS]
          omega
def spotI (a : Int) : List Spo → Nat → Int
  | [], _ => -1
  | c :: r, i => if c.addr = a then i else spotI a r (i + 1)
def spotF (s : St) (x : Stp) (a : Int) : (Nat × Nat) × Bool := match s.spots.find? (fun c => decide (c.addr = a)) with
  | some c => (placeP x.source c.at_, true)
  | none => ((0, 0), false)
theorem refSpot_s {s : St} {x : Stp} (a : Int) (hs : StLen s) (hx : x.source.size ≤ 1000000) : Comes p 17 [stV s, stpV x, .int .i64 a] (.agg [.int .i64 (spotF s x a).1.1, .int .i64 (spotF s x a).1.2, .bool (spotF s x a).2]) := by
  have hl := hs.spots
  refine Comes_of w17 rfl rfl k17 ?_ ?_ ?_ ?_
  · simp
  · simp
  · simp
  · simp -dsimp [-stV.cells, -stpV.cells, w17, wFix_by, isInl]
    refine xL_by (by kernel_rfl) (fun k e H => ∃ i : Nat, i ≤ s.spots.length ∧ k = s.spots.length - i ∧ e 2 = .int .i64 a ∧ e 3 = .ptr 0 0 ∧ e 4 = .ptr 1 0 ∧ e 6 = .ptr 2 0 ∧ e 7 = .int .i64 i ∧ H = [.live (cellsOf (stV s)), .live (cellsOf (stpV x)), .live [.int .i64 0, .int .i64 0, .bool false]] ∧ s.spots.find? (fun c => decide (c.addr = a)) = (s.spots.drop i).find? (fun c => decide (c.addr = a))) s.spots.length ?_ ?_
    · refine ⟨0, by omega, rfl, ?_⟩
      simp -dsimp
    · rintro k e H ⟨i, hi, hk, h2, h3, h4, h6, h7, rfl, hf⟩
      by_cases c1 : i < s.spots.length
      · have g1 : s.spots[i]?.getD default = s.spots[i] := by simp [c1]
        have hp := refPlace_s x.source s.spots[i].at_ hx
        rw [List.drop_eq_getElem_cons c1, List.find?_cons] at hf
        by_cases c2 : s.spots[i].addr = a
        · rw [decide_eq_true c2] at hf
          have e : spotF s x a = (placeP x.source s.spots[i].at_, true) := by unfold spotF; rw [hf]
          simp -dsimp [h2, h3, h4, h6, h7, c1, c2, g1, sposV, quiet_by hp, e, wFix_by, isInl]
        · rw [decide_eq_false c2] at hf
          simp -dsimp [h2, h3, h4, h6, h7, c1, c2, g1, sposV]
          refine ⟨s.spots.length - (i + 1), by omega, i + 1, by omega, rfl, ?_⟩
          simp -dsimp [h2, h3, h4, h6, h7]
          exact ⟨Fz.w64 (by omega) (by omega), by simpa using hf⟩
      · rw [List.drop_eq_nil_of_le (by omega)] at hf
        have e : spotF s x a = ((0, 0), false) := by unfold spotF; rw [hf]; rfl
        simp -dsimp [h2, h3, h4, h6, h7, c1, sposV, e, wFix_by, isInl]
end Fz.D
set_option maxRecDepth 100000
namespace Fz.D
open Go
structure Mks where
  breaks : List Int
  lines : List Int
  cells : List Int
def mksV (m : Mks) : V := .agg [inV m.breaks, inV m.lines, inV m.cells]
@[simp] theorem mksV.gd (m : Mks) : ground (mksV m) = true := by simp [mksV]
@[simp] theorem mksV.gk (m : Mks) (k : Nat) : gk (k + 2) (mksV m) = true := by simp [mksV]
@[simp] theorem mksV.nr (m : Mks) : nrm (mksV m) = mksV m := by simp [mksV]
@[simp] theorem mksV.nm (m : Mks) : nm (mksV m) = true := by simp [mksV]
@[simp] theorem mksV.any (m : Mks) : isAny (mksV m) = false := rfl
@[simp] theorem mksV.cells (m : Mks) : cellsOf (mksV m) = [inV m.breaks, inV m.lines, inV m.cells] := rfl
def fewM (m : Mks) : Bool := decide ((m.breaks.length : Int) ≤ 30) && (decide ((m.lines.length : Int) ≤ 30) && decide ((m.cells.length : Int) ≤ 30))
def chgB (a b : List Int) (i : Int) : Bool := !(decide (cellN a i = cellN b i)) || !(decide (cellE a i = cellE b i))
abbrev chgF : V := .fn (.func 44) [] [.ptr 0 0, .ptr 1 0]
abbrev twoH (s t : St) : List Ob := [.live (cellsOf (stV s)), .live (cellsOf (stV t))]
def chgI (a b : List Int) : List Int → Nat → Int
  | [], _ => -1
  | c :: r, i => if chgB a b c then i else chgI a b r (i + 1)
def chgs (m : Mks) (a b : List Int) : Bool := m.cells.any (chgB a b)
end Fz.D
set_option maxRecDepth 100000
namespace Fz.D
open Go
theorem awake22_s : Comes p 15 [] (.bool true) := by
  obtain ⟨H, h⟩ := isTrue_ok awake22
  exact ⟨rfl, rfl, rfl, 1000, .bool true, H, h, .inr ⟨rfl, .bool true, H, rfl, rfl⟩⟩
structure MkTy (m : Mks) : Prop where
  breaks : ∀ n ∈ m.breaks, i64 n
  lines : ∀ n ∈ m.lines, i64 n
  cells : ∀ n ∈ m.cells, i64 n
end Fz.D
set_option maxRecDepth 100000
namespace Fz.D
open Go
theorem spotI_find (a : Int) : ∀ (l : List Spo) (i : Nat), (∃ k : Nat, ∃ h : k < l.length, spotI a l i = ((i + k : Nat) : Int) ∧ l.find? (fun c => decide (c.addr = a)) = some l[k]) ∨ (spotI a l i = -1 ∧ l.find? (fun c => decide (c.addr = a)) = none)
  | [], i => .inr ⟨rfl, rfl⟩
  | x :: l, i => by
    rw [spotI, List.find?_cons]
    by_cases h : x.addr = a
    · exact .inl ⟨0, by simp, by simp [h], by simp [h]⟩
    · rw [if_neg h, decide_eq_false h]
      rcases spotI_find a l (i + 1) with ⟨k, hk, h1, h2⟩ | h
      · exact .inl ⟨k + 1, by simpa using hk, by rw [h1]; omega, by simpa using h2⟩
      · exact .inr h
abbrev atH (a : Int) : List Ob := [.live [.int .i64 a]]
theorem spot1_s {c : Spo} {a : Int} {Q : CR → List Ob → Prop} (hq : Q (.ret (.bool (decide (c.addr = a)))) (atH a)) :
    xCall p 38 [spoV c, .ptr 0 0] (atH a) Q := by
  refine WCall_inl (ids := [0]) (by kernel_rfl) (by rfl) ?_
  have ri : ∀ g, ren g (spoV c) = spoV c := fun g => ground_ren g _ (spoV.gd c)
  simp -dsimp [renL, ren, renOb, ri]
  refine WFun_of w38 rfl rfl k38 ?_
  have i0 : List.idxOf 0 [0] = 0 := rfl
  have k0 : backK [0] 1 0 = 0 := rfl
  simp -dsimp [w38, i0, backH, setAll, renR, renOb, crV, refs, refsL, ren, renL, k0]
  exact hq
abbrev spoF : V := .fn (.func 38) [] [.ptr 0 0]
theorem idxSpot_s {l : List Spo} {a : Int} (hl : l.length ≤ 1000000) {Q : CR → List Ob → Prop} (hq : Q (.ret (.int .i64 (spotI a l 0))) (atH a)) :
    WFun p 37 [sposV l, spoF] (atH a) Q := by
  refine WFun_of w37 rfl rfl k37 ?_
  simp -dsimp [w37]
  refine xL_by (by kernel_rfl) (fun k e H => ∃ i : Nat, i ≤ l.length ∧ k = l.length - i ∧ e 0 = sposV l ∧ e 1 = spoF ∧ e 7 = .int .i64 l.length ∧ e 8 = .int .i64 i ∧ H = atH a ∧ spotI a (l.drop i) i = spotI a l 0) l.length ?_ ?_
  · refine ⟨0, by omega, rfl, ?_⟩
    simp -dsimp [sposV]
  · rintro k e H ⟨i, hi, hk, h0, h1, h7, h8, rfl, hx⟩
    by_cases c1 : i < l.length
    · have g1 : l[i]?.getD default = l[i] := by simp [c1]
      rw [List.drop_eq_getElem_cons c1, spotI] at hx
      simp -dsimp [h0, h1, h7, h8, c1, g1, sposV]
      refine spot1_s (c := l[i]) ?_
      by_cases hb : l[i].addr = a
      · rw [if_pos hb] at hx
        simp -dsimp [h0, h1, h7, h8, hb]
        rw [← hx] at hq
        exact hq
      · rw [if_neg hb] at hx
        simp -dsimp [h0, h1, h7, h8, hb]
        refine ⟨l.length - (i + 1), by omega, i + 1, by omega, rfl, ?_⟩
        simp -dsimp [h0, h1, h7, h8]
        exact ⟨Fz.w64 (by omega) (by omega), by simpa using hx⟩
    · simp -dsimp [h0, h1, h7, h8, c1]
      rw [List.drop_eq_nil_of_le (by omega)] at hx
      rw [← hx] at hq
      exact hq
theorem spot_s {s : St} {x : Stp} (a : Int) (hs : StLen s) (hx : x.source.size ≤ 1000000) : Comes p 16 [stV s, stpV x, .int .i64 a] (.tuple [.int .i64 (spotF s x a).1.1, .int .i64 (spotF s x a).1.2, .bool (spotF s x a).2]) := by
  have hl := hs.spots
  refine Comes_of w16 rfl rfl k16 ?_ ?_ ?_ ?_
  · simp
  · simp
  · simp
  · have gl : ground (sposV s.spots) = true := by simp [sposV]
    simp -dsimp [w16, wFix_by, isInl]
    refine WCall_inl (ids := [2]) (by kernel_rfl) (by
      rw [show refsL [sposV s.spots, V.fn (.func 38) [] [.ptr 2 0]] = [2] from by rw [refsL, refsL, ground_refs _ gl]; rfl]
      show reach _ (998 + 1 + 1) [2] [] = _
      simp [reach, refsOb, refsL, refs]) ?_
    have i2 : List.idxOf 2 [2] = 0 := rfl
    have ri : ∀ g, ren g (sposV s.spots) = sposV s.spots := fun g => ground_ren g _ gl
    simp -dsimp [renL, ren, renOb, i2, ri]
    refine idxSpot_s (l := s.spots) (a := a) (by omega) ?_
    rcases spotI_find a s.spots 0 with ⟨k, hk, h1, h2⟩ | ⟨h1, h2⟩
    · have e : spotF s x a = (placeP x.source s.spots[k].at_, true) := by unfold spotF; rw [h2]
      have hp := place_s x.source s.spots[k].at_ hx
      have g1 : s.spots[k]?.getD default = s.spots[k] := by simp [hk]
      rw [h1, e]
      have q1 : ¬ ((k : Int) < 0) := by omega
      simp -dsimp [backH, setAll, renR, renOb, crV, refs, refsL, ren, renL, show backK [2] 3 0 = 2 from rfl, wFix_by, isInl, quiet_by hp, g1, hk, sposV, q1]
    · have e : spotF s x a = ((0, 0), false) := by unfold spotF; rw [h2]
      rw [h1, e]
      simp -dsimp [backH, setAll, renR, renOb, crV, refs, refsL, ren, renL, show backK [2] 3 0 = 2 from rfl, wFix_by, isInl]
def lineF (s : St) (x : Stp) : Nat := if s.ip = 0 then (if tokS x.source s.at_ = ⟨#[]⟩ then 0 else (placeP x.source (tokF x.source s.at_)).1) else (spotF s x s.ip).1.1
theorem size_nil {b : ByteArray} : b.size = 0 ↔ b = ⟨#[]⟩ := by
  constructor
  · intro h
    obtain ⟨a⟩ := b
    congr 1
    exact Array.eq_empty_of_size_eq_zero h
  · rintro rfl; rfl
theorem wline_s {s : St} {x : Stp} (hs : StLen s) (hx : x.source.size ≤ 1000000) : Comes p 18 [stV s, stpV x] (.int .i64 (lineF s x)) := by
  have c1 := spot_s (x := x) s.ip hs hx
  have c2 := token_s x.source s.at_ hx
  have c3 := place_s x.source (tokF x.source s.at_) hx
  rw [← stF s, ← stpF x] at c1
  simp only [stV.cells, stpV.cells] at c1
  refine Comes_of w18 rfl rfl k18 ?_ ?_ ?_ ?_
  · simp
  · simp
  · simp
  · by_cases h1 : s.ip = 0
    · by_cases h2 : tokS x.source s.at_ = ⟨#[]⟩
      · have e : lineF s x = 0 := by unfold lineF; rw [if_pos h1, if_pos h2]
        simp -dsimp [w18, wFix_by, isInl, h1, h2, call_by c2, e]
      · have e : lineF s x = (placeP x.source (tokF x.source s.at_)).1 := by unfold lineF; rw [if_pos h1, if_neg h2]
        simp -dsimp [w18, wFix_by, isInl, h1, h2, call_by c2, call_by c3, e]
    · have e : lineF s x = (spotF s x s.ip).1.1 := by unfold lineF; rw [if_neg h1]
      simp -dsimp [w18, wFix_by, isInl, h1, call_by c1, e]
theorem refWline_s {s : St} {x : Stp} (hs : StLen s) (hx : x.source.size ≤ 1000000) : Comes p 19 [stV s, stpV x] (.int .i64 (lineF s x)) := by
  have c1 := refSpot_s (x := x) s.ip hs hx
  have c2 := refToken_s x.source s.at_ hx
  have c3 := refPlace_s x.source (tokF x.source s.at_) hx
  rw [← stF s, ← stpF x] at c1
  simp only [stV.cells, stpV.cells] at c1
  refine Comes_of w19 rfl rfl k19 ?_ ?_ ?_ ?_
  · simp
  · simp
  · simp
  · by_cases h1 : s.ip = 0
    · by_cases h2 : tokS x.source s.at_ = ⟨#[]⟩
      · have e : lineF s x = 0 := by unfold lineF; rw [if_pos h1, if_pos h2]
        have z : (tokS x.source s.at_).size = 0 := size_nil.2 h2
        simp -dsimp [w19, wFix_by, isInl, h1, z, call_by c2, e]
      · have e : lineF s x = (placeP x.source (tokF x.source s.at_)).1 := by unfold lineF; rw [if_pos h1, if_neg h2]
        have z : ¬ (tokS x.source s.at_).size = 0 := fun h => h2 (size_nil.1 h)
        simp -dsimp [w19, wFix_by, isInl, h1, z, call_by c2, call_by c3, e]
    · have e : lineF s x = (spotF s x s.ip).1.1 := by unfold lineF; rw [if_neg h1]
      simp -dsimp [w19, wFix_by, isInl, h1, call_by c1, e]
theorem law_places {s : St} {x : Stp} {at_ : Int} : Comes p 5 [stV s, stpV x, .int .i64 at_] (.bool true) := by
  have a := awake22_s
  have c1 := few12_s s x
  rw [← stF s, ← stpF x] at c1
  simp only [stV.cells, stpV.cells] at c1
  refine Comes_of w5 rfl rfl k5 ?_ ?_ ?_ ?_
  · simp
  · simp
  · simp
  · cases h1 : fewX s x with
    | false => rw [h1] at c1; simp -dsimp [w5, wFix_by, isInl, call_by a, call_by c1]
    | true =>
      rw [h1] at c1
      have h1' := h1
      unfold fewX at h1'
      simp only [Bool.and_eq_true, decide_eq_true_eq] at h1'
      obtain ⟨hf, hx1, hx2⟩ := h1'
      have hl := few_st hf
      have hx : x.source.size ≤ 1000000 := by omega
      have d1 := spot_s (x := x) at_ hl hx
      have d2 := refSpot_s (x := x) at_ hl hx
      have d3 := wline_s (x := x) hl hx
      have d4 := refWline_s (x := x) hl hx
      generalize lineF s x = q at d3 d4
      generalize spotF s x at_ = r at d1 d2
      rw [← stF s, ← stpF x] at d1 d2 d3 d4
      simp only [stV.cells, stpV.cells] at d1 d2 d3 d4
      simp -dsimp [w5, wFix_by, isInl, call_by a, call_by c1, call_by d1, call_by d2, call_by d3, call_by d4, quiet_by d3, quiet_by d4]
end Fz.D
