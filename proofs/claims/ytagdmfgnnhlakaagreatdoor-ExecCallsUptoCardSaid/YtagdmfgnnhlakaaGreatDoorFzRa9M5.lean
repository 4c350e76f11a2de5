import Derived.Test.YtagdmfgnnhlakaaGreatDoorFzRa9M4
import Derived.Test.YtagdmfgnnhlakaaGreatDoorProg
import Derived.Test.YtagdmfgnnhlakaaGreatDoorChecked
import Derived.Shelf.Strings.Builder1
import Derived.BigCall
import Derived.WalkKit
import Derived.Test.YtagdmfgnnhlakaaGreatDoorRows
import Derived.Test.YtagdmfgnnhlakaaGreatDoorCards
import Derived.Test.YtagdmfgnnhlakaaGreatDoorTie
import Derived.Deep.DeepWitnessRowRef
import Derived.LaidMore
import Derived.Lib.LaidTab
set_option linter.all false
set_option linter.unusedVariables false
set_option linter.unusedSimpArgs false
set_option linter.unnecessarySimpa false
set_option maxRecDepth 100000
namespace Fz.D
open Go Go.Proofs
def w174 : WF := { nt := 112, results := [(6, none), (7, none), (8, none)], code :=
(.seq (.reg [ao 6 (.mov (.c (.int .i64 0))),
ao 7 (.mov (.c (.int .i64 0))),
ao 8 (.mov (.c (.bool false)))])
(.seq (.reg [ao 9 (.alloc [(.int .u64 0), (.int .u64 0)])])
(.seq (.reg [mv 20 0,
ao 21 (.call 311 [(.t 20)]),
mv 22 1,
ao 23 (.call 311 [(.t 22)]),
ao 24 (.call 310 [(.t 21), (.t 23)]),
mv 19 24,
ao 25 (.extract 0 (.t 19)),
ao 26 (.extract 1 (.t 19)),
ao 27 (.indexPA 2 1 (.t 9) (.c (.int .i64 0))),
an (.store 1 (.t 27) (.t 25)),
ao 28 (.indexPA 2 1 (.t 9) (.c (.int .i64 1))),
an (.store 1 (.t 28) (.t 26))])
(.seq (.reg [mv 29 2,
ao 30 (.call 311 [(.t 29)]),
ao 10 (.alloc [(.int .u64 0)]),
an (.store 1 (.t 10) (.t 30))])
(.seq (.seq (.reg [mv 31 2,
ao 32 (.bin .eql .no (.t 31) (.c (.int .i64 0))),
mv 33 32,
ag 34 (.indexPA 2 1 (.t 9) (.c (.int .i64 0))) 33 false,
ag 35 (.load false 1 (.t 34)) 33 false,
ag 36 (.load false 1 (.t 10)) 33 false,
ag 37 (.bin .geq .no (.t 35) (.t 36)) 33 false,
ao 38 (.pick (.t 33) (.c (.bool true)) (.t 37))])
(.cond (.t 38)
(.seq (.reg [ao 6 (.mov (.c (.int .i64 0))),
ao 7 (.mov (.c (.int .i64 0))),
ao 8 (.mov (.c (.bool false)))])
.ret)
.skip))
(.seq (.reg [ao 40 (.indexPA 2 1 (.t 9) (.c (.int .i64 0))),
ao 41 (.load false 1 (.t 40)),
ao 42 (.indexPA 2 1 (.t 9) (.c (.int .i64 1))),
ao 43 (.load false 1 (.t 42)),
ao 44 (.load false 1 (.t 10)),
ao 45 (.call 312 [(.t 41), (.t 43), (.t 44)]),
mv 39 45,
ao 46 (.extract 0 (.t 39)),
ao 47 (.extract 1 (.t 39)),
ao 11 (.alloc [(.int .u64 0)]),
ao 12 (.alloc [(.int .u64 0)]),
an (.store 1 (.t 11) (.t 46)),
an (.store 1 (.t 12) (.t 47))])
(.seq (.reg [mv 48 0,
ao 49 (.bin .lss .no (.t 48) (.c (.int .i64 0))),
mv 50 1,
ao 51 (.bin .lss .no (.t 50) (.c (.int .i64 0))),
ao 52 (.bin .neq .bool (.t 49) (.t 51)),
mv 53 52,
ag 54 (.indexPA 2 1 (.t 9) (.c (.int .i64 0))) 53 true,
ag 55 (.load false 1 (.t 54)) 53 true,
ag 56 (.bin .neq .no (.t 55) (.c (.int .u64 0))) 53 true,
ag 57 (.mov (.t 56)) 53 true,
ag 58 (.indexPA 2 1 (.t 9) (.c (.int .i64 1))) 57 false,
ag 59 (.load false 1 (.t 58)) 57 false,
ag 60 (.bin .neq .no (.t 59) (.c (.int .u64 0))) 57 false,
ag 61 (.pick (.t 57) (.c (.bool true)) (.t 60)) 53 true,
ao 62 (.pick (.t 53) (.t 61) (.c (.bool false))),
mv 13 62])
(.seq (.reg [mv 63 13,
mv 64 2,
ao 65 (.bin .lss .no (.t 64) (.c (.int .i64 0))),
ao 66 (.bin .neq .bool (.t 63) (.t 65)),
mv 67 66,
ag 68 (.load false 1 (.t 11)) 67 true,
ag 69 (.bin .neq .no (.t 68) (.c (.int .u64 0))) 67 true,
ag 70 (.mov (.t 69)) 67 true,
ag 71 (.load false 1 (.t 12)) 70 false,
ag 72 (.bin .neq .no (.t 71) (.c (.int .u64 0))) 70 false,
ag 73 (.pick (.t 70) (.c (.bool true)) (.t 72)) 67 true,
ao 74 (.pick (.t 67) (.t 73) (.c (.bool false))),
ao 14 (.alloc [(.bool false)]),
an (.store 1 (.t 14) (.t 74))])
(.seq (.reg [ao 75 (.makeFunc (.func 313) [] [(.t 14), (.t 12), (.t 11), (.t 10)]),
mv 15 75])
(.seq (.reg [mv 77 15,
ao 78 (.callv (.t 77) []),
mv 76 78,
ao 79 (.extract 0 (.t 76)),
ao 80 (.extract 1 (.t 76)),
ao 81 (.extract 2 (.t 76)),
mv 16 79,
mv 17 80,
mv 18 81])
(.seq (.block 0 (.seq (.reg [mv 83 18,
ao 84 (.un .not (.t 83)),
mv 85 84,
ag 86 (.load false 1 (.t 14)) 85 false,
ag 87 (.mov (.t 86)) 85 false,
ag 88 (.mov (.t 16)) 87 true,
ag 89 (.bin .gtr .no (.t 88) (.c (.int .u64 9223372036854775808))) 87 true,
ag 90 (.pick (.t 87) (.t 89) (.c (.bool false))) 85 false,
ao 91 (.pick (.t 85) (.c (.bool true)) (.t 90)),
mv 92 91,
ag 93 (.load false 1 (.t 14)) 92 false,
ag 94 (.un .not (.t 93)) 92 false,
ag 95 (.mov (.t 94)) 92 false,
ag 96 (.mov (.t 16)) 95 true,
ag 97 (.bin .geq .no (.t 96) (.c (.int .u64 9223372036854775808))) 95 true,
ag 98 (.pick (.t 95) (.t 97) (.c (.bool false))) 92 false,
ao 99 (.pick (.t 92) (.c (.bool true)) (.t 98)),
mv 82 99])
(.cond (.t 82)
(.seq (.reg [ao 6 (.mov (.c (.int .i64 0))),
ao 7 (.mov (.c (.int .i64 0))),
ao 8 (.mov (.c (.bool false)))])
.ret)
(.seq (.reg [ao 101 (.load false 1 (.t 14)),
mv 100 101])
(.cond (.t 100)
(.reg [mv 102 16,
ao 103 (.un .neg (.t 102)),
mv 16 103])
.skip)))))
(.seq (.seq (.reg [mv 104 2,
ao 105 (.bin .lss .no (.t 104) (.c (.int .i64 0)))])
(.cond (.t 105)
(.reg [mv 106 17,
ao 107 (.un .neg (.t 106)),
mv 17 107])
.skip))
(.seq (.reg [mv 108 16,
ao 109 (.conv (.int .i64) (.t 108)),
mv 110 17,
ao 111 (.conv (.int .i64) (.t 110)),
mv 6 109,
mv 7 111,
ao 8 (.mov (.c (.bool true)))])
.ret))))))))))))) }
def w175 : WF := { nt := 6, results := [(2, none)], code :=
(.seq (.reg [ao 2 (.mov (.c (.float .f64 0)))])
(.seq (.reg [mv 3 0,
ao 4 (.conv (.int .u64) (.t 3)),
ao 5 (.call 184 [(.t 4)]),
mv 2 5])
.ret)) }
def w176 : WF := { nt := 3, results := [(0, none)], code :=
(.seq (.reg [ao 0 (.mov (.c .nilmap))])
(.seq (.reg [ao 1 (.mem .makeMap []),
an (.mem (.mapPut .int) [(.t 1), (.c (.int .u8 43)), (.c (.fn (.func 314) [] []))]),
an (.mem (.mapPut .int) [(.t 1), (.c (.int .u8 45)), (.c (.fn (.func 315) [] []))]),
an (.mem (.mapPut .int) [(.t 1), (.c (.int .u8 42)), (.c (.fn (.func 316) [] []))]),
an (.mem (.mapPut .int) [(.t 1), (.c (.int .u8 47)), (.c (.fn (.func 317) [] []))]),
an (.mem (.mapPut .int) [(.t 1), (.c (.int .u8 109)), (.c (.fn (.func 318) [] []))]),
an (.mem (.mapPut .int) [(.t 1), (.c (.int .u8 77)), (.c (.fn (.func 319) [] []))]),
mv 2 1,
mv 0 2])
.ret)) }
def w177 : WF := { nt := 8, results := [(2, none)], code :=
(.seq (.reg [ao 2 (.mov (.c (.int .i64 0)))])
(.seq (.seq (.reg [mv 3 0,
ao 4 (.call 320 [(.t 3)])])
(.cond (.t 4)
(.seq (.reg [ao 2 (.mov (.c (.int .i64 9221120237041090560)))])
.ret)
.skip))
(.seq (.reg [mv 5 0,
ao 6 (.call 321 [(.t 5)]),
ao 7 (.conv (.int .i64) (.t 6)),
mv 2 7])
.ret))) }
def w178 : WF := { nt := 5, results := [(2, none)], code :=
(.seq (.reg [ao 2 (.mov (.c (.float .f64 0)))])
(.seq (.reg [mv 3 0,
ao 4 (.un .neg (.t 3)),
mv 2 4])
.ret)) }
def w179 : WF := { nt := 7, results := [(2, none)], code :=
(.seq (.reg [ao 2 (.mov (.c (.float .f64 0)))])
(.seq (.reg [mv 3 0,
ao 4 (.call 321 [(.t 3)]),
ao 5 (.bin .andNot .no (.t 4) (.c (.int .u64 9223372036854775808))),
ao 6 (.call 184 [(.t 5)]),
mv 2 6])
.ret)) }
def w180 : WF := { nt := 5, results := [(2, none)], code :=
(.seq (.reg [ao 2 (.mov (.c (.float .f64 0)))])
(.seq (.reg [mv 3 0,
ao 4 (.call 322 [(.t 3)]),
mv 2 4])
.ret)) }
def w181 : WF := { nt := 7, results := [(2, none)], code :=
(.seq (.reg [ao 2 (.mov (.c (.float .f64 0)))])
(.seq (.cond (.c (.bool true))
(.seq (.reg [mv 3 0,
ao 4 (.call 323 [(.t 3)]),
mv 2 4])
.ret)
.skip)
(.seq (.reg [mv 5 0,
ao 6 (.call 324 [(.t 5)]),
mv 2 6])
.ret))) }
def w182 : WF := { nt := 44, results := [(4, none), (5, none), (6, none)], code :=
(.seq (.reg [ao 4 (.mov (.c (.int .i64 0))),
ao 5 (.mov (.c (.int .i64 0))),
ao 6 (.mov (.c (.bool false)))])
(.seq (.seq (.reg [mv 9 1,
ao 10 (.bin .eql .no (.t 9) (.c (.int .i64 0)))])
(.cond (.t 10)
(.seq (.reg [ao 4 (.mov (.c (.int .i64 0))),
ao 5 (.mov (.c (.int .i64 0))),
ao 6 (.mov (.c (.bool false)))])
.ret)
.skip))
(.seq (.seq (.reg [mv 11 1,
ao 12 (.bin .eql .no (.t 11) (.c (.int .i64 (-1))))])
(.cond (.t 12)
(.seq (.reg [mv 13 0,
ao 14 (.bin .sub .no (.c (.int .i64 0)) (.t 13)),
mv 4 14,
ao 5 (.mov (.c (.int .i64 0))),
ao 6 (.mov (.c (.bool true)))])
.ret)
.skip))
(.seq (.reg [mv 15 0,
mv 16 1,
ao 17 (.bin .quo .no (.t 15) (.t 16)),
mv 7 17])
(.seq (.reg [mv 18 0,
mv 19 7,
mv 20 1,
ao 21 (.bin .mul .no (.t 19) (.t 20)),
ao 22 (.bin .sub .no (.t 18) (.t 21)),
mv 8 22])
(.seq (.seq (.reg [mv 23 8,
ao 24 (.bin .gtr .no (.t 23) (.c (.int .i64 0))),
mv 25 24,
ag 26 (.mov (.t 1)) 25 true,
ag 27 (.bin .lss .no (.t 26) (.c (.int .i64 0))) 25 true,
ao 28 (.pick (.t 25) (.t 27) (.c (.bool false))),
mv 29 28,
ag 30 (.mov (.t 8)) 29 false,
ag 31 (.bin .lss .no (.t 30) (.c (.int .i64 0))) 29 false,
ag 32 (.mov (.t 31)) 29 false,
ag 33 (.mov (.t 1)) 32 true,
ag 34 (.bin .gtr .no (.t 33) (.c (.int .i64 0))) 32 true,
ag 35 (.pick (.t 32) (.t 34) (.c (.bool false))) 29 false,
ao 36 (.pick (.t 29) (.c (.bool true)) (.t 35))])
(.cond (.t 36)
(.seq (.reg [mv 37 7,
ao 38 (.bin .sub .no (.t 37) (.c (.int .i64 1))),
mv 7 38])
(.reg [mv 39 8,
mv 40 1,
ao 41 (.bin .add .no (.t 39) (.t 40)),
mv 8 41]))
.skip))
(.seq (.reg [mv 42 7,
mv 43 8,
mv 4 42,
mv 5 43,
ao 6 (.mov (.c (.bool true)))])
.ret))))))) }
def w183 : WF := { nt := 84, results := [(6, none), (7, none), (8, none)], code :=
(.seq (.reg [ao 6 (.mov (.c (.int .i64 0))),
ao 7 (.mov (.c (.int .i64 0))),
ao 8 (.mov (.c (.bool false)))])
(.seq (.reg [mv 16 0,
ao 17 (.call 326 [(.t 16)]),
mv 18 1,
ao 19 (.call 326 [(.t 18)]),
ao 20 (.call 325 [(.t 17), (.t 19)]),
mv 15 20,
ao 21 (.extract 0 (.t 15)),
ao 22 (.extract 1 (.t 15)),
mv 9 21,
mv 10 22])
(.seq (.seq (.reg [mv 23 2,
ao 24 (.bin .eql .no (.t 23) (.c (.int .i64 0))),
mv 25 24,
ag 26 (.mov (.t 9)) 25 false,
ag 27 (.mov (.t 2)) 25 false,
ag 28 (.call 326 [(.t 27)]) 25 false,
ag 29 (.bin .geq .no (.t 26) (.t 28)) 25 false,
ao 30 (.pick (.t 25) (.c (.bool true)) (.t 29))])
(.cond (.t 30)
(.seq (.reg [ao 6 (.mov (.c (.int .i64 0))),
ao 7 (.mov (.c (.int .i64 0))),
ao 8 (.mov (.c (.bool false)))])
.ret)
.skip))
(.seq (.reg [mv 32 9,
mv 33 10,
mv 34 2,
ao 35 (.call 326 [(.t 34)]),
ao 36 (.call 327 [(.t 32), (.t 33), (.t 35)]),
mv 31 36,
ao 37 (.extract 0 (.t 31)),
ao 38 (.extract 1 (.t 31)),
mv 11 37,
mv 12 38])
(.seq (.reg [mv 39 0,
ao 40 (.bin .lss .no (.t 39) (.c (.int .i64 0))),
mv 41 1,
ao 42 (.bin .lss .no (.t 41) (.c (.int .i64 0))),
ao 43 (.bin .neq .bool (.t 40) (.t 42)),
mv 44 2,
ao 45 (.bin .lss .no (.t 44) (.c (.int .i64 0))),
ao 46 (.bin .neq .bool (.t 43) (.t 45)),
mv 13 46])
(.seq (.seq (.reg [mv 47 13,
mv 48 47,
ag 49 (.mov (.t 12)) 48 true,
ag 50 (.bin .gtr .no (.t 49) (.c (.int .u64 0))) 48 true,
ao 51 (.pick (.t 48) (.t 50) (.c (.bool false)))])
(.cond (.t 51)
(.seq (.seq (.reg [mv 52 11,
ao 53 (.bin .geq .no (.t 52) (.c (.int .u64 9223372036854775808)))])
(.cond (.t 53)
(.seq (.reg [ao 6 (.mov (.c (.int .i64 0))),
ao 7 (.mov (.c (.int .i64 0))),
ao 8 (.mov (.c (.bool false)))])
.ret)
.skip))
(.seq (.reg [mv 54 11,
ao 55 (.bin .add .no (.t 54) (.c (.int .u64 1))),
mv 11 55])
(.reg [mv 56 2,
ao 57 (.call 326 [(.t 56)]),
mv 58 12,
ao 59 (.bin .sub .no (.t 57) (.t 58)),
mv 12 59])))
.skip))
(.seq (.seq (.reg [mv 60 11,
ao 61 (.bin .gtr .no (.t 60) (.c (.int .u64 9223372036854775808))),
mv 62 61,
ag 63 (.mov (.t 11)) 62 false,
ag 64 (.bin .eql .no (.t 63) (.c (.int .u64 9223372036854775808))) 62 false,
ag 65 (.mov (.t 64)) 62 false,
ag 66 (.mov (.t 13)) 65 true,
ag 67 (.un .not (.t 66)) 65 true,
ag 68 (.pick (.t 65) (.t 67) (.c (.bool false))) 62 false,
ao 69 (.pick (.t 62) (.c (.bool true)) (.t 68))])
(.cond (.t 69)
(.seq (.reg [ao 6 (.mov (.c (.int .i64 0))),
ao 7 (.mov (.c (.int .i64 0))),
ao 8 (.mov (.c (.bool false)))])
.ret)
.skip))
(.seq (.reg [mv 70 12,
ao 71 (.conv (.int .i64) (.t 70)),
mv 14 71])
(.seq (.seq (.reg [mv 72 2,
ao 73 (.bin .lss .no (.t 72) (.c (.int .i64 0)))])
(.cond (.t 73)
(.reg [mv 74 14,
ao 75 (.bin .sub .no (.c (.int .i64 0)) (.t 74)),
mv 14 75])
.skip))
(.seq (.seq (.reg [mv 76 13])
(.cond (.t 76)
(.seq (.reg [mv 77 11,
ao 78 (.bin .sub .no (.c (.int .u64 0)) (.t 77)),
ao 79 (.conv (.int .i64) (.t 78)),
mv 80 14,
mv 6 79,
mv 7 80,
ao 8 (.mov (.c (.bool true)))])
.ret)
.skip))
(.seq (.reg [mv 81 11,
ao 82 (.conv (.int .i64) (.t 81)),
mv 83 14,
mv 6 82,
mv 7 83,
ao 8 (.mov (.c (.bool true)))])
.ret))))))))))) }
def w185 : WF := { nt := 7, results := [(2, none)], code :=
(.seq (.reg [ao 2 (.mov (.c (.float .f64 0)))])
(.seq (.cond (.c (.bool true))
(.seq (.reg [mv 3 0,
ao 4 (.call 328 [(.t 3)]),
mv 2 4])
.ret)
.skip)
(.seq (.reg [mv 5 0,
ao 6 (.call 329 [(.t 5)]),
mv 2 6])
.ret))) }
def w186 : WF := { nt := 6, results := [(2, none)], code :=
(.seq (.reg [ao 2 (.mov (.c (.int .i64 0)))])
(.seq (.reg [mv 3 0,
ao 4 (.pur (.i2f .f64) [(.t 3)]),
ao 5 (.call 330 [(.t 4)]),
mv 2 5])
.ret)) }
def w187 : WF := { nt := 19, results := [(4, none), (5, none)], code :=
(.seq (.reg [ao 4 (.mov (.c (.int .i64 0))),
ao 5 (.mov (.c (.bool false)))])
(.seq (.seq (.reg [mv 6 0,
ao 7 (.bin .lss .no (.t 6) (.c (.int .i64 70))),
mv 8 7,
ag 9 (.mov (.t 0)) 8 false,
ag 10 (.bin .gtr .no (.t 9) (.c (.int .i64 73))) 8 false,
ao 11 (.pick (.t 8) (.c (.bool true)) (.t 10))])
(.cond (.t 11)
(.seq (.reg [ao 4 (.mov (.c (.int .i64 0))),
ao 5 (.mov (.c (.bool false)))])
.ret)
.skip))
(.seq (.reg [mv 12 0,
ao 13 (.bin .sub .no (.t 12) (.c (.int .i64 70))),
ao 14 (.indexStr (.c (.str ⟨#[110, 97, 115, 102]⟩)) (.t 13)),
mv 15 1,
ao 16 (.call 331 [(.t 14), (.t 15)]),
ao 17 (.extract 0 (.t 16)),
ao 18 (.extract 1 (.t 16)),
mv 4 17,
mv 5 18])
.ret))) }
def w188 : WF := { nt := 21, results := [(4, none)], code :=
(.seq (.reg [ao 4 (.mov (.c (.int .i64 0)))])
(.seq (.seq (.reg [mv 6 1,
ao 7 (.bin .lss .no (.t 6) (.c (.int .i64 0))),
mv 8 7,
ag 9 (.mov (.t 1)) 8 false,
ag 10 (.bin .gtr .no (.t 9) (.c (.int .i64 63))) 8 false,
ao 11 (.pick (.t 8) (.c (.bool true)) (.t 10))])
(.cond (.t 11)
(.seq (.reg [ao 4 (.mov (.c (.int .i64 0)))])
.ret)
.skip))
(.seq (.seq (.reg [ao 5 (.mov (.c (.int .i64 0)))])
(.block 0 (.loop (.seq (.seq (.reg [mv 12 5,
mv 13 1,
ao 14 (.bin .lss .no (.t 12) (.t 13))])
(.cond (.t 14)
.skip
(.exit 0)))
(.seq (.block 1 (.reg [mv 17 0,
mv 18 0,
ao 19 (.bin .add .no (.t 17) (.t 18)),
mv 0 19]))
(.reg [mv 15 5,
ao 16 (.bin .add .no (.t 15) (.c (.int .i64 1))),
mv 5 16]))))))
(.seq (.reg [mv 20 0,
mv 4 20])
.ret)))) }
def w189 : WF := { nt := 24, results := [(4, none)], code :=
(.seq (.reg [ao 4 (.mov (.c (.int .i64 0)))])
(.seq (.seq (.reg [mv 7 1,
ao 8 (.bin .lss .no (.t 7) (.c (.int .i64 0))),
mv 9 8,
ag 10 (.mov (.t 1)) 9 false,
ag 11 (.bin .gtr .no (.t 10) (.c (.int .i64 63))) 9 false,
ao 12 (.pick (.t 9) (.c (.bool true)) (.t 11))])
(.cond (.t 12)
(.seq (.reg [ao 4 (.mov (.c (.int .i64 0)))])
.ret)
.skip))
(.seq (.reg [mv 13 0,
ao 14 (.conv (.int .u64) (.t 13)),
mv 5 14])
(.seq (.seq (.reg [ao 6 (.mov (.c (.int .i64 0)))])
(.block 0 (.loop (.seq (.seq (.reg [mv 15 6,
mv 16 1,
ao 17 (.bin .lss .no (.t 15) (.t 16))])
(.cond (.t 17)
.skip
(.exit 0)))
(.seq (.block 1 (.reg [mv 20 5,
ao 21 (.bin .quo .no (.t 20) (.c (.int .u64 2))),
mv 5 21]))
(.reg [mv 18 6,
ao 19 (.bin .add .no (.t 18) (.c (.int .i64 1))),
mv 6 19]))))))
(.seq (.reg [mv 22 5,
ao 23 (.conv (.int .i64) (.t 22)),
mv 4 23])
.ret))))) }
def w190 : WF := { nt := 12, results := [(4, none)], code :=
(.seq (.reg [ao 4 (.mov (.c (.bool false)))])
(.seq (.reg [mv 5 0,
ao 6 (.conv (.int .u64) (.t 5)),
ao 7 (.call 184 [(.t 6)]),
mv 8 1,
ao 9 (.conv (.int .u64) (.t 8)),
ao 10 (.call 184 [(.t 9)]),
ao 11 (.bin .lss .no (.t 7) (.t 10)),
mv 4 11])
.ret)) }
def w191 : WF := { nt := 12, results := [(4, none)], code :=
(.seq (.reg [ao 4 (.mov (.c (.bool false)))])
(.seq (.reg [mv 5 0,
ao 6 (.conv (.int .u64) (.t 5)),
ao 7 (.call 184 [(.t 6)]),
mv 8 1,
ao 9 (.conv (.int .u64) (.t 8)),
ao 10 (.call 184 [(.t 9)]),
ao 11 (.bin .eql .no (.t 7) (.t 10)),
mv 4 11])
.ret)) }
def w192 : WF := { nt := 82, results := [(6, none), (7, none)], code :=
(.seq (.reg [ao 6 (.mov (.c (.int .i64 0))),
ao 7 (.mov (.c (.bool false)))])
(.seq (.reg [mv 11 0,
ao 12 (.bin .eql .no (.t 11) (.c (.int .u8 43))),
mv 13 12,
ag 14 (.mov (.t 0)) 13 false,
ag 15 (.bin .eql .no (.t 14) (.c (.int .u8 45))) 13 false,
ao 16 (.pick (.t 13) (.c (.bool true)) (.t 15)),
mv 17 16,
ag 18 (.mov (.t 0)) 17 false,
ag 19 (.bin .eql .no (.t 18) (.c (.int .u8 42))) 17 false,
ao 20 (.pick (.t 17) (.c (.bool true)) (.t 19)),
mv 21 20,
ag 22 (.mov (.t 0)) 21 false,
ag 23 (.bin .eql .no (.t 22) (.c (.int .u8 47))) 21 false,
ao 24 (.pick (.t 21) (.c (.bool true)) (.t 23)),
mv 25 24,
ag 26 (.mov (.t 0)) 25 false,
ag 27 (.bin .eql .no (.t 26) (.c (.int .u8 109))) 25 false,
ao 28 (.pick (.t 25) (.c (.bool true)) (.t 27)),
mv 29 28,
ag 30 (.mov (.t 0)) 29 false,
ag 31 (.bin .eql .no (.t 30) (.c (.int .u8 77))) 29 false,
ao 32 (.pick (.t 29) (.c (.bool true)) (.t 31)),
mv 8 32])
(.seq (.seq (.reg [mv 33 8,
ao 34 (.un .not (.t 33))])
(.cond (.t 34)
(.seq (.reg [ao 6 (.mov (.c (.int .i64 0))),
ao 7 (.mov (.c (.bool false)))])
.ret)
.skip))
(.seq (.seq (.reg [mv 35 1,
ao 36 (.call 332 [(.t 35)]),
ao 37 (.un .not (.t 36)),
mv 38 37,
ag 39 (.mov (.t 2)) 38 false,
ag 40 (.call 332 [(.t 39)]) 38 false,
ag 41 (.un .not (.t 40)) 38 false,
ao 42 (.pick (.t 38) (.c (.bool true)) (.t 41))])
(.cond (.t 42)
(.seq (.reg [ao 6 (.mov (.c (.int .i64 9221120237041090560))),
ao 7 (.mov (.c (.bool true)))])
.ret)
.skip))
(.seq (.reg [mv 43 1,
ao 44 (.conv (.int .u64) (.t 43)),
ao 45 (.call 184 [(.t 44)]),
mv 9 45])
(.seq (.reg [mv 46 2,
ao 47 (.conv (.int .u64) (.t 46)),
ao 48 (.call 184 [(.t 47)]),
mv 10 48])
(.seq (.seq (.reg [mv 49 0])
(.block 0 (.seq (.reg [ao 51 (.bin .eql .no (.t 49) (.c (.int .u8 43))),
mv 50 51])
(.cond (.t 50)
(.seq (.reg [mv 52 9,
mv 53 10,
ao 54 (.bin .add .no (.t 52) (.t 53)),
ao 55 (.call 330 [(.t 54)]),
mv 6 55,
ao 7 (.mov (.c (.bool true)))])
.ret)
(.seq (.reg [ao 57 (.bin .eql .no (.t 49) (.c (.int .u8 45))),
mv 56 57])
(.cond (.t 56)
(.seq (.reg [mv 58 9,
mv 59 10,
ao 60 (.bin .sub .no (.t 58) (.t 59)),
ao 61 (.call 330 [(.t 60)]),
mv 6 61,
ao 7 (.mov (.c (.bool true)))])
.ret)
(.seq (.reg [ao 63 (.bin .eql .no (.t 49) (.c (.int .u8 42))),
mv 62 63])
(.cond (.t 62)
(.seq (.reg [mv 64 9,
mv 65 10,
ao 66 (.bin .mul .no (.t 64) (.t 65)),
ao 67 (.call 330 [(.t 66)]),
mv 6 67,
ao 7 (.mov (.c (.bool true)))])
.ret)
(.seq (.reg [ao 69 (.bin .eql .no (.t 49) (.c (.int .u8 47))),
mv 68 69])
(.cond (.t 68)
(.seq (.reg [mv 70 9,
mv 71 10,
ao 72 (.bin .quo .no (.t 70) (.t 71)),
ao 73 (.call 330 [(.t 72)]),
mv 6 73,
ao 7 (.mov (.c (.bool true)))])
.ret)
(.seq (.reg [ao 75 (.bin .eql .no (.t 49) (.c (.int .u8 109))),
mv 74 75])
(.cond (.t 74)
(.seq (.reg [mv 76 1,
mv 77 2,
ao 78 (.call 333 [(.t 76), (.t 77)]),
mv 6 78,
ao 7 (.mov (.c (.bool true)))])
.ret)
.skip))))))))))))
(.seq (.reg [mv 79 1,
mv 80 2,
ao 81 (.call 334 [(.t 79), (.t 80)]),
mv 6 81,
ao 7 (.mov (.c (.bool true)))])
.ret)))))))) }
def w196 : WF := { nt := 18, results := [(4, none)], code :=
(.seq (.reg [ao 4 (.mov (.c (.bool false)))])
(.seq (.reg [mv 5 0,
ao 6 (.lenS (.t 5)),
mv 7 1,
ao 8 (.lenS (.t 7)),
ao 9 (.bin .geq .no (.t 6) (.t 8)),
mv 10 9,
ag 11 (.mov (.t 0)) 10 true,
ag 12 (.mov (.t 1)) 10 true,
ag 13 (.lenS (.t 12)) 10 true,
ag 14 (.slice .str (.t 11) none (some (.t 13)) none) 10 true,
ag 15 (.mov (.t 1)) 10 true,
ag 16 (.bin .eql .no (.t 14) (.t 15)) 10 true,
ao 17 (.pick (.t 10) (.t 16) (.c (.bool false))),
mv 4 17])
.ret)) }
def w197 : WF := { nt := 4, results := [(2, none)], code :=
(.seq (.reg [ao 1 (.box (.t 0)),
ao 2 (.mov (.c .nilfn))])
(.seq (.reg [ao 3 (.makeFunc (.func 198) [] [(.t 1)]),
mv 2 3])
.ret)) }
def w198 : WF := { nt := 8, results := [], code :=
(.same [mv 3 0,
ao 4 (.load false 1 (.t 1)),
mv 5 0,
⟨(some 6), .call 200 [(.t 5), (.c (.int .i64 2))], none, [2], true⟩,
⟨(some 7), .call 199 [(.t 3), (.t 4), (.t 6)], none, [0, 1, 3, 3], true⟩]) }
def w199 : WF := { nt := 20, results := [], code :=
(.seq (.reg [mv 6 0,
ao 7 (.call 149 [(.t 6)])])
(.cond (.t 7)
(.reg [mv 8 0,
mv 9 0,
ao 10 (.nilCheck (.t 9)),
ao 11 (.fieldAddr 0 (.t 10)),
ao 12 (.load true 15 (.t 11)),
mv 13 1,
mv 14 2,
ao 15 (.buildSlice 1 2 [(.int .i64 0)] [(0, 1, (.t 13)), (1, 1, (.t 14))]),
ao 16 (.call 218 [(.t 12), (.t 15)]),
ao 17 (.extract 0 (.t 16)),
ao 18 (.extract 1 (.t 16)),
ao 19 (.call 217 [(.t 8), (.t 17), (.t 18)])])
.skip)) }
def w200 : WF := { nt := 58, results := [(4, none)], code :=
(.seq (.reg [ao 4 (.mov (.c (.int .i64 0)))])
(.seq (.reg [mv 7 0,
ao 8 (.nilCheck (.t 7)),
ao 9 (.fieldAddr 0 (.t 8)),
ao 10 (.fieldAddr 3 (.t 9)),
ao 11 (.load false 1 (.t 10)),
ao 12 (.len (.t 11)),
ao 13 (.bin .sub .no (.t 12) (.c (.int .i64 2))),
mv 5 13])
(.seq (.block 0 (.seq (.reg [mv 15 0,
ao 16 (.call 149 [(.t 15)]),
ao 17 (.un .not (.t 16)),
mv 14 17])
(.cond (.t 14)
(.seq (.reg [ao 4 (.mov (.c (.int .i64 0)))])
.ret)
(.seq (.reg [mv 19 5,
ao 20 (.bin .lss .no (.t 19) (.c (.int .i64 0))),
mv 21 20,
ag 22 (.mov (.t 0)) 21 false,
ag 23 (.nilCheck (.t 22)) 21 false,
ag 24 (.fieldAddr 0 (.t 23)) 21 false,
ag 25 (.fieldAddr 3 (.t 24)) 21 false,
ag 26 (.load false 1 (.t 25)) 21 false,
ag 27 (.mov (.t 5)) 21 false,
ag 28 (.indexSl 1 (.t 26) (.t 27)) 21 false,
ag 29 (.load false 1 (.t 28)) 21 false,
ag 30 (.mov (.t 1)) 21 false,
ag 31 (.bin .neq .no (.t 29) (.t 30)) 21 false,
ao 32 (.pick (.t 21) (.c (.bool true)) (.t 31)),
mv 18 32])
(.cond (.t 18)
(.seq (.reg [mv 33 0,
ao 34 (.build [(.list [] true), (.list [] true), (.list [] true), (.list [] true), (.list [] true), (.list [] true), (.list [] true), (.int .i64 0), (.int .i64 0), (.int .i64 0), (.int .i64 0), (.int .i64 0), (.int .i64 0), (.bool false), (.bool false)] []),
ao 35 (.call 217 [(.t 33), (.t 34), (.c (.int .i64 (-22)))])])
(.seq (.reg [ao 4 (.mov (.c (.int .i64 0)))])
.ret))
.skip)))))
(.seq (.reg [mv 36 0,
ao 37 (.nilCheck (.t 36)),
ao 38 (.fieldAddr 0 (.t 37)),
ao 39 (.fieldAddr 3 (.t 38)),
ao 40 (.load false 1 (.t 39)),
mv 41 5,
ao 42 (.bin .add .no (.t 41) (.c (.int .i64 1))),
ao 43 (.indexSl 1 (.t 40) (.t 42)),
ao 44 (.load false 1 (.t 43)),
mv 6 44])
(.seq (.reg [mv 45 0,
mv 46 0,
ao 47 (.nilCheck (.t 46)),
ao 48 (.fieldAddr 0 (.t 47)),
ao 49 (.fieldAddr 3 (.t 48)),
ao 50 (.load false 1 (.t 49)),
mv 51 5,
mv 52 5,
ao 53 (.slice (.sl 1) (.t 50) none (some (.t 51)) (some (.t 52))),
ao 54 (.nilCheck (.t 45)),
ao 55 (.fieldAddr 0 (.t 54)),
ao 56 (.fieldAddr 3 (.t 55)),
an (.store 1 (.t 56) (.t 53))])
(.seq (.reg [mv 57 6,
mv 4 57])
.ret)))))) }
def w201 : WF := { nt := 4, results := [(2, none)], code :=
(.seq (.reg [ao 1 (.box (.t 0)),
ao 2 (.mov (.c .nilfn))])
(.seq (.reg [ao 3 (.makeFunc (.func 202) [] [(.t 1)]),
mv 2 3])
.ret)) }
def w202 : WF := { nt := 14, results := [], code :=
(.seq (.reg [mv 4 0,
ao 5 (.call 200 [(.t 4), (.c (.int .i64 3))]),
mv 3 5])
(.seq (.reg [mv 6 0,
ao 7 (.load false 1 (.t 1)),
mv 8 3,
ao 9 (.bin .add .no (.t 8) (.c (.int .i64 8))),
ao 10 (.call 199 [(.t 6), (.t 7), (.t 9)])])
(.reg [mv 11 0,
mv 12 3,
ao 13 (.call 203 [(.t 11), (.t 12)])]))) }
def w203 : WF := { nt := 21, results := [], code :=
(.seq (.reg [mv 4 0,
ao 5 (.call 149 [(.t 4)])])
(.cond (.t 5)
(.calm [mv 6 0,
mv 7 0,
⟨(some 8), .nilCheck (.t 7), none, [1], false⟩,
⟨(some 9), .fieldAddr 0 (.t 8), none, [2], false⟩,
⟨(some 10), .load true 15 (.t 9), none, [3], false⟩,
mv 11 1,
mv 12 0,
⟨(some 13), .nilCheck (.t 12), none, [6], false⟩,
⟨(some 14), .fieldAddr 0 (.t 13), none, [7], false⟩,
⟨(some 15), .fieldAddr 8 (.t 14), none, [8], false⟩,
⟨(some 16), .load false 1 (.t 15), none, [9], false⟩,
⟨(some 17), .call 285 [(.t 10), (.t 11), (.t 16)], none, [4, 5, 10], false⟩,
⟨(some 18), .extract 0 (.t 17), none, [11], false⟩,
⟨(some 19), .extract 1 (.t 17), none, [11], false⟩,
⟨(some 20), .call 217 [(.t 6), (.t 18), (.t 19)], none, [0, 12, 13, 11], true⟩])
.skip)) }
def w217 : WF := { nt := 16, results := [], code :=
(.seq (.reg [ao 4 (.box (.t 1))])
(.seq (.reg [mv 6 0,
ao 7 (.call 149 [(.t 6)])])
(.cond (.t 7)
(.reg [mv 8 0,
mv 9 0,
ao 10 (.load true 15 (.t 4)),
mv 11 2,
ao 12 (.nilCheck (.t 8)),
ao 13 (.fieldAddr 0 (.t 12)),
an (.store 15 (.t 13) (.t 10)),
ao 14 (.nilCheck (.t 9)),
ao 15 (.fieldAddr 15 (.t 14)),
an (.store 1 (.t 15) (.t 11))])
.skip))) }
def w218 : WF := { nt := 43, results := [(4, some (true, 15)), (5, none)], code :=
(.seq (.reg [ao 2 (.box (.t 0)),
ao 4 (.alloc [(.list [] true), (.list [] true), (.list [] true), (.list [] true), (.list [] true), (.list [] true), (.list [] true), (.int .i64 0), (.int .i64 0), (.int .i64 0), (.int .i64 0), (.int .i64 0), (.int .i64 0), (.bool false), (.bool false)]),
ao 5 (.mov (.c (.int .i64 0)))])
(.seq (.reg [ao 6 (.mov (.c (.int .i64 0)))])
(.seq .skip
(.seq (.seq (.reg [mv 11 1,
ao 12 (.len (.t 11)),
ao 13 (.mov (.c (.int .i64 0)))])
(.block 0 (.loop (.seq (.reg [ao 14 (.bin .lss .no (.t 13) (.t 12))])
(.seq (.cond (.t 14)
.skip
(.exit 0))
(.seq (.block 1 (.seq (.reg [ao 15 (.indexSl 1 (.t 11) (.t 13)),
ao 16 (.load false 1 (.t 15)),
mv 8 16])
(.seq (.reg [ao 17 (.fieldAddr 8 (.t 2)),
ao 18 (.load false 1 (.t 17)),
ao 9 (.alloc [(.int .i64 0)]),
an (.store 1 (.t 9) (.t 18))])
(.seq (.seq (.reg [ao 20 (.load true 15 (.t 2)),
mv 21 8,
ao 22 (.call 230 [(.t 20), (.t 21)]),
mv 19 22,
ao 23 (.extract 0 (.t 19)),
ao 24 (.extract 1 (.t 19)),
an (.store 15 (.t 2) (.t 23)),
mv 6 24])
(.seq (.reg [mv 25 6,
ao 26 (.bin .neq .no (.t 25) (.c (.int .i64 0)))])
(.cond (.t 26)
(.exit 0)
.skip)))
(.seq (.reg [ao 27 (.fieldAddr 5 (.t 2)),
ao 28 (.load false 1 (.t 27)),
ao 29 (.call 339 [(.t 28)]),
ao 30 (.makeFunc (.func 340) [] [(.t 9)]),
ao 31 (.call 338 [(.t 29), (.t 30)]),
mv 10 31])
(.reg [mv 32 10,
ao 33 (.load false 1 (.t 9)),
ao 34 (.fieldAddr 10 (.t 2)),
ao 35 (.load false 1 (.t 34)),
ao 36 (.build [(.int .i64 0), (.int .i64 0)] [(0, 1, (.t 33)), (1, 1, (.t 35))]),
ao 37 (.buildSlice 2 1 [(.int .i64 0), (.int .i64 0)] [(0, 2, (.t 36))]),
ao 38 (.append 2 16 none (.t 32) (.t 37)),
ao 39 (.fieldAddr 5 (.t 2)),
an (.store 1 (.t 39) (.t 38))]))))))
(.reg [ao 40 (.bin .add .no (.t 13) (.c (.int .i64 1))),
mv 13 40])))))))
(.seq (.reg [ao 41 (.load true 15 (.t 2)),
mv 42 6,
an (.store 15 (.t 4) (.t 41)),
mv 5 42])
.ret))))) }
def w230 : WF := { nt := 31, results := [(4, some (true, 15)), (5, none)], code :=
(.seq (.reg [ao 2 (.box (.t 0)),
ao 4 (.alloc [(.list [] true), (.list [] true), (.list [] true), (.list [] true), (.list [] true), (.list [] true), (.list [] true), (.int .i64 0), (.int .i64 0), (.int .i64 0), (.int .i64 0), (.int .i64 0), (.int .i64 0), (.bool false), (.bool false)]),
ao 5 (.mov (.c (.int .i64 0)))])
(.seq (.seq (.reg [ao 7 (.fieldAddr 8 (.t 2)),
ao 8 (.load false 1 (.t 7)),
ao 9 (.fieldAddr 0 (.t 2)),
ao 10 (.load false 1 (.t 9)),
ao 11 (.len (.t 10)),
ao 12 (.bin .sub .no (.t 11) (.c (.int .i64 8))),
ao 13 (.bin .gtr .no (.t 8) (.t 12))])
(.cond (.t 13)
(.seq (.reg [ao 14 (.build [(.list [] true), (.list [] true), (.list [] true), (.list [] true), (.list [] true), (.list [] true), (.list [] true), (.int .i64 0), (.int .i64 0), (.int .i64 0), (.int .i64 0), (.int .i64 0), (.int .i64 0), (.bool false), (.bool false)] []),
an (.store 15 (.t 4) (.t 14)),
ao 5 (.mov (.c (.int .i64 (-8))))])
.ret)
.skip))
(.seq (.reg [ao 16 (.load true 15 (.t 2)),
ao 17 (.fieldAddr 8 (.t 2)),
ao 18 (.load false 1 (.t 17)),
mv 19 1,
ao 20 (.call 285 [(.t 16), (.t 18), (.t 19)]),
mv 15 20,
ao 21 (.extract 0 (.t 15)),
ao 22 (.extract 1 (.t 15)),
an (.store 15 (.t 2) (.t 21)),
mv 6 22])
(.seq (.seq (.reg [mv 23 6,
ao 24 (.bin .eql .no (.t 23) (.c (.int .i64 0)))])
(.cond (.t 24)
(.reg [ao 25 (.fieldAddr 8 (.t 2)),
ao 26 (.load false 1 (.t 25)),
ao 27 (.bin .add .no (.t 26) (.c (.int .i64 8))),
ao 28 (.fieldAddr 8 (.t 2)),
an (.store 1 (.t 28) (.t 27))])
.skip))
(.seq (.reg [ao 29 (.load true 15 (.t 2)),
mv 30 6,
an (.store 15 (.t 4) (.t 29)),
mv 5 30])
.ret))))) }
def w251 : WF := { nt := 8, results := [], code :=
(.reg [mv 2 0,
mv 3 0,
ao 4 (.nilCheck (.t 3)),
ao 5 (.fieldAddr 20 (.t 4)),
ao 6 (.load false 1 (.t 5)),
ao 7 (.call 252 [(.t 2), (.t 6)])]) }
def w252 : WF := { nt := 34, results := [], code :=
(.seq (.calm [mv 7 0,
⟨(some 8), .nilCheck (.t 7), none, [0], false⟩,
⟨(some 9), .fieldAddr 0 (.t 8), none, [1], false⟩,
⟨(some 10), .fieldAddr 1 (.t 9), none, [2], false⟩,
⟨(some 11), .load false 1 (.t 10), none, [3], false⟩,
mv 12 0,
⟨(some 13), .nilCheck (.t 12), none, [5], false⟩,
⟨(some 14), .fieldAddr 15 (.t 13), none, [6], false⟩,
⟨(some 15), .fieldAddr 3 (.t 14), none, [7], false⟩,
⟨(some 16), .load false 1 (.t 15), none, [8], false⟩,
mv 17 1,
⟨(some 18), .pur (.lst 1 1 [(.int .i64 0)] [(0, 1)]) [(.t 17)], none, [10], false⟩,
⟨(some 19), .call 346 [(.t 11), (.t 16), (.t 18)], none, [4, 9, 11], false⟩,
⟨(some 6), .mov (.t 19), none, [12], false⟩,
⟨(some 20), .extract 0 (.t 6), none, [13], false⟩,
⟨(some 21), .extract 1 (.t 6), none, [13], false⟩,
⟨(some 4), .mov (.t 20), none, [14, 12, 0, 1, 2, 3, 4, 5, 6, 7, 8, 9, 10, 11, 12, 13, 14], false⟩,
⟨(some 5), .mov (.t 21), none, [15, 16, 0, 1, 2, 3, 4, 5, 6, 7, 8, 9, 10, 11, 12, 13, 14, 15, 16], false⟩])
(.seq (.reg [mv 22 0,
mv 23 5,
ao 24 (.bin .eql .no (.t 23) (.c (.int .i64 0))),
mv 25 5,
ao 26 (.call 157 [(.t 22), (.t 24), (.t 25)])])
(.seq (.reg [mv 27 0,
ao 28 (.call 48 [(.t 27)])])
(.cond (.t 28)
(.reg [mv 29 0,
mv 30 4,
ao 31 (.nilCheck (.t 29)),
ao 32 (.fieldAddr 0 (.t 31)),
ao 33 (.fieldAddr 1 (.t 32)),
an (.store 1 (.t 33) (.t 30))])
.skip)))) }
def w254 : WF := { nt := 13, results := [], code :=
(.seq (.reg [mv 3 0,
ao 4 (.call 255 [(.t 3)]),
mv 2 4])
(.seq (.reg [mv 5 2,
ao 6 (.bin .eql .no (.t 5) (.c (.int .i64 0)))])
(.cond (.t 6)
(.reg [mv 7 0,
mv 8 0,
ao 9 (.nilCheck (.t 8)),
ao 10 (.fieldAddr 20 (.t 9)),
ao 11 (.load false 1 (.t 10)),
ao 12 (.call 160 [(.t 7), (.t 11)])])
.skip))) }
def w255 : WF := { nt := 32, results := [(2, none)], code :=
(.seq (.reg [ao 2 (.mov (.c (.int .i64 0)))])
(.seq (.reg [mv 7 0,
ao 8 (.nilCheck (.t 7)),
ao 9 (.fieldAddr 0 (.t 8)),
ao 10 (.fieldAddr 1 (.t 9)),
ao 11 (.load false 1 (.t 10)),
ao 12 (.call 167 [(.t 11), (.c (.int .i64 1))]),
mv 6 12,
ao 13 (.extract 0 (.t 6)),
ao 14 (.extract 1 (.t 6)),
ao 15 (.extract 2 (.t 6)),
mv 3 13,
mv 4 14,
mv 5 15])
(.seq (.seq (.reg [mv 16 0,
mv 17 5,
ao 18 (.bin .eql .no (.t 17) (.c (.int .i64 0))),
mv 19 5,
ao 20 (.call 157 [(.t 16), (.t 18), (.t 19)])])
(.seq (.reg [mv 21 0,
ao 22 (.call 48 [(.t 21)]),
ao 23 (.un .not (.t 22))])
(.cond (.t 23)
(.seq (.reg [ao 2 (.mov (.c (.int .i64 0)))])
.ret)
.skip)))
(.seq (.reg [mv 24 0,
mv 25 3,
ao 26 (.nilCheck (.t 24)),
ao 27 (.fieldAddr 0 (.t 26)),
ao 28 (.fieldAddr 1 (.t 27)),
an (.store 1 (.t 28) (.t 25))])
(.seq (.reg [mv 29 4,
ao 30 (.indexSl 1 (.t 29) (.c (.int .i64 0))),
ao 31 (.load false 1 (.t 30)),
mv 2 31])
.ret))))) }
def w256 : WF := { nt := 20, results := [], code :=
(.seq (.reg [mv 4 0,
ao 5 (.call 255 [(.t 4)]),
mv 2 5])
(.seq (.reg [mv 6 0,
ao 7 (.call 255 [(.t 6)]),
mv 3 7])
(.reg [mv 8 0,
mv 9 0,
ao 10 (.nilCheck (.t 9)),
ao 11 (.fieldAddr 20 (.t 10)),
ao 12 (.load false 1 (.t 11)),
ao 13 (.build [(.int .i64 0), (.bool false)] [(0, 1, (.t 12))]),
mv 14 3,
ao 15 (.build [(.int .i64 0), (.bool false)] [(0, 1, (.t 14))]),
mv 16 2,
ao 17 (.build [(.int .i64 0), (.bool false)] [(0, 1, (.t 16))]),
ao 18 (.buildSlice 2 3 [(.int .i64 0), (.bool false)] [(0, 2, (.t 13)), (2, 2, (.t 15)), (4, 2, (.t 17))]),
ao 19 (.call 159 [(.t 8), (.t 18)])]))) }
def w257 : WF := { nt := 20, results := [], code :=
(.seq (.reg [mv 3 0,
ao 4 (.call 258 [(.t 3), (.c (.int .i64 3))]),
mv 2 4])
(.seq (.calm [mv 5 2,
⟨(some 6), .indexSl 1 (.t 5) (.c (.int .i64 2)), none, [0], false⟩,
⟨(some 7), .load false 1 (.t 6), none, [1], false⟩,
⟨(some 8), .bin .add .no (.t 7) (.c (.int .i64 1)), none, [2], false⟩,
mv 9 2,
⟨(some 10), .indexSl 1 (.t 9) (.c (.int .i64 1)), none, [4], false⟩,
⟨(some 11), .load false 1 (.t 10), none, [5], false⟩,
⟨(some 12), .bin .neq .no (.t 8) (.t 11), none, [3, 6], false⟩])
(.cond (.t 12)
(.reg [mv 13 0,
mv 14 2,
mv 15 2,
ao 16 (.indexSl 1 (.t 15) (.c (.int .i64 2))),
ao 17 (.load false 1 (.t 16)),
ao 18 (.bin .add .no (.t 17) (.c (.int .i64 1))),
ao 19 (.call 259 [(.t 13), (.t 14), (.t 18)])])
.skip))) }
def w258 : WF := { nt := 59, results := [(4, none)], code :=
(.seq (.reg [ao 4 (.mov (.c (.list [] true)))])
(.seq (.reg [mv 9 0,
ao 10 (.nilCheck (.t 9)),
ao 11 (.fieldAddr 0 (.t 10)),
ao 12 (.fieldAddr 2 (.t 11)),
ao 13 (.load false 1 (.t 12)),
ao 14 (.len (.t 13)),
mv 15 1,
ao 16 (.bin .sub .no (.t 14) (.t 15)),
mv 5 16])
(.seq (.reg [mv 17 1,
ao 18 (.makeSlice 1 8 [(.int .i64 0)] (.t 17) (.t 17)),
mv 6 18])
(.seq (.seq (.reg [mv 19 0,
mv 20 5,
ao 21 (.bin .geq .no (.t 20) (.c (.int .i64 0))),
ao 22 (.call 157 [(.t 19), (.t 21), (.c (.int .i64 (-6)))])])
(.seq (.reg [mv 23 0,
ao 24 (.call 48 [(.t 23)]),
ao 25 (.un .not (.t 24))])
(.cond (.t 25)
(.seq (.reg [mv 26 6,
mv 4 26])
.ret)
.skip)))
(.seq (.seq (.reg [mv 27 0,
ao 28 (.nilCheck (.t 27)),
ao 29 (.fieldAddr 0 (.t 28)),
ao 30 (.fieldAddr 2 (.t 29)),
ao 31 (.load false 1 (.t 30)),
mv 32 5,
ao 33 (.slice (.sl 2) (.t 31) (some (.t 32)) none none),
ao 34 (.len (.t 33)),
ao 35 (.mov (.c (.int .i64 0)))])
(.block 0 (.loop (.seq (.reg [ao 36 (.bin .lss .no (.t 35) (.t 34))])
(.seq (.cond (.t 36)
.skip
(.exit 0))
(.seq (.block 1 (.seq (.reg [mv 37 35,
ao 38 (.indexSl 2 (.t 33) (.t 35)),
ao 39 (.load true 2 (.t 38)),
ao 8 (.alloc [(.int .i64 0), (.bool false)]),
mv 7 37,
an (.store 2 (.t 8) (.t 39))])
(.reg [mv 40 6,
mv 41 7,
ao 42 (.fieldAddr 0 (.t 8)),
ao 43 (.load false 1 (.t 42)),
ao 44 (.indexSl 1 (.t 40) (.t 41)),
an (.store 1 (.t 44) (.t 43))])))
(.reg [ao 45 (.bin .add .no (.t 35) (.c (.int .i64 1))),
mv 35 45])))))))
(.seq (.reg [mv 46 0,
mv 47 0,
ao 48 (.nilCheck (.t 47)),
ao 49 (.fieldAddr 0 (.t 48)),
ao 50 (.fieldAddr 2 (.t 49)),
ao 51 (.load false 1 (.t 50)),
mv 52 5,
mv 53 5,
ao 54 (.slice (.sl 2) (.t 51) none (some (.t 52)) (some (.t 53))),
ao 55 (.nilCheck (.t 46)),
ao 56 (.fieldAddr 0 (.t 55)),
ao 57 (.fieldAddr 2 (.t 56)),
an (.store 1 (.t 57) (.t 54))])
(.seq (.reg [mv 58 6,
mv 4 58])
.ret))))))) }
def w259 : WF := { nt := 25, results := [], code :=
(.seq (.calm [mv 6 0,
mv 7 1,
⟨(some 8), .indexSl 1 (.t 7) (.c (.int .i64 0)), none, [1], false⟩,
⟨(some 9), .load false 1 (.t 8), none, [2], false⟩,
⟨(some 10), .build [(.int .i64 0), (.bool false)] [(0, 1, (.t 9))], none, [3], false⟩,
mv 11 1,
⟨(some 12), .indexSl 1 (.t 11) (.c (.int .i64 1)), none, [5], false⟩,
⟨(some 13), .load false 1 (.t 12), none, [6], false⟩,
⟨(some 14), .build [(.int .i64 0), (.bool false)] [(0, 1, (.t 13))], none, [7], false⟩,
mv 15 2,
⟨(some 16), .build [(.int .i64 0), (.bool false)] [(0, 1, (.t 15))], none, [9], false⟩,
⟨(some 17), .pur (.lst 2 3 [(.int .i64 0), (.bool false)] [(0, 2), (2, 2), (4, 2)]) [(.t 10), (.t 14), (.t 16)], none, [4, 8, 10], false⟩,
⟨(some 18), .call 159 [(.t 6), (.t 17)], none, [0, 11], true⟩])
(.reg [mv 19 0,
mv 20 0,
ao 21 (.nilCheck (.t 20)),
ao 22 (.fieldAddr 20 (.t 21)),
ao 23 (.load false 1 (.t 22)),
ao 24 (.call 160 [(.t 19), (.t 23)])])) }
def w260 : WF := { nt := 26, results := [], code :=
(.seq (.reg [mv 4 0,
ao 5 (.call 255 [(.t 4)]),
mv 2 5])
(.seq (.reg [mv 6 0,
ao 7 (.call 258 [(.t 6), (.c (.int .i64 3))]),
mv 3 7])
(.seq (.calm [mv 8 3,
⟨(some 9), .indexSl 1 (.t 8) (.c (.int .i64 2)), none, [0], false⟩,
⟨(some 10), .load false 1 (.t 9), none, [1], false⟩,
mv 11 3,
⟨(some 12), .indexSl 1 (.t 11) (.c (.int .i64 1)), none, [3], false⟩,
⟨(some 13), .load false 1 (.t 12), none, [4], false⟩,
⟨(some 14), .bin .sub .no (.t 10) (.t 13), none, [2, 5], false⟩,
mv 15 2,
⟨(some 16), .call 261 [(.t 14), (.t 15)], none, [6, 7], false⟩,
⟨(some 17), .un .not (.t 16), none, [8], false⟩])
(.cond (.t 17)
(.reg [mv 18 0,
mv 19 3,
mv 20 3,
ao 21 (.indexSl 1 (.t 20) (.c (.int .i64 2))),
ao 22 (.load false 1 (.t 21)),
mv 23 2,
ao 24 (.bin .add .no (.t 22) (.t 23)),
ao 25 (.call 259 [(.t 18), (.t 19), (.t 24)])])
.skip)))) }
def w261 : WF := { nt := 35, results := [(4, none)], code :=
(.seq (.reg [ao 4 (.mov (.c (.bool false)))])
(.seq (.reg [mv 7 1,
ao 8 (.bin .geq .no (.t 7) (.c (.int .i64 0))),
mv 9 8,
ag 10 (.mov (.t 0)) 9 true,
ag 11 (.bin .lss .no (.t 10) (.c (.int .i64 0))) 9 true,
ao 12 (.pick (.t 9) (.t 11) (.c (.bool false))),
mv 13 12,
ag 14 (.mov (.t 0)) 13 true,
ag 15 (.mov (.t 1)) 13 true,
ag 16 (.bin .add .no (.t 14) (.t 15)) 13 true,
ag 17 (.bin .geq .no (.t 16) (.c (.int .i64 0))) 13 true,
ao 18 (.pick (.t 13) (.t 17) (.c (.bool false))),
mv 5 18])
(.seq (.reg [mv 19 1,
ao 20 (.bin .lss .no (.t 19) (.c (.int .i64 0))),
mv 21 20,
ag 22 (.mov (.t 0)) 21 true,
ag 23 (.bin .geq .no (.t 22) (.c (.int .i64 0))) 21 true,
ao 24 (.pick (.t 21) (.t 23) (.c (.bool false))),
mv 25 24,
ag 26 (.mov (.t 0)) 25 true,
ag 27 (.mov (.t 1)) 25 true,
ag 28 (.bin .add .no (.t 26) (.t 27)) 25 true,
ag 29 (.bin .lss .no (.t 28) (.c (.int .i64 0))) 25 true,
ao 30 (.pick (.t 25) (.t 29) (.c (.bool false))),
mv 6 30])
(.seq (.reg [mv 31 5,
mv 32 31,
ag 33 (.mov (.t 6)) 32 false,
ao 34 (.pick (.t 32) (.c (.bool true)) (.t 33)),
mv 4 34])
.ret)))) }
def w262 : WF := { nt := 22, results := [], code :=
(.seq (.reg [mv 2 0,
mv 3 0,
ao 4 (.nilCheck (.t 3)),
ao 5 (.fieldAddr 0 (.t 4)),
ao 6 (.fieldAddr 7 (.t 5)),
ao 7 (.load false 1 (.t 6)),
ao 8 (.call 252 [(.t 2), (.t 7)])])
(.seq (.reg [mv 9 0,
ao 10 (.nilCheck (.t 9)),
ao 11 (.fieldAddr 20 (.t 10)),
ao 12 (.load false 1 (.t 11)),
ao 13 (.bin .eql .no (.t 12) (.c (.int .i64 0)))])
(.cond (.t 13)
(.reg [mv 14 0,
ao 15 (.call 263 [(.t 14)])])
(.reg [mv 16 0,
mv 17 0,
ao 18 (.nilCheck (.t 17)),
ao 19 (.fieldAddr 20 (.t 18)),
ao 20 (.load false 1 (.t 19)),
ao 21 (.call 160 [(.t 16), (.t 20)])])))) }
def w263 : WF := { nt := 8, results := [], code :=
(.reg [mv 2 0,
mv 3 0,
ao 4 (.call 258 [(.t 3), (.c (.int .i64 1))]),
ao 5 (.indexSl 1 (.t 4) (.c (.int .i64 0))),
ao 6 (.load false 1 (.t 5)),
ao 7 (.call 160 [(.t 2), (.t 6)])]) }
def w270 : WF := { nt := 16, results := [], code :=
(.same [mv 2 0,
mv 3 0,
mv 4 0,
⟨(some 5), .nilCheck (.t 4), none, [2], false⟩,
⟨(some 6), .fieldAddr 0 (.t 5), none, [3], false⟩,
⟨(some 7), .fieldAddr 0 (.t 6), none, [4], false⟩,
⟨(some 8), .load false 1 (.t 7), none, [5], false⟩,
mv 9 0,
⟨(some 10), .call 255 [(.t 9)], none, [7], true⟩,
⟨(some 11), .call 27 [(.t 8), (.t 10)], none, [6, 8, 8], false⟩,
⟨(some 12), .extract 0 (.t 11), none, [9], false⟩,
⟨(some 13), .extract 1 (.t 11), none, [9], false⟩,
⟨(some 14), .call 158 [(.t 3), (.t 12), (.t 13)], none, [1, 10, 11, 9], true⟩,
⟨(some 15), .call 252 [(.t 2), (.t 14)], none, [0, 12, 12], true⟩]) }
def w273 : WF := { nt := 18, results := [], code :=
(.seq (.reg [mv 3 0,
ao 4 (.call 255 [(.t 3)]),
mv 2 4])
(.same [mv 5 0,
mv 6 0,
⟨(some 7), .nilCheck (.t 6), none, [1], false⟩,
⟨(some 8), .fieldAddr 0 (.t 7), none, [2], false⟩,
⟨(some 9), .fieldAddr 0 (.t 8), none, [3], false⟩,
⟨(some 10), .load false 1 (.t 9), none, [4], false⟩,
mv 11 2,
mv 12 0,
⟨(some 13), .call 255 [(.t 12)], none, [7], true⟩,
⟨(some 14), .call 275 [(.t 10), (.t 11), (.t 13)], none, [5, 6, 8, 8], false⟩,
⟨(some 15), .extract 0 (.t 14), none, [9], false⟩,
⟨(some 16), .extract 1 (.t 14), none, [9], false⟩,
⟨(some 17), .call 274 [(.t 5), (.t 15), (.t 16)], none, [0, 10, 11, 9], true⟩])) }
def w274 : WF := { nt := 18, results := [], code :=
(.seq (.reg [mv 6 0,
mv 7 2,
ao 8 (.bin .eql .no (.t 7) (.c (.int .i64 0))),
mv 9 2,
ao 10 (.call 157 [(.t 6), (.t 8), (.t 9)])])
(.seq (.reg [mv 11 0,
ao 12 (.call 48 [(.t 11)])])
(.cond (.t 12)
(.reg [mv 13 0,
mv 14 1,
ao 15 (.nilCheck (.t 13)),
ao 16 (.fieldAddr 0 (.t 15)),
ao 17 (.fieldAddr 0 (.t 16)),
an (.store 1 (.t 17) (.t 14))])
.skip))) }
def w275 : WF := { nt := 37, results := [(6, none), (7, none)], code :=
(.seq (.reg [ao 6 (.mov (.c (.list [] true))),
ao 7 (.mov (.c (.int .i64 0)))])
(.seq (.seq (.reg [mv 13 0,
mv 14 1,
ao 15 (.call 53 [(.t 13), (.t 14)]),
mv 12 15,
ao 16 (.extract 0 (.t 12)),
ao 17 (.extract 1 (.t 12)),
mv 8 16,
mv 9 17])
(.seq (.reg [mv 18 9,
ao 19 (.bin .neq .no (.t 18) (.c (.int .i64 0)))])
(.cond (.t 19)
(.seq (.reg [mv 20 9,
ao 6 (.mov (.c (.list [] true))),
mv 7 20])
.ret)
.skip)))
(.seq (.reg [ao 10 (.alloc [(.int .u8 0), (.int .u8 0), (.int .u8 0), (.int .u8 0), (.int .u8 0), (.int .u8 0), (.int .u8 0), (.int .u8 0)])])
(.seq (.seq (.reg [ao 21 (.mov (.c (.int .i64 0)))])
(.block 0 (.loop (.seq (.reg [ao 22 (.bin .lss .no (.t 21) (.c (.int .i64 8)))])
(.seq (.cond (.t 22)
.skip
(.exit 0))
(.seq (.block 1 (.seq (.reg [mv 23 21,
mv 11 23])
(.reg [mv 24 11,
mv 25 2,
ao 26 (.conv (.int .u64) (.t 25)),
mv 27 11,
ao 28 (.bin .mul .no (.c (.int .i64 8)) (.t 27)),
ao 29 (.bin .shr .no (.t 26) (.t 28)),
ao 30 (.conv (.int .u8) (.t 29)),
ao 31 (.indexPA 8 1 (.t 10) (.t 24)),
an (.store 1 (.t 31) (.t 30))])))
(.reg [ao 32 (.bin .add .no (.t 21) (.c (.int .i64 1))),
mv 21 32])))))))
(.seq (.reg [mv 33 0,
mv 34 1,
ao 35 (.slice (.arr 8 1) (.t 10) none none none),
ao 36 (.call 352 [(.t 33), (.t 34), (.t 35)]),
mv 6 36,
ao 7 (.mov (.c (.int .i64 0)))])
.ret))))) }
def w278 : WF := { nt := 34, results := [], code :=
(.seq (.reg [mv 5 0,
ao 6 (.call 255 [(.t 5)]),
mv 2 6])
(.seq (.reg [mv 7 0,
ao 8 (.call 255 [(.t 7)]),
mv 3 8])
(.seq (.reg [mv 9 0,
mv 10 0,
ao 11 (.nilCheck (.t 10)),
ao 12 (.fieldAddr 0 (.t 11)),
ao 13 (.fieldAddr 0 (.t 12)),
ao 14 (.load false 1 (.t 13)),
mv 15 2,
ao 16 (.call 27 [(.t 14), (.t 15)]),
ao 17 (.extract 0 (.t 16)),
ao 18 (.extract 1 (.t 16)),
ao 19 (.call 158 [(.t 9), (.t 17), (.t 18)]),
mv 4 19])
(.reg [mv 20 0,
mv 21 0,
ao 22 (.nilCheck (.t 21)),
ao 23 (.fieldAddr 0 (.t 22)),
ao 24 (.fieldAddr 0 (.t 23)),
ao 25 (.load false 1 (.t 24)),
mv 26 2,
mv 27 4,
mv 28 3,
ao 29 (.bin .add .no (.t 27) (.t 28)),
ao 30 (.call 275 [(.t 25), (.t 26), (.t 29)]),
ao 31 (.extract 0 (.t 30)),
ao 32 (.extract 1 (.t 30)),
ao 33 (.call 274 [(.t 20), (.t 31), (.t 32)])])))) }
def w285 : WF := { nt := 25, results := [(6, some (true, 15)), (7, none)], code :=
(.seq (.reg [ao 3 (.box (.t 0)),
ao 6 (.alloc [(.list [] true), (.list [] true), (.list [] true), (.list [] true), (.list [] true), (.list [] true), (.list [] true), (.int .i64 0), (.int .i64 0), (.int .i64 0), (.int .i64 0), (.int .i64 0), (.int .i64 0), (.bool false), (.bool false)]),
ao 7 (.mov (.c (.int .i64 0)))])
(.seq (.reg [ao 11 (.fieldAddr 0 (.t 3)),
ao 12 (.load false 1 (.t 11)),
mv 13 1,
mv 14 2,
ao 15 (.call 275 [(.t 12), (.t 13), (.t 14)]),
mv 10 15,
ao 16 (.extract 0 (.t 10)),
ao 17 (.extract 1 (.t 10)),
mv 8 16,
mv 9 17])
(.seq (.seq (.reg [mv 18 9,
ao 19 (.bin .neq .no (.t 18) (.c (.int .i64 0)))])
(.cond (.t 19)
(.seq (.reg [ao 20 (.build [(.list [] true), (.list [] true), (.list [] true), (.list [] true), (.list [] true), (.list [] true), (.list [] true), (.int .i64 0), (.int .i64 0), (.int .i64 0), (.int .i64 0), (.int .i64 0), (.int .i64 0), (.bool false), (.bool false)] []),
mv 21 9,
an (.store 15 (.t 6) (.t 20)),
mv 7 21])
.ret)
.skip))
(.seq (.reg [mv 22 8,
ao 23 (.fieldAddr 0 (.t 3)),
an (.store 1 (.t 23) (.t 22))])
(.seq (.reg [ao 24 (.load true 15 (.t 3)),
an (.store 15 (.t 6) (.t 24)),
ao 7 (.mov (.c (.int .i64 0)))])
.ret))))) }
def w289 : WF := { nt := 10, results := [], code :=
(.seq (.reg [mv 3 0,
ao 4 (.call 255 [(.t 3)]),
mv 2 4])
(.reg [mv 5 0,
mv 6 2,
ao 7 (.build [(.int .i64 0), (.bool false)] [(0, 1, (.t 6))]),
ao 8 (.buildSlice 2 1 [(.int .i64 0), (.bool false)] [(0, 2, (.t 7))]),
ao 9 (.call 159 [(.t 5), (.t 8)])])) }
def w290 : WF := { nt := 10, results := [], code :=
(.seq (.reg [mv 3 0,
ao 4 (.call 258 [(.t 3), (.c (.int .i64 1))]),
mv 2 4])
(.reg [mv 5 0,
mv 6 2,
ao 7 (.indexSl 1 (.t 6) (.c (.int .i64 0))),
ao 8 (.load false 1 (.t 7)),
ao 9 (.call 252 [(.t 5), (.t 8)])])) }
def w291 : WF := { nt := 4, results := [], code :=
(.reg [mv 2 0,
ao 3 (.call 292 [(.t 2), (.c (.int .i64 0))])]) }
def w292 : WF := { nt := 35, results := [], code :=
(.seq (.reg [mv 4 0,
mv 5 0,
ao 6 (.nilCheck (.t 5)),
ao 7 (.fieldAddr 0 (.t 6)),
ao 8 (.fieldAddr 2 (.t 7)),
ao 9 (.load false 1 (.t 8)),
ao 10 (.len (.t 9)),
mv 11 1,
ao 12 (.bin .gtr .no (.t 10) (.t 11)),
ao 13 (.call 157 [(.t 4), (.t 12), (.c (.int .i64 (-6)))])])
(.seq (.reg [mv 14 0,
ao 15 (.call 48 [(.t 14)])])
(.cond (.t 15)
(.calm [mv 16 0,
mv 17 0,
⟨(some 18), .nilCheck (.t 17), none, [1], false⟩,
⟨(some 19), .fieldAddr 0 (.t 18), none, [2], false⟩,
⟨(some 20), .fieldAddr 2 (.t 19), none, [3], false⟩,
⟨(some 21), .load false 1 (.t 20), none, [4], false⟩,
mv 22 0,
⟨(some 23), .nilCheck (.t 22), none, [6], false⟩,
⟨(some 24), .fieldAddr 0 (.t 23), none, [7], false⟩,
⟨(some 25), .fieldAddr 2 (.t 24), none, [8], false⟩,
⟨(some 26), .load false 1 (.t 25), none, [9], false⟩,
⟨(some 27), .len (.t 26), none, [10], false⟩,
⟨(some 28), .bin .sub .no (.t 27) (.c (.int .i64 1)), none, [11], false⟩,
mv 29 1,
⟨(some 30), .bin .sub .no (.t 28) (.t 29), none, [12, 13], false⟩,
⟨(some 31), .indexSl 2 (.t 21) (.t 30), none, [5, 14], false⟩,
⟨(some 32), .fieldAddr 0 (.t 31), none, [15], false⟩,
⟨(some 33), .load false 1 (.t 32), none, [16], false⟩,
⟨(some 34), .call 252 [(.t 16), (.t 33)], none, [0, 17], true⟩])
.skip))) }
def w295 : WF := { nt := 4, results := [], code :=
(.reg [mv 2 0,
ao 3 (.call 258 [(.t 2), (.c (.int .i64 3))])]) }
def w296 : WF := { nt := 10, results := [], code :=
(.seq (.reg [mv 3 0,
ao 4 (.call 258 [(.t 3), (.c (.int .i64 3))]),
mv 2 4])
(.reg [mv 5 0,
mv 6 2,
ao 7 (.indexSl 1 (.t 6) (.c (.int .i64 0))),
ao 8 (.load false 1 (.t 7)),
ao 9 (.call 160 [(.t 5), (.t 8)])])) }
def w304 : WF := { nt := 4, results := [], code :=
(.reg [mv 2 0,
ao 3 (.call 157 [(.t 2), (.c (.bool false)), (.c (.int .i64 (-1)))])]) }
def w307 : WF := { nt := 36, results := [(2, none)], code :=
(.seq (.reg [ao 2 (.mov (.c (.list [] true)))])
(.seq (.reg [ao 3 (.mov (.c (.int .i64 0)))])
(.seq (.seq (.reg [mv 9 0,
ao 10 (.len (.t 9)),
ao 11 (.mov (.c (.int .i64 0)))])
(.block 0 (.loop (.seq (.reg [ao 12 (.bin .lss .no (.t 11) (.t 10))])
(.seq (.cond (.t 12)
.skip
(.exit 0))
(.seq (.block 1 (.seq (.reg [ao 13 (.indexSl 1 (.t 9) (.t 11)),
ao 14 (.load false 1 (.t 13)),
mv 5 14])
(.seq (.reg [mv 15 3,
mv 16 5,
ao 17 (.len (.t 16)),
ao 18 (.bin .add .no (.t 15) (.t 17)),
mv 3 18])
(.seq (.reg [mv 19 3,
ao 20 (.bin .lss .no (.t 19) (.c (.int .i64 0)))])
(.cond (.t 20)
(.reg [ao 21 (.makeIface 9 (.c (.str ⟨#[108, 101, 110, 32, 111, 117, 116, 32, 111, 102, 32, 114, 97, 110, 103, 101]⟩))),
an (.panic (.t 21))])
.skip)))))
(.reg [ao 22 (.bin .add .no (.t 11) (.c (.int .i64 1))),
mv 11 22])))))))
(.seq (.reg [mv 23 3,
ao 24 (.call 354 [(.c (.list [] true)), (.t 23)]),
mv 6 24])
(.seq (.seq (.reg [mv 25 0,
ao 26 (.len (.t 25)),
ao 27 (.mov (.c (.int .i64 0)))])
(.block 2 (.loop (.seq (.reg [ao 28 (.bin .lss .no (.t 27) (.t 26))])
(.seq (.cond (.t 28)
.skip
(.exit 2))
(.seq (.block 3 (.seq (.reg [ao 29 (.indexSl 1 (.t 25) (.t 27)),
ao 30 (.load false 1 (.t 29)),
mv 8 30])
(.reg [mv 31 6,
mv 32 8,
ao 33 (.append 2 16 none (.t 31) (.t 32)),
mv 6 33])))
(.reg [ao 34 (.bin .add .no (.t 27) (.c (.int .i64 1))),
mv 27 34])))))))
(.seq (.reg [mv 35 6,
mv 2 35])
.ret)))))) }
def w308 : WF := { nt := 11, results := [(2, none)], code :=
(.seq (.reg [ao 2 (.mov (.c (.bool false)))])
(.seq (.reg [ao 3 (.load false 1 (.t 0)),
ao 4 (.bin .geq .no (.t 3) (.c (.int .i64 0))),
mv 5 4,
ag 6 (.load false 1 (.t 0)) 5 true,
ag 7 (.load false 1 (.t 1)) 5 true,
ag 8 (.len (.t 7)) 5 true,
ag 9 (.bin .lss .no (.t 6) (.t 8)) 5 true,
ao 10 (.pick (.t 5) (.t 9) (.c (.bool false))),
mv 2 10])
.ret)) }
def w309 : WF := { nt := 27, results := [(4, none)], code :=
(.seq (.reg [ao 4 (.mov (.c (.list [] true)))])
(.seq (.seq (.reg [mv 5 1,
ao 6 (.bin .lss .no (.t 5) (.c (.int .i64 0)))])
(.cond (.t 6)
(.reg [ao 7 (.makeIface 9 (.c (.str ⟨#[99, 97, 110, 110, 111, 116, 32, 98, 101, 32, 110, 101, 103, 97, 116, 105, 118, 101]⟩))),
an (.panic (.t 7))])
.skip))
(.seq (.seq (.reg [mv 8 1,
mv 9 0,
ao 10 (.cap (.t 9)),
mv 11 0,
ao 12 (.len (.t 11)),
ao 13 (.bin .sub .no (.t 10) (.t 12)),
ao 14 (.bin .sub .no (.t 8) (.t 13)),
mv 1 14])
(.seq (.reg [mv 15 1,
ao 16 (.bin .gtr .no (.t 15) (.c (.int .i64 0)))])
(.cond (.t 16)
(.reg [mv 17 0,
mv 18 0,
ao 19 (.cap (.t 18)),
ao 20 (.slice (.sl 1) (.t 17) none (some (.t 19)) none),
mv 21 1,
ao 22 (.append 1 8 (some [(.int .i64 0)]) (.t 20) (.t 21)),
mv 23 0,
ao 24 (.len (.t 23)),
ao 25 (.slice (.sl 1) (.t 22) none (some (.t 24)) none),
mv 0 25])
.skip)))
(.seq (.reg [mv 26 0,
mv 4 26])
.ret)))) }
def w310 : WF := { nt := 51, results := [(4, none), (5, none)], code :=
(.seq (.reg [ao 4 (.mov (.c (.int .u64 0))),
ao 5 (.mov (.c (.int .u64 0)))])
(.seq (.reg [mv 14 0,
ao 15 (.bin .and .no (.t 14) (.c (.int .u64 4294967295))),
mv 6 15])
(.seq (.reg [mv 16 0,
ao 17 (.bin .shr .no (.t 16) (.c (.int .u64 32))),
mv 7 17])
(.seq (.reg [mv 18 1,
ao 19 (.bin .and .no (.t 18) (.c (.int .u64 4294967295))),
mv 8 19])
(.seq (.reg [mv 20 1,
ao 21 (.bin .shr .no (.t 20) (.c (.int .u64 32))),
mv 9 21])
(.seq (.reg [mv 22 6,
mv 23 8,
ao 24 (.bin .mul .no (.t 22) (.t 23)),
mv 10 24])
(.seq (.reg [mv 25 7,
mv 26 8,
ao 27 (.bin .mul .no (.t 25) (.t 26)),
mv 28 10,
ao 29 (.bin .shr .no (.t 28) (.c (.int .u64 32))),
ao 30 (.bin .add .no (.t 27) (.t 29)),
mv 11 30])
(.seq (.reg [mv 31 11,
ao 32 (.bin .and .no (.t 31) (.c (.int .u64 4294967295))),
mv 12 32])
(.seq (.reg [mv 33 11,
ao 34 (.bin .shr .no (.t 33) (.c (.int .u64 32))),
mv 13 34])
(.seq (.reg [mv 35 12,
mv 36 6,
mv 37 9,
ao 38 (.bin .mul .no (.t 36) (.t 37)),
ao 39 (.bin .add .no (.t 35) (.t 38)),
mv 12 39])
(.seq (.reg [mv 40 7,
mv 41 9,
ao 42 (.bin .mul .no (.t 40) (.t 41)),
mv 43 13,
ao 44 (.bin .add .no (.t 42) (.t 43)),
mv 45 12,
ao 46 (.bin .shr .no (.t 45) (.c (.int .u64 32))),
ao 47 (.bin .add .no (.t 44) (.t 46)),
mv 4 47])
(.seq (.reg [mv 48 0,
mv 49 1,
ao 50 (.bin .mul .no (.t 48) (.t 49)),
mv 5 50])
.ret)))))))))))) }
def w311 : WF := { nt := 10, results := [(2, none)], code :=
(.seq (.reg [ao 2 (.mov (.c (.int .u64 0)))])
(.seq (.seq (.reg [mv 3 0,
ao 4 (.bin .lss .no (.t 3) (.c (.int .i64 0)))])
(.cond (.t 4)
(.seq (.reg [mv 5 0,
ao 6 (.conv (.int .u64) (.t 5)),
ao 7 (.un .neg (.t 6)),
mv 2 7])
.ret)
.skip))
(.seq (.reg [mv 8 0,
ao 9 (.conv (.int .u64) (.t 8)),
mv 2 9])
.ret))) }
def w313 : WF := { nt := 21, results := [(4, none), (5, none), (6, none)], code :=
(.seq (.reg [ao 4 (.mov (.c (.int .u64 0))),
ao 5 (.mov (.c (.int .u64 0))),
ao 6 (.mov (.c (.bool false)))])
(.seq (.seq (.reg [ao 7 (.load false 1 (.t 0)),
mv 8 7,
ag 9 (.load false 1 (.t 1)) 8 true,
ag 10 (.bin .neq .no (.t 9) (.c (.int .u64 0))) 8 true,
ao 11 (.pick (.t 8) (.t 10) (.c (.bool false)))])
(.cond (.t 11)
(.seq (.calm [ao 12 (.load false 1 (.t 2)),
⟨(some 13), .bin .add .no (.t 12) (.c (.int .u64 1)), none, [0], false⟩,
ao 14 (.load false 1 (.t 3)),
ao 15 (.load false 1 (.t 1)),
⟨(some 16), .bin .sub .no (.t 14) (.t 15), none, [2, 3], false⟩,
ao 17 (.load false 1 (.t 2)),
⟨(some 18), .bin .neq .no (.t 17) (.c (.int .u64 18446744073709551615)), none, [5], false⟩,
⟨(some 4), .mov (.t 13), none, [1, 0, 1], false⟩,
⟨(some 5), .mov (.t 16), none, [4, 7, 0, 1, 2, 3, 4, 7], false⟩,
⟨(some 6), .mov (.t 18), none, [6, 8, 0, 1, 2, 3, 4, 5, 6, 7, 8], false⟩])
.ret)
.skip))
(.seq (.calm [ao 19 (.load false 1 (.t 2)),
ao 20 (.load false 1 (.t 1)),
⟨(some 4), .mov (.t 19), none, [0, 0], false⟩,
⟨(some 5), .mov (.t 20), none, [1, 2, 0, 1, 2], false⟩,
⟨(some 6), .mov (.c (.bool true)), none, [3, 0, 1, 2, 3], false⟩])
.ret))) }
def w314 : WF := { nt := 8, results := [(4, none)], code :=
(.seq (.reg [ao 4 (.mov (.c (.float .f64 0)))])
(.seq (.reg [mv 5 0,
mv 6 1,
ao 7 (.bin .add .no (.t 5) (.t 6)),
mv 4 7])
.ret)) }
def w315 : WF := { nt := 8, results := [(4, none)], code :=
(.seq (.reg [ao 4 (.mov (.c (.float .f64 0)))])
(.seq (.reg [mv 5 0,
mv 6 1,
ao 7 (.bin .sub .no (.t 5) (.t 6)),
mv 4 7])
.ret)) }
def w316 : WF := { nt := 8, results := [(4, none)], code :=
(.seq (.reg [ao 4 (.mov (.c (.float .f64 0)))])
(.seq (.reg [mv 5 0,
mv 6 1,
ao 7 (.bin .mul .no (.t 5) (.t 6)),
mv 4 7])
.ret)) }
def w317 : WF := { nt := 8, results := [(4, none)], code :=
(.seq (.reg [ao 4 (.mov (.c (.float .f64 0)))])
(.seq (.reg [mv 5 0,
mv 6 1,
ao 7 (.bin .quo .no (.t 5) (.t 6)),
mv 4 7])
.ret)) }
def w318 : WF := { nt := 19, results := [(4, none)], code :=
(.seq (.reg [ao 4 (.mov (.c (.float .f64 0)))])
(.seq (.seq (.reg [mv 5 0,
mv 6 1,
ao 7 (.bin .lss .no (.t 5) (.t 6)),
mv 8 7,
ag 9 (.mov (.t 0)) 8 false,
ag 10 (.mov (.t 1)) 8 false,
ag 11 (.bin .eql .no (.t 9) (.t 10)) 8 false,
ag 12 (.mov (.t 11)) 8 false,
ag 13 (.mov (.t 0)) 12 true,
ag 14 (.call 356 [(.t 13)]) 12 true,
ag 15 (.pick (.t 12) (.t 14) (.c (.bool false))) 8 false,
ao 16 (.pick (.t 8) (.c (.bool true)) (.t 15))])
(.cond (.t 16)
(.seq (.reg [mv 17 0,
mv 4 17])
.ret)
.skip))
(.seq (.reg [mv 18 1,
mv 4 18])
.ret))) }
def w319 : WF := { nt := 11, results := [(4, none)], code :=
(.seq (.reg [ao 4 (.mov (.c (.float .f64 0)))])
(.seq (.reg [mv 5 0,
ao 6 (.un .neg (.t 5)),
mv 7 1,
ao 8 (.un .neg (.t 7)),
ao 9 (.call 318 [(.t 6), (.t 8)]),
ao 10 (.un .neg (.t 9)),
mv 4 10])
.ret)) }
def w320 : WF := { nt := 6, results := [(2, none)], code :=
(.seq (.reg [ao 2 (.mov (.c (.bool false)))])
(.seq (.reg [mv 3 0,
mv 4 0,
ao 5 (.bin .neq .no (.t 3) (.t 4)),
mv 2 5])
.ret)) }
def w324 : WF := { nt := 38, results := [(2, none)], code :=
(.seq (.reg [ao 2 (.mov (.c (.float .f64 0)))])
(.seq (.seq (.reg [mv 7 0,
ao 8 (.bin .eql .no (.t 7) (.c (.float .f64 0))),
mv 9 8,
ag 10 (.mov (.t 0)) 9 false,
ag 11 (.call 320 [(.t 10)]) 9 false,
ao 12 (.pick (.t 9) (.c (.bool true)) (.t 11)),
mv 13 12,
ag 14 (.mov (.t 0)) 13 false,
ag 15 (.call 357 [(.t 14), (.c (.int .i64 0))]) 13 false,
ao 16 (.pick (.t 13) (.c (.bool true)) (.t 15))])
(.cond (.t 16)
(.seq (.reg [mv 17 0,
mv 2 17])
.ret)
.skip))
(.seq (.seq (.reg [mv 18 0,
ao 19 (.bin .lss .no (.t 18) (.c (.float .f64 0)))])
(.cond (.t 19)
(.seq (.reg [mv 21 0,
ao 22 (.un .neg (.t 21)),
ao 23 (.call 358 [(.t 22)]),
mv 20 23,
ao 24 (.extract 0 (.t 20)),
ao 25 (.extract 1 (.t 20)),
mv 3 24,
mv 4 25])
(.seq (.seq (.reg [mv 26 4,
ao 27 (.bin .neq .no (.t 26) (.c (.float .f64 0)))])
(.cond (.t 27)
(.reg [mv 28 3,
ao 29 (.bin .add .no (.t 28) (.c (.float .f64 4607182418800017408))),
mv 3 29])
.skip))
(.seq (.reg [mv 30 3,
ao 31 (.un .neg (.t 30)),
mv 2 31])
.ret)))
.skip))
(.seq (.reg [mv 33 0,
ao 34 (.call 358 [(.t 33)]),
mv 32 34,
ao 35 (.extract 0 (.t 32)),
ao 36 (.extract 1 (.t 32)),
mv 5 35,
mv 6 36])
(.seq (.reg [mv 37 5,
mv 2 37])
.ret))))) }
def w325 : WF := { nt := 35, results := [(4, none), (5, none)], code :=
(.seq (.reg [ao 4 (.mov (.c (.int .u64 0))),
ao 5 (.mov (.c (.int .u64 0)))])
(.seq (.reg [ao 6 (.mov (.c (.int .u64 0)))])
(.seq (.reg [ao 7 (.mov (.c (.int .u64 0)))])
(.seq (.seq (.reg [ao 8 (.mov (.c (.int .i64 63)))])
(.block 0 (.loop (.seq (.seq (.reg [mv 9 8,
ao 10 (.bin .geq .no (.t 9) (.c (.int .i64 0)))])
(.cond (.t 10)
.skip
(.exit 0)))
(.seq (.block 1 (.seq (.reg [mv 13 6,
ao 14 (.bin .shl .no (.t 13) (.c (.int .u64 1))),
mv 15 7,
ao 16 (.bin .shr .no (.t 15) (.c (.int .u64 63))),
ao 17 (.bin .or .no (.t 14) (.t 16)),
mv 6 17])
(.seq (.reg [mv 18 7,
ao 19 (.bin .shl .no (.t 18) (.c (.int .u64 1))),
mv 7 19])
(.seq (.reg [mv 20 1,
mv 21 8,
ao 22 (.bin .shr .no (.t 20) (.t 21)),
ao 23 (.bin .and .no (.t 22) (.c (.int .u64 1))),
ao 24 (.bin .eql .no (.t 23) (.c (.int .u64 1)))])
(.cond (.t 24)
(.seq (.reg [mv 25 7,
mv 26 0,
ao 27 (.bin .add .no (.t 25) (.t 26)),
mv 7 27])
(.seq (.reg [mv 28 7,
mv 29 0,
ao 30 (.bin .lss .no (.t 28) (.t 29))])
(.cond (.t 30)
(.reg [mv 31 6,
ao 32 (.bin .add .no (.t 31) (.c (.int .u64 1))),
mv 6 32])
.skip)))
.skip)))))
(.reg [mv 11 8,
ao 12 (.bin .sub .no (.t 11) (.c (.int .i64 1))),
mv 8 12]))))))
(.seq (.reg [mv 33 6,
mv 34 7,
mv 4 33,
mv 5 34])
.ret))))) }
def w326 : WF := { nt := 12, results := [(2, none)], code :=
(.seq (.reg [ao 2 (.mov (.c (.int .u64 0)))])
(.seq (.seq (.reg [mv 3 0,
ao 4 (.bin .lss .no (.t 3) (.c (.int .i64 0)))])
(.cond (.t 4)
(.seq (.reg [mv 5 0,
ao 6 (.bin .add .no (.t 5) (.c (.int .i64 1))),
ao 7 (.un .neg (.t 6)),
ao 8 (.conv (.int .u64) (.t 7)),
ao 9 (.bin .add .no (.t 8) (.c (.int .u64 1))),
mv 2 9])
.ret)
.skip))
(.seq (.reg [mv 10 0,
ao 11 (.conv (.int .u64) (.t 10)),
mv 2 11])
.ret))) }
def w327 : WF := { nt := 40, results := [(6, none), (7, none)], code :=
(.seq (.reg [ao 6 (.mov (.c (.int .u64 0))),
ao 7 (.mov (.c (.int .u64 0)))])
(.seq (.reg [ao 8 (.mov (.c (.int .u64 0)))])
(.seq (.seq (.reg [ao 9 (.mov (.c (.int .i64 63)))])
(.block 0 (.loop (.seq (.seq (.reg [mv 11 9,
ao 12 (.bin .geq .no (.t 11) (.c (.int .i64 0)))])
(.cond (.t 12)
.skip
(.exit 0)))
(.seq (.block 1 (.seq (.reg [mv 15 0,
ao 16 (.bin .shr .no (.t 15) (.c (.int .u64 63))),
mv 10 16])
(.seq (.reg [mv 17 0,
ao 18 (.bin .shl .no (.t 17) (.c (.int .u64 1))),
mv 19 1,
mv 20 9,
ao 21 (.bin .shr .no (.t 19) (.t 20)),
ao 22 (.bin .and .no (.t 21) (.c (.int .u64 1))),
ao 23 (.bin .or .no (.t 18) (.t 22)),
mv 0 23])
(.seq (.reg [mv 24 8,
ao 25 (.bin .shl .no (.t 24) (.c (.int .u64 1))),
mv 8 25])
(.seq (.reg [mv 26 10,
ao 27 (.bin .eql .no (.t 26) (.c (.int .u64 1))),
mv 28 27,
ag 29 (.mov (.t 0)) 28 false,
ag 30 (.mov (.t 2)) 28 false,
ag 31 (.bin .geq .no (.t 29) (.t 30)) 28 false,
ao 32 (.pick (.t 28) (.c (.bool true)) (.t 31))])
(.cond (.t 32)
(.seq (.reg [mv 33 0,
mv 34 2,
ao 35 (.bin .sub .no (.t 33) (.t 34)),
mv 0 35])
(.reg [mv 36 8,
ao 37 (.bin .add .no (.t 36) (.c (.int .u64 1))),
mv 8 37]))
.skip))))))
(.reg [mv 13 9,
ao 14 (.bin .sub .no (.t 13) (.c (.int .i64 1))),
mv 9 14]))))))
(.seq (.reg [mv 38 8,
mv 39 0,
mv 6 38,
mv 7 39])
.ret)))) }
def w329 : WF := { nt := 26, results := [(2, none)], code :=
(.seq (.reg [ao 2 (.mov (.c (.float .f64 0)))])
(.seq (.seq (.reg [mv 5 0,
ao 6 (.call 179 [(.t 5)]),
ao 7 (.bin .lss .no (.t 6) (.c (.float .f64 4607182418800017408)))])
(.cond (.t 7)
(.seq (.reg [mv 8 0,
ao 9 (.call 359 [(.c (.float .f64 0)), (.t 8)]),
mv 2 9])
.ret)
.skip))
(.seq (.reg [mv 10 0,
ao 11 (.call 321 [(.t 10)]),
mv 3 11])
(.seq (.reg [mv 12 3,
ao 13 (.bin .shr .no (.t 12) (.c (.int .u64 52))),
ao 14 (.bin .and .no (.t 13) (.c (.int .u64 2047))),
ao 15 (.bin .sub .no (.t 14) (.c (.int .u64 1023))),
mv 4 15])
(.seq (.seq (.reg [mv 16 4,
ao 17 (.bin .lss .no (.t 16) (.c (.int .u64 52)))])
(.cond (.t 17)
(.reg [mv 18 3,
mv 19 4,
ao 20 (.bin .sub .no (.c (.int .u64 52)) (.t 19)),
ao 21 (.bin .shl .no (.c (.int .u64 1)) (.t 20)),
ao 22 (.bin .sub .no (.t 21) (.c (.int .u64 1))),
ao 23 (.bin .andNot .no (.t 18) (.t 22)),
mv 3 23])
.skip))
(.seq (.reg [mv 24 3,
ao 25 (.call 184 [(.t 24)]),
mv 2 25])
.ret)))))) }
def w330 : WF := { nt := 9, results := [(2, none)], code :=
(.seq (.reg [ao 2 (.mov (.c (.int .i64 0)))])
(.seq (.seq (.reg [mv 3 0,
mv 4 0,
ao 5 (.bin .neq .no (.t 3) (.t 4))])
(.cond (.t 5)
(.seq (.reg [ao 2 (.mov (.c (.int .i64 9221120237041090560)))])
.ret)
.skip))
(.seq (.reg [mv 6 0,
ao 7 (.call 321 [(.t 6)]),
ao 8 (.conv (.int .i64) (.t 7)),
mv 2 8])
.ret))) }
def w331 : WF := { nt := 48, results := [(4, none), (5, none)], code :=
(.seq (.reg [ao 4 (.mov (.c (.int .i64 0))),
ao 5 (.mov (.c (.bool false)))])
(.seq (.seq (.reg [mv 7 0,
ao 8 (.bin .neq .no (.t 7) (.c (.int .u8 110))),
mv 9 8,
ag 10 (.mov (.t 0)) 9 true,
ag 11 (.bin .neq .no (.t 10) (.c (.int .u8 97))) 9 true,
ao 12 (.pick (.t 9) (.t 11) (.c (.bool false))),
mv 13 12,
ag 14 (.mov (.t 0)) 13 true,
ag 15 (.bin .neq .no (.t 14) (.c (.int .u8 115))) 13 true,
ao 16 (.pick (.t 13) (.t 15) (.c (.bool false))),
mv 17 16,
ag 18 (.mov (.t 0)) 17 true,
ag 19 (.bin .neq .no (.t 18) (.c (.int .u8 102))) 17 true,
ao 20 (.pick (.t 17) (.t 19) (.c (.bool false)))])
(.cond (.t 20)
(.seq (.reg [ao 4 (.mov (.c (.int .i64 0))),
ao 5 (.mov (.c (.bool false)))])
.ret)
.skip))
(.seq (.seq (.reg [mv 21 1,
ao 22 (.call 332 [(.t 21)]),
ao 23 (.un .not (.t 22))])
(.cond (.t 23)
(.seq (.reg [ao 4 (.mov (.c (.int .i64 9221120237041090560))),
ao 5 (.mov (.c (.bool true)))])
.ret)
.skip))
(.seq (.reg [mv 24 1,
ao 25 (.conv (.int .u64) (.t 24)),
ao 26 (.call 184 [(.t 25)]),
mv 6 26])
(.seq (.seq (.reg [mv 27 0])
(.block 0 (.seq (.reg [ao 29 (.bin .eql .no (.t 27) (.c (.int .u8 110))),
mv 28 29])
(.cond (.t 28)
(.seq (.reg [mv 30 1,
ao 31 (.conv (.int .u64) (.t 30)),
ao 32 (.bin .xor .no (.t 31) (.c (.int .u64 9223372036854775808))),
ao 33 (.conv (.int .i64) (.t 32)),
mv 4 33,
ao 5 (.mov (.c (.bool true)))])
.ret)
(.seq (.reg [ao 35 (.bin .eql .no (.t 27) (.c (.int .u8 97))),
mv 34 35])
(.cond (.t 34)
(.seq (.reg [mv 36 1,
ao 37 (.conv (.int .u64) (.t 36)),
ao 38 (.bin .and .no (.t 37) (.c (.int .u64 9223372036854775807))),
ao 39 (.conv (.int .i64) (.t 38)),
mv 4 39,
ao 5 (.mov (.c (.bool true)))])
.ret)
(.seq (.reg [ao 41 (.bin .eql .no (.t 27) (.c (.int .u8 115))),
mv 40 41])
(.cond (.t 40)
(.seq (.reg [mv 42 6,
ao 43 (.call 180 [(.t 42)]),
ao 44 (.call 330 [(.t 43)]),
mv 4 44,
ao 5 (.mov (.c (.bool true)))])
.ret)
.skip))))))))
(.seq (.reg [mv 45 6,
ao 46 (.call 181 [(.t 45)]),
ao 47 (.call 330 [(.t 46)]),
mv 4 47,
ao 5 (.mov (.c (.bool true)))])
.ret)))))) }
def w332 : WF := { nt := 10, results := [(2, none)], code :=
(.seq (.reg [ao 2 (.mov (.c (.bool false)))])
(.seq (.reg [mv 4 0,
ao 5 (.conv (.int .u64) (.t 4)),
ao 6 (.call 184 [(.t 5)]),
mv 3 6])
(.seq (.reg [mv 7 3,
mv 8 3,
ao 9 (.bin .eql .no (.t 7) (.t 8)),
mv 2 9])
.ret))) }
def w333 : WF := { nt := 25, results := [(4, none)], code :=
(.seq (.reg [ao 4 (.mov (.c (.int .i64 0)))])
(.seq (.reg [mv 7 0,
ao 8 (.conv (.int .u64) (.t 7)),
ao 9 (.call 184 [(.t 8)]),
mv 5 9])
(.seq (.reg [mv 10 1,
ao 11 (.conv (.int .u64) (.t 10)),
ao 12 (.call 184 [(.t 11)]),
mv 6 12])
(.seq (.seq (.reg [mv 13 5,
mv 14 6,
ao 15 (.bin .lss .no (.t 13) (.t 14))])
(.cond (.t 15)
(.seq (.reg [mv 16 0,
mv 4 16])
.ret)
.skip))
(.seq (.seq (.reg [mv 17 5,
mv 18 6,
ao 19 (.bin .gtr .no (.t 17) (.t 18))])
(.cond (.t 19)
(.seq (.reg [mv 20 1,
mv 4 20])
.ret)
.skip))
(.seq (.seq (.reg [mv 21 0,
ao 22 (.call 360 [(.t 21)])])
(.cond (.t 22)
(.seq (.reg [mv 23 0,
mv 4 23])
.ret)
.skip))
(.seq (.reg [mv 24 1,
mv 4 24])
.ret))))))) }
def w334 : WF := { nt := 12, results := [(4, none)], code :=
(.seq (.reg [ao 4 (.mov (.c (.int .i64 0)))])
(.seq (.seq (.reg [mv 5 0,
mv 6 1,
ao 7 (.call 333 [(.t 5), (.t 6)]),
mv 8 0,
ao 9 (.bin .eql .no (.t 7) (.t 8))])
(.cond (.t 9)
(.seq (.reg [mv 10 1,
mv 4 10])
.ret)
.skip))
(.seq (.reg [mv 11 0,
mv 4 11])
.ret))) }
def w338 : WF := { nt := 42, results := [(4, none)], code :=
(.seq (.reg [ao 4 (.mov (.c (.list [] true)))])
(.seq (.reg [mv 8 0,
mv 9 1,
ao 10 (.call 363 [(.t 8), (.t 9)]),
mv 5 10])
(.seq (.seq (.reg [mv 11 5,
ao 12 (.bin .eql .no (.t 11) (.c (.int .i64 (-1))))])
(.cond (.t 12)
(.seq (.reg [mv 13 0,
mv 4 13])
.ret)
.skip))
(.seq (.seq (.reg [mv 14 5,
ao 15 (.bin .add .no (.t 14) (.c (.int .i64 1))),
mv 6 15])
(.block 0 (.loop (.seq (.seq (.reg [mv 16 6,
mv 17 0,
ao 18 (.len (.t 17)),
ao 19 (.bin .lss .no (.t 16) (.t 18))])
(.cond (.t 19)
.skip
(.exit 0)))
(.seq (.block 1 (.seq (.reg [mv 22 0,
mv 23 6,
ao 24 (.indexSl 2 (.t 22) (.t 23)),
ao 25 (.load true 2 (.t 24)),
ao 7 (.alloc [(.int .i64 0), (.int .i64 0)]),
an (.store 2 (.t 7) (.t 25))])
(.seq (.reg [mv 26 1,
ao 27 (.load true 2 (.t 7)),
ao 28 (.callv (.t 26) [(.t 27)]),
ao 29 (.un .not (.t 28))])
(.cond (.t 29)
(.seq (.reg [mv 30 0,
mv 31 5,
ao 32 (.load true 2 (.t 7)),
ao 33 (.indexSl 2 (.t 30) (.t 31)),
an (.store 2 (.t 33) (.t 32))])
(.reg [mv 34 5,
ao 35 (.bin .add .no (.t 34) (.c (.int .i64 1))),
mv 5 35]))
.skip))))
(.reg [mv 20 6,
ao 21 (.bin .add .no (.t 20) (.c (.int .i64 1))),
mv 6 21]))))))
(.seq (.reg [mv 36 0,
mv 37 5,
ao 38 (.slice (.sl 2) (.t 36) (some (.t 37)) none none),
an (.clear [(.int .i64 0), (.int .i64 0)] 2 (.t 38))])
(.seq (.reg [mv 39 0,
mv 40 5,
ao 41 (.slice (.sl 2) (.t 39) none (some (.t 40)) none),
mv 4 41])
.ret)))))) }
def w339 : WF := { nt := 8, results := [(2, none)], code :=
(.seq (.reg [ao 2 (.mov (.c (.list [] true)))])
(.seq (.seq (.reg [mv 3 0,
ao 4 (.pur (.isNil true) [(.t 3)])])
(.cond (.t 4)
(.seq (.reg [ao 2 (.mov (.c (.list [] true)))])
.ret)
.skip))
(.seq (.reg [ao 5 (.buildSlice 2 0 [(.int .i64 0), (.int .i64 0)] []),
mv 6 0,
ao 7 (.append 2 16 none (.t 5) (.t 6)),
mv 2 7])
.ret))) }
def w340 : WF := { nt := 8, results := [(3, none)], code :=
(.seq (.reg [ao 2 (.box (.t 0)),
ao 3 (.mov (.c (.bool false)))])
(.seq (.reg [ao 4 (.fieldAddr 0 (.t 2)),
ao 5 (.load false 1 (.t 4)),
ao 6 (.load false 1 (.t 1)),
ao 7 (.bin .geq .no (.t 5) (.t 6)),
mv 3 7])
.ret)) }
def w346 : WF := { nt := 19, results := [(6, none), (7, none)], code :=
(.seq (.reg [ao 6 (.mov (.c (.list [] true))),
ao 7 (.mov (.c (.int .i64 0)))])
(.seq (.seq (.reg [mv 8 0,
ao 9 (.len (.t 8)),
mv 10 2,
ao 11 (.len (.t 10)),
ao 12 (.bin .add .no (.t 9) (.t 11)),
mv 13 1,
ao 14 (.bin .gtr .no (.t 12) (.t 13))])
(.cond (.t 14)
(.seq (.reg [ao 6 (.mov (.c (.list [] true))),
ao 7 (.mov (.c (.int .i64 (-3))))])
.ret)
.skip))
(.seq (.reg [mv 15 0,
mv 16 2,
ao 17 (.buildSlice 1 2 [(.list [] true)] [(0, 1, (.t 15)), (1, 1, (.t 16))]),
ao 18 (.call 169 [(.t 17)]),
mv 6 18,
ao 7 (.mov (.c (.int .i64 0)))])
.ret))) }
def w352 : WF := { nt := 20, results := [(6, none)], code :=
(.seq (.reg [ao 6 (.mov (.c (.list [] true)))])
(.seq (.reg [mv 8 0,
ao 9 (.len (.t 8)),
ao 10 (.makeSlice 1 1 [(.int .u8 0)] (.t 9) (.t 9)),
mv 7 10])
(.seq (.reg [mv 11 7,
mv 12 0,
ao 13 (.copy 1 (.t 11) (.t 12))])
(.seq (.reg [mv 14 7,
mv 15 1,
ao 16 (.slice (.sl 1) (.t 14) (some (.t 15)) none none),
mv 17 2,
ao 18 (.copy 1 (.t 16) (.t 17))])
(.seq (.reg [mv 19 7,
mv 6 19])
.ret))))) }
def w354 : WF := { nt := 27, results := [(4, none)], code :=
(.seq (.reg [ao 4 (.mov (.c (.list [] true)))])
(.seq (.seq (.reg [mv 5 1,
ao 6 (.bin .lss .no (.t 5) (.c (.int .i64 0)))])
(.cond (.t 6)
(.reg [ao 7 (.makeIface 9 (.c (.str ⟨#[99, 97, 110, 110, 111, 116, 32, 98, 101, 32, 110, 101, 103, 97, 116, 105, 118, 101]⟩))),
an (.panic (.t 7))])
.skip))
(.seq (.seq (.reg [mv 8 1,
mv 9 0,
ao 10 (.cap (.t 9)),
mv 11 0,
ao 12 (.len (.t 11)),
ao 13 (.bin .sub .no (.t 10) (.t 12)),
ao 14 (.bin .sub .no (.t 8) (.t 13)),
mv 1 14])
(.seq (.reg [mv 15 1,
ao 16 (.bin .gtr .no (.t 15) (.c (.int .i64 0)))])
(.cond (.t 16)
(.reg [mv 17 0,
mv 18 0,
ao 19 (.cap (.t 18)),
ao 20 (.slice (.sl 2) (.t 17) none (some (.t 19)) none),
mv 21 1,
ao 22 (.append 2 16 (some [(.int .i64 0), (.bool false)]) (.t 20) (.t 21)),
mv 23 0,
ao 24 (.len (.t 23)),
ao 25 (.slice (.sl 2) (.t 22) none (some (.t 24)) none),
mv 0 25])
.skip)))
(.seq (.reg [mv 26 0,
mv 4 26])
.ret)))) }
def w356 : WF := { nt := 7, results := [(2, none)], code :=
(.seq (.reg [ao 2 (.mov (.c (.bool false)))])
(.seq (.reg [mv 3 0,
ao 4 (.call 321 [(.t 3)]),
ao 5 (.conv (.int .i64) (.t 4)),
ao 6 (.bin .lss .no (.t 5) (.c (.int .i64 0))),
mv 2 6])
.ret)) }
def w357 : WF := { nt := 15, results := [(4, none)], code :=
(.seq (.reg [ao 4 (.mov (.c (.bool false)))])
(.seq (.seq (.reg [mv 5 1,
ao 6 (.bin .eql .no (.t 5) (.c (.int .i64 0)))])
(.cond (.t 6)
(.reg [mv 7 0,
ao 8 (.call 179 [(.t 7)]),
mv 0 8])
(.seq (.reg [mv 9 1,
ao 10 (.bin .lss .no (.t 9) (.c (.int .i64 0)))])
(.cond (.t 10)
(.reg [mv 11 0,
ao 12 (.un .neg (.t 11)),
mv 0 12])
.skip))))
(.seq (.reg [mv 13 0,
ao 14 (.bin .gtr .no (.t 13) (.c (.float .f64 9218868437227405311))),
mv 4 14])
.ret))) }
def w358 : WF := { nt := 11, results := [(2, none), (3, none)], code :=
(.seq (.reg [ao 2 (.mov (.c (.float .f64 0))),
ao 3 (.mov (.c (.float .f64 0)))])
(.seq (.reg [mv 4 0,
ao 5 (.call 185 [(.t 4)]),
mv 2 5])
(.seq (.reg [mv 6 0,
mv 7 2,
ao 8 (.bin .sub .no (.t 6) (.t 7)),
mv 9 0,
ao 10 (.call 359 [(.t 8), (.t 9)]),
mv 3 10])
.ret))) }
def w359 : WF := { nt := 13, results := [(4, none)], code :=
(.seq (.reg [ao 4 (.mov (.c (.float .f64 0)))])
(.seq (.reg [mv 5 0,
ao 6 (.call 321 [(.t 5)]),
ao 7 (.bin .andNot .no (.t 6) (.c (.int .u64 9223372036854775808))),
mv 8 1,
ao 9 (.call 321 [(.t 8)]),
ao 10 (.bin .and .no (.t 9) (.c (.int .u64 9223372036854775808))),
ao 11 (.bin .or .no (.t 7) (.t 10)),
ao 12 (.call 184 [(.t 11)]),
mv 4 12])
.ret)) }
def w360 : WF := { nt := 5, results := [(2, none)], code :=
(.seq (.reg [ao 2 (.mov (.c (.bool false)))])
(.seq (.reg [mv 3 0,
ao 4 (.bin .lss .no (.t 3) (.c (.int .i64 0))),
mv 2 4])
.ret)) }
def w363 : WF := { nt := 19, results := [(4, none)], code :=
(.seq (.reg [ao 4 (.mov (.c (.int .i64 0)))])
(.seq (.seq (.reg [mv 6 0,
ao 7 (.len (.t 6)),
ao 8 (.mov (.c (.int .i64 0)))])
(.block 0 (.loop (.seq (.reg [ao 9 (.bin .lss .no (.t 8) (.t 7))])
(.seq (.cond (.t 9)
.skip
(.exit 0))
(.seq (.block 1 (.seq (.reg [mv 10 8,
mv 5 10])
(.seq (.reg [mv 11 1,
mv 12 0,
mv 13 5,
ao 14 (.indexSl 2 (.t 12) (.t 13)),
ao 15 (.load true 2 (.t 14)),
ao 16 (.callv (.t 11) [(.t 15)])])
(.cond (.t 16)
(.seq (.reg [mv 17 5,
mv 4 17])
.ret)
.skip))))
(.reg [ao 18 (.bin .add .no (.t 8) (.c (.int .i64 1))),
mv 8 18])))))))
(.seq (.reg [ao 4 (.mov (.c (.int .i64 (-1))))])
.ret))) }
def tab : List (Nat × AFun) := [(3, w3.toA), (4, w4.toA), (5, w5.toA), (6, w6.toA), (7, w7.toA), (8, w8.toA), (9, w9.toA), (10, w10.toA), (11, w11.toA), (12, w12.toA), (13, w13.toA), (14, w14.toA), (15, w15.toA), (16, w16.toA), (17, w17.toA), (18, w18.toA), (19, w19.toA), (20, w20.toA), (21, w21.toA), (22, w22.toA), (23, w23.toA), (24, w24.toA), (25, w25.toA), (26, w26.toA), (27, w27.toA), (28, w28.toA), (29, w29.toA), (30, w30.toA), (31, w31.toA), (32, w32.toA), (33, w33.toA), (34, w34.toA), (35, w35.toA), (36, w36.toA), (37, w37.toA), (38, w38.toA), (39, w39.toA), (40, w40.toA), (42, w42.toA), (43, w43.toA), (44, w44.toA), (45, w45.toA), (46, w46.toA), (47, w47.toA), (48, w48.toA), (49, w49.toA), (50, w50.toA), (51, w51.toA), (52, w52.toA), (53, w53.toA), (54, w54.toA), (55, w55.toA), (56, w56.toA), (57, w57.toA), (58, w58.toA), (59, w59.toA), (60, w60.toA), (61, w61.toA), (62, w62.toA), (63, w63.toA), (64, w64.toA), (65, w65.toA), (66, w66.toA), (67, w67.toA), (68, w68.toA), (69, w69.toA), (70, w70.toA), (71, w71.toA), (72, w72.toA), (73, w73.toA), (74, w74.toA), (75, w75.toA), (76, w76.toA), (77, w77.toA), (78, w78.toA), (79, w79.toA), (80, w80.toA), (81, w81.toA), (82, w82.toA), (83, w83.toA), (84, w84.toA), (85, w85.toA), (86, w86.toA), (87, w87.toA), (88, w88.toA), (89, w89.toA), (90, w90.toA), (91, w91.toA), (92, w92.toA), (93, w93.toA), (94, w94.toA), (95, w95.toA), (96, w96.toA), (97, w97.toA), (98, w98.toA), (99, w99.toA), (100, w100.toA), (101, w101.toA), (102, w102.toA), (103, w103.toA), (104, w104.toA), (105, w105.toA), (106, w106.toA), (107, w107.toA), (108, w108.toA), (109, w109.toA), (110, w110.toA), (111, w111.toA), (112, w112.toA), (113, w113.toA), (114, w114.toA), (115, w115.toA), (116, w116.toA), (117, w117.toA), (118, w118.toA), (119, w119.toA), (120, w120.toA), (121, w121.toA), (122, w122.toA), (123, w123.toA), (124, w124.toA), (125, w125.toA), (126, w126.toA), (127, w127.toA), (128, w128.toA), (129, w129.toA), (130, w130.toA), (131, w131.toA), (132, w132.toA), (133, w133.toA), (134, w134.toA), (135, w135.toA), (136, w136.toA), (137, w137.toA), (138, w138.toA), (139, w139.toA), (140, w140.toA), (141, w141.toA), (142, w142.toA), (143, w143.toA), (147, w147.toA), (148, w148.toA), (149, w149.toA), (150, w150.toA), (151, w151.toA), (152, w152.toA), (153, w153.toA), (154, w154.toA), (155, w155.toA), (156, w156.toA), (157, w157.toA), (158, w158.toA), (159, w159.toA), (160, w160.toA), (161, w161.toA), (162, w162.toA), (163, w163.toA), (164, w164.toA), (165, w165.toA), (166, w166.toA), (167, w167.toA), (168, w168.toA), (169, w169.toA), (170, w170.toA), (171, w171.toA), (172, w172.toA), (173, w173.toA), (174, w174.toA), (175, w175.toA), (176, w176.toA), (177, w177.toA), (178, w178.toA), (179, w179.toA), (180, w180.toA), (181, w181.toA), (182, w182.toA), (183, w183.toA), (185, w185.toA), (186, w186.toA), (187, w187.toA), (188, w188.toA), (189, w189.toA), (190, w190.toA), (191, w191.toA), (192, w192.toA), (196, w196.toA), (197, w197.toA), (198, w198.toA), (199, w199.toA), (200, w200.toA), (201, w201.toA), (202, w202.toA), (203, w203.toA), (217, w217.toA), (218, w218.toA), (230, w230.toA), (251, w251.toA), (252, w252.toA), (254, w254.toA), (255, w255.toA), (256, w256.toA), (257, w257.toA), (258, w258.toA), (259, w259.toA), (260, w260.toA), (261, w261.toA), (262, w262.toA), (263, w263.toA), (270, w270.toA), (273, w273.toA), (274, w274.toA), (275, w275.toA), (278, w278.toA), (285, w285.toA), (289, w289.toA), (290, w290.toA), (291, w291.toA), (292, w292.toA), (295, w295.toA), (296, w296.toA), (304, w304.toA), (307, w307.toA), (308, w308.toA), (309, w309.toA), (310, w310.toA), (311, w311.toA), (313, w313.toA), (314, w314.toA), (315, w315.toA), (316, w316.toA), (317, w317.toA), (318, w318.toA), (319, w319.toA), (320, w320.toA), (324, w324.toA), (325, w325.toA), (326, w326.toA), (327, w327.toA), (329, w329.toA), (330, w330.toA), (331, w331.toA), (332, w332.toA), (333, w333.toA), (334, w334.toA), (338, w338.toA), (339, w339.toA), (340, w340.toA), (346, w346.toA), (352, w352.toA), (354, w354.toA), (356, w356.toA), (357, w357.toA), (358, w358.toA), (359, w359.toA), (360, w360.toA), (363, w363.toA)]
def okT (x : Nat × AFun) : Prop := cFun Tryz.prog x.1 = some x.2.erase
theorem okT_c {a : Nat × AFun} {l : List (Nat × AFun)} (h : okT a) (hl : ∀ x ∈ l, okT x) : ∀ x ∈ a :: l, okT x := List.forall_mem_cons.2 ⟨h, hl⟩
theorem okT_n : ∀ x ∈ ([] : List (Nat × AFun)), okT x := fun _ h => by cases h
theorem kc3 : okT (3, w3.toA) := by
  show cFun Tryz.prog 3 = some w3.toA.erase
  kernel_rfl
theorem kc4 : okT (4, w4.toA) := by
  show cFun Tryz.prog 4 = some w4.toA.erase
  kernel_rfl
theorem kc5 : okT (5, w5.toA) := by
  show cFun Tryz.prog 5 = some w5.toA.erase
  kernel_rfl
theorem kc6 : okT (6, w6.toA) := by
  show cFun Tryz.prog 6 = some w6.toA.erase
  kernel_rfl
theorem kc7 : okT (7, w7.toA) := by
  show cFun Tryz.prog 7 = some w7.toA.erase
  kernel_rfl
theorem kc8 : okT (8, w8.toA) := by
  show cFun Tryz.prog 8 = some w8.toA.erase
  kernel_rfl
theorem kc9 : okT (9, w9.toA) := by
  show cFun Tryz.prog 9 = some w9.toA.erase
  kernel_rfl
theorem kc10 : okT (10, w10.toA) := by
  show cFun Tryz.prog 10 = some w10.toA.erase
  kernel_rfl
theorem kc11 : okT (11, w11.toA) := by
  show cFun Tryz.prog 11 = some w11.toA.erase
  kernel_rfl
theorem kc12 : okT (12, w12.toA) := by
  show cFun Tryz.prog 12 = some w12.toA.erase
  kernel_rfl
theorem kc13 : okT (13, w13.toA) := by
  show cFun Tryz.prog 13 = some w13.toA.erase
  kernel_rfl
theorem kc14 : okT (14, w14.toA) := by
  show cFun Tryz.prog 14 = some w14.toA.erase
  kernel_rfl
theorem kc15 : okT (15, w15.toA) := by
  show cFun Tryz.prog 15 = some w15.toA.erase
  kernel_rfl
theorem kc16 : okT (16, w16.toA) := by
  show cFun Tryz.prog 16 = some w16.toA.erase
  kernel_rfl
theorem kc17 : okT (17, w17.toA) := by
  show cFun Tryz.prog 17 = some w17.toA.erase
  kernel_rfl
theorem kc18 : okT (18, w18.toA) := by
  show cFun Tryz.prog 18 = some w18.toA.erase
  kernel_rfl
theorem kc19 : okT (19, w19.toA) := by
  show cFun Tryz.prog 19 = some w19.toA.erase
  kernel_rfl
theorem kc20 : okT (20, w20.toA) := by
  show cFun Tryz.prog 20 = some w20.toA.erase
  kernel_rfl
theorem kc21 : okT (21, w21.toA) := by
  show cFun Tryz.prog 21 = some w21.toA.erase
  kernel_rfl
theorem kc22 : okT (22, w22.toA) := by
  show cFun Tryz.prog 22 = some w22.toA.erase
  kernel_rfl
theorem kc23 : okT (23, w23.toA) := by
  show cFun Tryz.prog 23 = some w23.toA.erase
  kernel_rfl
theorem kc24 : okT (24, w24.toA) := by
  show cFun Tryz.prog 24 = some w24.toA.erase
  kernel_rfl
theorem kc25 : okT (25, w25.toA) := by
  show cFun Tryz.prog 25 = some w25.toA.erase
  kernel_rfl
theorem kc26 : okT (26, w26.toA) := by
  show cFun Tryz.prog 26 = some w26.toA.erase
  kernel_rfl
theorem kc27 : okT (27, w27.toA) := by
  show cFun Tryz.prog 27 = some w27.toA.erase
  kernel_rfl
theorem kc28 : okT (28, w28.toA) := by
  show cFun Tryz.prog 28 = some w28.toA.erase
  kernel_rfl
theorem kc29 : okT (29, w29.toA) := by
  show cFun Tryz.prog 29 = some w29.toA.erase
  kernel_rfl
theorem kc30 : okT (30, w30.toA) := by
  show cFun Tryz.prog 30 = some w30.toA.erase
  kernel_rfl
theorem kc31 : okT (31, w31.toA) := by
  show cFun Tryz.prog 31 = some w31.toA.erase
  kernel_rfl
theorem kc32 : okT (32, w32.toA) := by
  show cFun Tryz.prog 32 = some w32.toA.erase
  kernel_rfl
theorem kc33 : okT (33, w33.toA) := by
  show cFun Tryz.prog 33 = some w33.toA.erase
  kernel_rfl
theorem kc34 : okT (34, w34.toA) := by
  show cFun Tryz.prog 34 = some w34.toA.erase
  kernel_rfl
theorem kc35 : okT (35, w35.toA) := by
  show cFun Tryz.prog 35 = some w35.toA.erase
  kernel_rfl
theorem kc36 : okT (36, w36.toA) := by
  show cFun Tryz.prog 36 = some w36.toA.erase
  kernel_rfl
theorem kc37 : okT (37, w37.toA) := by
  show cFun Tryz.prog 37 = some w37.toA.erase
  kernel_rfl
theorem kc38 : okT (38, w38.toA) := by
  show cFun Tryz.prog 38 = some w38.toA.erase
  kernel_rfl
theorem kc39 : okT (39, w39.toA) := by
  show cFun Tryz.prog 39 = some w39.toA.erase
  kernel_rfl
theorem kc40 : okT (40, w40.toA) := by
  show cFun Tryz.prog 40 = some w40.toA.erase
  kernel_rfl
theorem kc42 : okT (42, w42.toA) := by
  show cFun Tryz.prog 42 = some w42.toA.erase
  kernel_rfl
theorem kc43 : okT (43, w43.toA) := by
  show cFun Tryz.prog 43 = some w43.toA.erase
  kernel_rfl
theorem kc44 : okT (44, w44.toA) := by
  show cFun Tryz.prog 44 = some w44.toA.erase
  kernel_rfl
theorem kc45 : okT (45, w45.toA) := by
  show cFun Tryz.prog 45 = some w45.toA.erase
  kernel_rfl
theorem kc46 : okT (46, w46.toA) := by
  show cFun Tryz.prog 46 = some w46.toA.erase
  kernel_rfl
theorem kc47 : okT (47, w47.toA) := by
  show cFun Tryz.prog 47 = some w47.toA.erase
  kernel_rfl
theorem kc48 : okT (48, w48.toA) := by
  show cFun Tryz.prog 48 = some w48.toA.erase
  kernel_rfl
theorem kc49 : okT (49, w49.toA) := by
  show cFun Tryz.prog 49 = some w49.toA.erase
  kernel_rfl
theorem kc50 : okT (50, w50.toA) := by
  show cFun Tryz.prog 50 = some w50.toA.erase
  kernel_rfl
theorem kc51 : okT (51, w51.toA) := by
  show cFun Tryz.prog 51 = some w51.toA.erase
  kernel_rfl
theorem kc52 : okT (52, w52.toA) := by
  show cFun Tryz.prog 52 = some w52.toA.erase
  kernel_rfl
theorem kc53 : okT (53, w53.toA) := by
  show cFun Tryz.prog 53 = some w53.toA.erase
  kernel_rfl
theorem kc54 : okT (54, w54.toA) := by
  show cFun Tryz.prog 54 = some w54.toA.erase
  kernel_rfl
theorem kc55 : okT (55, w55.toA) := by
  show cFun Tryz.prog 55 = some w55.toA.erase
  kernel_rfl
theorem kc56 : okT (56, w56.toA) := by
  show cFun Tryz.prog 56 = some w56.toA.erase
  kernel_rfl
theorem kc57 : okT (57, w57.toA) := by
  show cFun Tryz.prog 57 = some w57.toA.erase
  kernel_rfl
theorem kc58 : okT (58, w58.toA) := by
  show cFun Tryz.prog 58 = some w58.toA.erase
  kernel_rfl
theorem kc59 : okT (59, w59.toA) := by
  show cFun Tryz.prog 59 = some w59.toA.erase
  kernel_rfl
theorem kc60 : okT (60, w60.toA) := by
  show cFun Tryz.prog 60 = some w60.toA.erase
  kernel_rfl
theorem kc61 : okT (61, w61.toA) := by
  show cFun Tryz.prog 61 = some w61.toA.erase
  kernel_rfl
theorem kc62 : okT (62, w62.toA) := by
  show cFun Tryz.prog 62 = some w62.toA.erase
  kernel_rfl
theorem kc63 : okT (63, w63.toA) := by
  show cFun Tryz.prog 63 = some w63.toA.erase
  kernel_rfl
theorem kc64 : okT (64, w64.toA) := by
  show cFun Tryz.prog 64 = some w64.toA.erase
  kernel_rfl
theorem kc65 : okT (65, w65.toA) := by
  show cFun Tryz.prog 65 = some w65.toA.erase
  kernel_rfl
theorem kc66 : okT (66, w66.toA) := by
  show cFun Tryz.prog 66 = some w66.toA.erase
  kernel_rfl
theorem kc67 : okT (67, w67.toA) := by
  show cFun Tryz.prog 67 = some w67.toA.erase
  kernel_rfl
theorem kc68 : okT (68, w68.toA) := by
  show cFun Tryz.prog 68 = some w68.toA.erase
  kernel_rfl
theorem kc69 : okT (69, w69.toA) := by
  show cFun Tryz.prog 69 = some w69.toA.erase
  kernel_rfl
theorem kc70 : okT (70, w70.toA) := by
  show cFun Tryz.prog 70 = some w70.toA.erase
  kernel_rfl
theorem kc71 : okT (71, w71.toA) := by
  show cFun Tryz.prog 71 = some w71.toA.erase
  kernel_rfl
theorem kc72 : okT (72, w72.toA) := by
  show cFun Tryz.prog 72 = some w72.toA.erase
  kernel_rfl
theorem kc73 : okT (73, w73.toA) := by
  show cFun Tryz.prog 73 = some w73.toA.erase
  kernel_rfl
theorem kc74 : okT (74, w74.toA) := by
  show cFun Tryz.prog 74 = some w74.toA.erase
  kernel_rfl
theorem kc75 : okT (75, w75.toA) := by
  show cFun Tryz.prog 75 = some w75.toA.erase
  kernel_rfl
theorem kc76 : okT (76, w76.toA) := by
  show cFun Tryz.prog 76 = some w76.toA.erase
  kernel_rfl
theorem kc77 : okT (77, w77.toA) := by
  show cFun Tryz.prog 77 = some w77.toA.erase
  kernel_rfl
theorem kc78 : okT (78, w78.toA) := by
  show cFun Tryz.prog 78 = some w78.toA.erase
  kernel_rfl
theorem kc79 : okT (79, w79.toA) := by
  show cFun Tryz.prog 79 = some w79.toA.erase
  kernel_rfl
theorem kc80 : okT (80, w80.toA) := by
  show cFun Tryz.prog 80 = some w80.toA.erase
  kernel_rfl
theorem kc81 : okT (81, w81.toA) := by
  show cFun Tryz.prog 81 = some w81.toA.erase
  kernel_rfl
theorem kc82 : okT (82, w82.toA) := by
  show cFun Tryz.prog 82 = some w82.toA.erase
  kernel_rfl
theorem kc83 : okT (83, w83.toA) := by
  show cFun Tryz.prog 83 = some w83.toA.erase
  kernel_rfl
theorem kc84 : okT (84, w84.toA) := by
  show cFun Tryz.prog 84 = some w84.toA.erase
  kernel_rfl
theorem kc85 : okT (85, w85.toA) := by
  show cFun Tryz.prog 85 = some w85.toA.erase
  kernel_rfl
theorem kc86 : okT (86, w86.toA) := by
  show cFun Tryz.prog 86 = some w86.toA.erase
  kernel_rfl
theorem kc87 : okT (87, w87.toA) := by
  show cFun Tryz.prog 87 = some w87.toA.erase
  kernel_rfl
theorem kc88 : okT (88, w88.toA) := by
  show cFun Tryz.prog 88 = some w88.toA.erase
  kernel_rfl
theorem kc89 : okT (89, w89.toA) := by
  show cFun Tryz.prog 89 = some w89.toA.erase
  kernel_rfl
theorem kc90 : okT (90, w90.toA) := by
  show cFun Tryz.prog 90 = some w90.toA.erase
  kernel_rfl
theorem kc91 : okT (91, w91.toA) := by
  show cFun Tryz.prog 91 = some w91.toA.erase
  kernel_rfl
theorem kc92 : okT (92, w92.toA) := by
  show cFun Tryz.prog 92 = some w92.toA.erase
  kernel_rfl
theorem kc93 : okT (93, w93.toA) := by
  show cFun Tryz.prog 93 = some w93.toA.erase
  kernel_rfl
theorem kc94 : okT (94, w94.toA) := by
  show cFun Tryz.prog 94 = some w94.toA.erase
  kernel_rfl
theorem kc95 : okT (95, w95.toA) := by
  show cFun Tryz.prog 95 = some w95.toA.erase
  kernel_rfl
theorem kc96 : okT (96, w96.toA) := by
  show cFun Tryz.prog 96 = some w96.toA.erase
  kernel_rfl
theorem kc97 : okT (97, w97.toA) := by
  show cFun Tryz.prog 97 = some w97.toA.erase
  kernel_rfl
theorem kc98 : okT (98, w98.toA) := by
  show cFun Tryz.prog 98 = some w98.toA.erase
  kernel_rfl
theorem kc99 : okT (99, w99.toA) := by
  show cFun Tryz.prog 99 = some w99.toA.erase
  kernel_rfl
theorem kc100 : okT (100, w100.toA) := by
  show cFun Tryz.prog 100 = some w100.toA.erase
  kernel_rfl
theorem kc101 : okT (101, w101.toA) := by
  show cFun Tryz.prog 101 = some w101.toA.erase
  kernel_rfl
theorem kc102 : okT (102, w102.toA) := by
  show cFun Tryz.prog 102 = some w102.toA.erase
  kernel_rfl
theorem kc103 : okT (103, w103.toA) := by
  show cFun Tryz.prog 103 = some w103.toA.erase
  kernel_rfl
theorem kc104 : okT (104, w104.toA) := by
  show cFun Tryz.prog 104 = some w104.toA.erase
  kernel_rfl
theorem kc105 : okT (105, w105.toA) := by
  show cFun Tryz.prog 105 = some w105.toA.erase
  kernel_rfl
theorem kc106 : okT (106, w106.toA) := by
  show cFun Tryz.prog 106 = some w106.toA.erase
  kernel_rfl
theorem kc107 : okT (107, w107.toA) := by
  show cFun Tryz.prog 107 = some w107.toA.erase
  kernel_rfl
theorem kc108 : okT (108, w108.toA) := by
  show cFun Tryz.prog 108 = some w108.toA.erase
  kernel_rfl
theorem kc109 : okT (109, w109.toA) := by
  show cFun Tryz.prog 109 = some w109.toA.erase
  kernel_rfl
theorem kc110 : okT (110, w110.toA) := by
  show cFun Tryz.prog 110 = some w110.toA.erase
  kernel_rfl
theorem kc111 : okT (111, w111.toA) := by
  show cFun Tryz.prog 111 = some w111.toA.erase
  kernel_rfl
theorem kc112 : okT (112, w112.toA) := by
  show cFun Tryz.prog 112 = some w112.toA.erase
  kernel_rfl
theorem kc113 : okT (113, w113.toA) := by
  show cFun Tryz.prog 113 = some w113.toA.erase
  kernel_rfl
theorem kc114 : okT (114, w114.toA) := by
  show cFun Tryz.prog 114 = some w114.toA.erase
  kernel_rfl
theorem kc115 : okT (115, w115.toA) := by
  show cFun Tryz.prog 115 = some w115.toA.erase
  kernel_rfl
theorem kc116 : okT (116, w116.toA) := by
  show cFun Tryz.prog 116 = some w116.toA.erase
  kernel_rfl
theorem kc117 : okT (117, w117.toA) := by
  show cFun Tryz.prog 117 = some w117.toA.erase
  kernel_rfl
theorem kc118 : okT (118, w118.toA) := by
  show cFun Tryz.prog 118 = some w118.toA.erase
  kernel_rfl
theorem kc119 : okT (119, w119.toA) := by
  show cFun Tryz.prog 119 = some w119.toA.erase
  kernel_rfl
theorem kc120 : okT (120, w120.toA) := by
  show cFun Tryz.prog 120 = some w120.toA.erase
  kernel_rfl
theorem kc121 : okT (121, w121.toA) := by
  show cFun Tryz.prog 121 = some w121.toA.erase
  kernel_rfl
theorem kc122 : okT (122, w122.toA) := by
  show cFun Tryz.prog 122 = some w122.toA.erase
  kernel_rfl
theorem kc123 : okT (123, w123.toA) := by
  show cFun Tryz.prog 123 = some w123.toA.erase
  kernel_rfl
theorem kc124 : okT (124, w124.toA) := by
  show cFun Tryz.prog 124 = some w124.toA.erase
  kernel_rfl
theorem kc125 : okT (125, w125.toA) := by
  show cFun Tryz.prog 125 = some w125.toA.erase
  kernel_rfl
theorem kc126 : okT (126, w126.toA) := by
  show cFun Tryz.prog 126 = some w126.toA.erase
  kernel_rfl
theorem kc127 : okT (127, w127.toA) := by
  show cFun Tryz.prog 127 = some w127.toA.erase
  kernel_rfl
theorem kc128 : okT (128, w128.toA) := by
  show cFun Tryz.prog 128 = some w128.toA.erase
  kernel_rfl
theorem kc129 : okT (129, w129.toA) := by
  show cFun Tryz.prog 129 = some w129.toA.erase
  kernel_rfl
theorem kc130 : okT (130, w130.toA) := by
  show cFun Tryz.prog 130 = some w130.toA.erase
  kernel_rfl
theorem kc131 : okT (131, w131.toA) := by
  show cFun Tryz.prog 131 = some w131.toA.erase
  kernel_rfl
theorem kc132 : okT (132, w132.toA) := by
  show cFun Tryz.prog 132 = some w132.toA.erase
  kernel_rfl
theorem kc133 : okT (133, w133.toA) := by
  show cFun Tryz.prog 133 = some w133.toA.erase
  kernel_rfl
theorem kc134 : okT (134, w134.toA) := by
  show cFun Tryz.prog 134 = some w134.toA.erase
  kernel_rfl
theorem kc135 : okT (135, w135.toA) := by
  show cFun Tryz.prog 135 = some w135.toA.erase
  kernel_rfl
theorem kc136 : okT (136, w136.toA) := by
  show cFun Tryz.prog 136 = some w136.toA.erase
  kernel_rfl
theorem kc137 : okT (137, w137.toA) := by
  show cFun Tryz.prog 137 = some w137.toA.erase
  kernel_rfl
theorem kc138 : okT (138, w138.toA) := by
  show cFun Tryz.prog 138 = some w138.toA.erase
  kernel_rfl
theorem kc139 : okT (139, w139.toA) := by
  show cFun Tryz.prog 139 = some w139.toA.erase
  kernel_rfl
theorem kc140 : okT (140, w140.toA) := by
  show cFun Tryz.prog 140 = some w140.toA.erase
  kernel_rfl
theorem kc141 : okT (141, w141.toA) := by
  show cFun Tryz.prog 141 = some w141.toA.erase
  kernel_rfl
theorem kc142 : okT (142, w142.toA) := by
  show cFun Tryz.prog 142 = some w142.toA.erase
  kernel_rfl
theorem kc143 : okT (143, w143.toA) := by
  show cFun Tryz.prog 143 = some w143.toA.erase
  kernel_rfl
theorem kc147 : okT (147, w147.toA) := by
  show cFun Tryz.prog 147 = some w147.toA.erase
  kernel_rfl
theorem kc148 : okT (148, w148.toA) := by
  show cFun Tryz.prog 148 = some w148.toA.erase
  kernel_rfl
theorem kc149 : okT (149, w149.toA) := by
  show cFun Tryz.prog 149 = some w149.toA.erase
  kernel_rfl
theorem kc150 : okT (150, w150.toA) := by
  show cFun Tryz.prog 150 = some w150.toA.erase
  kernel_rfl
theorem kc151 : okT (151, w151.toA) := by
  show cFun Tryz.prog 151 = some w151.toA.erase
  kernel_rfl
theorem kc152 : okT (152, w152.toA) := by
  show cFun Tryz.prog 152 = some w152.toA.erase
  kernel_rfl
theorem kc153 : okT (153, w153.toA) := by
  show cFun Tryz.prog 153 = some w153.toA.erase
  kernel_rfl
theorem kc154 : okT (154, w154.toA) := by
  show cFun Tryz.prog 154 = some w154.toA.erase
  kernel_rfl
theorem kc155 : okT (155, w155.toA) := by
  show cFun Tryz.prog 155 = some w155.toA.erase
  kernel_rfl
theorem kc156 : okT (156, w156.toA) := by
  show cFun Tryz.prog 156 = some w156.toA.erase
  kernel_rfl
theorem kc157 : okT (157, w157.toA) := by
  show cFun Tryz.prog 157 = some w157.toA.erase
  kernel_rfl
theorem kc158 : okT (158, w158.toA) := by
  show cFun Tryz.prog 158 = some w158.toA.erase
  kernel_rfl
theorem kc159 : okT (159, w159.toA) := by
  show cFun Tryz.prog 159 = some w159.toA.erase
  kernel_rfl
theorem kc160 : okT (160, w160.toA) := by
  show cFun Tryz.prog 160 = some w160.toA.erase
  kernel_rfl
theorem kc161 : okT (161, w161.toA) := by
  show cFun Tryz.prog 161 = some w161.toA.erase
  kernel_rfl
theorem kc162 : okT (162, w162.toA) := by
  show cFun Tryz.prog 162 = some w162.toA.erase
  kernel_rfl
theorem kc163 : okT (163, w163.toA) := by
  show cFun Tryz.prog 163 = some w163.toA.erase
  kernel_rfl
theorem kc164 : okT (164, w164.toA) := by
  show cFun Tryz.prog 164 = some w164.toA.erase
  kernel_rfl
theorem kc165 : okT (165, w165.toA) := by
  show cFun Tryz.prog 165 = some w165.toA.erase
  kernel_rfl
theorem kc166 : okT (166, w166.toA) := by
  show cFun Tryz.prog 166 = some w166.toA.erase
  kernel_rfl
theorem kc167 : okT (167, w167.toA) := by
  show cFun Tryz.prog 167 = some w167.toA.erase
  kernel_rfl
theorem kc168 : okT (168, w168.toA) := by
  show cFun Tryz.prog 168 = some w168.toA.erase
  kernel_rfl
theorem kc169 : okT (169, w169.toA) := by
  show cFun Tryz.prog 169 = some w169.toA.erase
  kernel_rfl
theorem kc170 : okT (170, w170.toA) := by
  show cFun Tryz.prog 170 = some w170.toA.erase
  kernel_rfl
theorem kc171 : okT (171, w171.toA) := by
  show cFun Tryz.prog 171 = some w171.toA.erase
  kernel_rfl
theorem kc172 : okT (172, w172.toA) := by
  show cFun Tryz.prog 172 = some w172.toA.erase
  kernel_rfl
theorem kc173 : okT (173, w173.toA) := by
  show cFun Tryz.prog 173 = some w173.toA.erase
  kernel_rfl
theorem kc174 : okT (174, w174.toA) := by
  show cFun Tryz.prog 174 = some w174.toA.erase
  kernel_rfl
theorem kc175 : okT (175, w175.toA) := by
  show cFun Tryz.prog 175 = some w175.toA.erase
  kernel_rfl
theorem kc176 : okT (176, w176.toA) := by
  show cFun Tryz.prog 176 = some w176.toA.erase
  kernel_rfl
theorem kc177 : okT (177, w177.toA) := by
  show cFun Tryz.prog 177 = some w177.toA.erase
  kernel_rfl
theorem kc178 : okT (178, w178.toA) := by
  show cFun Tryz.prog 178 = some w178.toA.erase
  kernel_rfl
theorem kc179 : okT (179, w179.toA) := by
  show cFun Tryz.prog 179 = some w179.toA.erase
  kernel_rfl
theorem kc180 : okT (180, w180.toA) := by
  show cFun Tryz.prog 180 = some w180.toA.erase
  kernel_rfl
theorem kc181 : okT (181, w181.toA) := by
  show cFun Tryz.prog 181 = some w181.toA.erase
  kernel_rfl
theorem kc182 : okT (182, w182.toA) := by
  show cFun Tryz.prog 182 = some w182.toA.erase
  kernel_rfl
theorem kc183 : okT (183, w183.toA) := by
  show cFun Tryz.prog 183 = some w183.toA.erase
  kernel_rfl
theorem kc185 : okT (185, w185.toA) := by
  show cFun Tryz.prog 185 = some w185.toA.erase
  kernel_rfl
theorem kc186 : okT (186, w186.toA) := by
  show cFun Tryz.prog 186 = some w186.toA.erase
  kernel_rfl
theorem kc187 : okT (187, w187.toA) := by
  show cFun Tryz.prog 187 = some w187.toA.erase
  kernel_rfl
theorem kc188 : okT (188, w188.toA) := by
  show cFun Tryz.prog 188 = some w188.toA.erase
  kernel_rfl
theorem kc189 : okT (189, w189.toA) := by
  show cFun Tryz.prog 189 = some w189.toA.erase
  kernel_rfl
theorem kc190 : okT (190, w190.toA) := by
  show cFun Tryz.prog 190 = some w190.toA.erase
  kernel_rfl
theorem kc191 : okT (191, w191.toA) := by
  show cFun Tryz.prog 191 = some w191.toA.erase
  kernel_rfl
theorem kc192 : okT (192, w192.toA) := by
  show cFun Tryz.prog 192 = some w192.toA.erase
  kernel_rfl
theorem kc196 : okT (196, w196.toA) := by
  show cFun Tryz.prog 196 = some w196.toA.erase
  kernel_rfl
theorem kc197 : okT (197, w197.toA) := by
  show cFun Tryz.prog 197 = some w197.toA.erase
  kernel_rfl
theorem kc198 : okT (198, w198.toA) := by
  show cFun Tryz.prog 198 = some w198.toA.erase
  kernel_rfl
theorem kc199 : okT (199, w199.toA) := by
  show cFun Tryz.prog 199 = some w199.toA.erase
  kernel_rfl
theorem kc200 : okT (200, w200.toA) := by
  show cFun Tryz.prog 200 = some w200.toA.erase
  kernel_rfl
theorem kc201 : okT (201, w201.toA) := by
  show cFun Tryz.prog 201 = some w201.toA.erase
  kernel_rfl
theorem kc202 : okT (202, w202.toA) := by
  show cFun Tryz.prog 202 = some w202.toA.erase
  kernel_rfl
theorem kc203 : okT (203, w203.toA) := by
  show cFun Tryz.prog 203 = some w203.toA.erase
  kernel_rfl
theorem kc217 : okT (217, w217.toA) := by
  show cFun Tryz.prog 217 = some w217.toA.erase
  kernel_rfl
theorem kc218 : okT (218, w218.toA) := by
  show cFun Tryz.prog 218 = some w218.toA.erase
  kernel_rfl
theorem kc230 : okT (230, w230.toA) := by
  show cFun Tryz.prog 230 = some w230.toA.erase
  kernel_rfl
theorem kc251 : okT (251, w251.toA) := by
  show cFun Tryz.prog 251 = some w251.toA.erase
  kernel_rfl
theorem kc252 : okT (252, w252.toA) := by
  show cFun Tryz.prog 252 = some w252.toA.erase
  kernel_rfl
theorem kc254 : okT (254, w254.toA) := by
  show cFun Tryz.prog 254 = some w254.toA.erase
  kernel_rfl
theorem kc255 : okT (255, w255.toA) := by
  show cFun Tryz.prog 255 = some w255.toA.erase
  kernel_rfl
theorem kc256 : okT (256, w256.toA) := by
  show cFun Tryz.prog 256 = some w256.toA.erase
  kernel_rfl
theorem kc257 : okT (257, w257.toA) := by
  show cFun Tryz.prog 257 = some w257.toA.erase
  kernel_rfl
theorem kc258 : okT (258, w258.toA) := by
  show cFun Tryz.prog 258 = some w258.toA.erase
  kernel_rfl
theorem kc259 : okT (259, w259.toA) := by
  show cFun Tryz.prog 259 = some w259.toA.erase
  kernel_rfl
theorem kc260 : okT (260, w260.toA) := by
  show cFun Tryz.prog 260 = some w260.toA.erase
  kernel_rfl
theorem kc261 : okT (261, w261.toA) := by
  show cFun Tryz.prog 261 = some w261.toA.erase
  kernel_rfl
theorem kc262 : okT (262, w262.toA) := by
  show cFun Tryz.prog 262 = some w262.toA.erase
  kernel_rfl
theorem kc263 : okT (263, w263.toA) := by
  show cFun Tryz.prog 263 = some w263.toA.erase
  kernel_rfl
theorem kc270 : okT (270, w270.toA) := by
  show cFun Tryz.prog 270 = some w270.toA.erase
  kernel_rfl
theorem kc273 : okT (273, w273.toA) := by
  show cFun Tryz.prog 273 = some w273.toA.erase
  kernel_rfl
theorem kc274 : okT (274, w274.toA) := by
  show cFun Tryz.prog 274 = some w274.toA.erase
  kernel_rfl
theorem kc275 : okT (275, w275.toA) := by
  show cFun Tryz.prog 275 = some w275.toA.erase
  kernel_rfl
theorem kc278 : okT (278, w278.toA) := by
  show cFun Tryz.prog 278 = some w278.toA.erase
  kernel_rfl
theorem kc285 : okT (285, w285.toA) := by
  show cFun Tryz.prog 285 = some w285.toA.erase
  kernel_rfl
theorem kc289 : okT (289, w289.toA) := by
  show cFun Tryz.prog 289 = some w289.toA.erase
  kernel_rfl
theorem kc290 : okT (290, w290.toA) := by
  show cFun Tryz.prog 290 = some w290.toA.erase
  kernel_rfl
theorem kc291 : okT (291, w291.toA) := by
  show cFun Tryz.prog 291 = some w291.toA.erase
  kernel_rfl
theorem kc292 : okT (292, w292.toA) := by
  show cFun Tryz.prog 292 = some w292.toA.erase
  kernel_rfl
theorem kc295 : okT (295, w295.toA) := by
  show cFun Tryz.prog 295 = some w295.toA.erase
  kernel_rfl
theorem kc296 : okT (296, w296.toA) := by
  show cFun Tryz.prog 296 = some w296.toA.erase
  kernel_rfl
theorem kc304 : okT (304, w304.toA) := by
  show cFun Tryz.prog 304 = some w304.toA.erase
  kernel_rfl
theorem kc307 : okT (307, w307.toA) := by
  show cFun Tryz.prog 307 = some w307.toA.erase
  kernel_rfl
theorem kc308 : okT (308, w308.toA) := by
  show cFun Tryz.prog 308 = some w308.toA.erase
  kernel_rfl
theorem kc309 : okT (309, w309.toA) := by
  show cFun Tryz.prog 309 = some w309.toA.erase
  kernel_rfl
theorem kc310 : okT (310, w310.toA) := by
  show cFun Tryz.prog 310 = some w310.toA.erase
  kernel_rfl
theorem kc311 : okT (311, w311.toA) := by
  show cFun Tryz.prog 311 = some w311.toA.erase
  kernel_rfl
theorem kc313 : okT (313, w313.toA) := by
  show cFun Tryz.prog 313 = some w313.toA.erase
  kernel_rfl
theorem kc314 : okT (314, w314.toA) := by
  show cFun Tryz.prog 314 = some w314.toA.erase
  kernel_rfl
theorem kc315 : okT (315, w315.toA) := by
  show cFun Tryz.prog 315 = some w315.toA.erase
  kernel_rfl
theorem kc316 : okT (316, w316.toA) := by
  show cFun Tryz.prog 316 = some w316.toA.erase
  kernel_rfl
theorem kc317 : okT (317, w317.toA) := by
  show cFun Tryz.prog 317 = some w317.toA.erase
  kernel_rfl
theorem kc318 : okT (318, w318.toA) := by
  show cFun Tryz.prog 318 = some w318.toA.erase
  kernel_rfl
theorem kc319 : okT (319, w319.toA) := by
  show cFun Tryz.prog 319 = some w319.toA.erase
  kernel_rfl
theorem kc320 : okT (320, w320.toA) := by
  show cFun Tryz.prog 320 = some w320.toA.erase
  kernel_rfl
theorem kc324 : okT (324, w324.toA) := by
  show cFun Tryz.prog 324 = some w324.toA.erase
  kernel_rfl
theorem kc325 : okT (325, w325.toA) := by
  show cFun Tryz.prog 325 = some w325.toA.erase
  kernel_rfl
theorem kc326 : okT (326, w326.toA) := by
  show cFun Tryz.prog 326 = some w326.toA.erase
  kernel_rfl
theorem kc327 : okT (327, w327.toA) := by
  show cFun Tryz.prog 327 = some w327.toA.erase
  kernel_rfl
theorem kc329 : okT (329, w329.toA) := by
  show cFun Tryz.prog 329 = some w329.toA.erase
  kernel_rfl
theorem kc330 : okT (330, w330.toA) := by
  show cFun Tryz.prog 330 = some w330.toA.erase
  kernel_rfl
theorem kc331 : okT (331, w331.toA) := by
  show cFun Tryz.prog 331 = some w331.toA.erase
  kernel_rfl
theorem kc332 : okT (332, w332.toA) := by
  show cFun Tryz.prog 332 = some w332.toA.erase
  kernel_rfl
theorem kc333 : okT (333, w333.toA) := by
  show cFun Tryz.prog 333 = some w333.toA.erase
  kernel_rfl
theorem kc334 : okT (334, w334.toA) := by
  show cFun Tryz.prog 334 = some w334.toA.erase
  kernel_rfl
theorem kc338 : okT (338, w338.toA) := by
  show cFun Tryz.prog 338 = some w338.toA.erase
  kernel_rfl
theorem kc339 : okT (339, w339.toA) := by
  show cFun Tryz.prog 339 = some w339.toA.erase
  kernel_rfl
theorem kc340 : okT (340, w340.toA) := by
  show cFun Tryz.prog 340 = some w340.toA.erase
  kernel_rfl
theorem kc346 : okT (346, w346.toA) := by
  show cFun Tryz.prog 346 = some w346.toA.erase
  kernel_rfl
theorem kc352 : okT (352, w352.toA) := by
  show cFun Tryz.prog 352 = some w352.toA.erase
  kernel_rfl
theorem kc354 : okT (354, w354.toA) := by
  show cFun Tryz.prog 354 = some w354.toA.erase
  kernel_rfl
theorem kc356 : okT (356, w356.toA) := by
  show cFun Tryz.prog 356 = some w356.toA.erase
  kernel_rfl
theorem kc357 : okT (357, w357.toA) := by
  show cFun Tryz.prog 357 = some w357.toA.erase
  kernel_rfl
theorem kc358 : okT (358, w358.toA) := by
  show cFun Tryz.prog 358 = some w358.toA.erase
  kernel_rfl
theorem kc359 : okT (359, w359.toA) := by
  show cFun Tryz.prog 359 = some w359.toA.erase
  kernel_rfl
theorem kc360 : okT (360, w360.toA) := by
  show cFun Tryz.prog 360 = some w360.toA.erase
  kernel_rfl
theorem kc363 : okT (363, w363.toA) := by
  show cFun Tryz.prog 363 = some w363.toA.erase
  kernel_rfl
theorem tab_ok : ∀ x ∈ tab, cFun Tryz.prog x.1 = some x.2.erase :=
  okT_c kc3 <| okT_c kc4 <| okT_c kc5 <| okT_c kc6 <| okT_c kc7 <| okT_c kc8 <| okT_c kc9 <| okT_c kc10 <| okT_c kc11 <| okT_c kc12 <| okT_c kc13 <| okT_c kc14 <| okT_c kc15 <| okT_c kc16 <| okT_c kc17 <| okT_c kc18 <| okT_c kc19 <| okT_c kc20 <| okT_c kc21 <| okT_c kc22 <| okT_c kc23 <| okT_c kc24 <| okT_c kc25 <| okT_c kc26 <| okT_c kc27 <| okT_c kc28 <| okT_c kc29 <| okT_c kc30 <| okT_c kc31 <| okT_c kc32 <| okT_c kc33 <| okT_c kc34 <| okT_c kc35 <| okT_c kc36 <| okT_c kc37 <| okT_c kc38 <| okT_c kc39 <| okT_c kc40 <| okT_c kc42 <| okT_c kc43 <| okT_c kc44 <| okT_c kc45 <| okT_c kc46 <| okT_c kc47 <| okT_c kc48 <| okT_c kc49 <| okT_c kc50 <| okT_c kc51 <| okT_c kc52 <| okT_c kc53 <| okT_c kc54 <| okT_c kc55 <| okT_c kc56 <| okT_c kc57 <| okT_c kc58 <| okT_c kc59 <| okT_c kc60 <| okT_c kc61 <| okT_c kc62 <| okT_c kc63 <| okT_c kc64 <| okT_c kc65 <| okT_c kc66 <| okT_c kc67 <| okT_c kc68 <| okT_c kc69 <| okT_c kc70 <| okT_c kc71 <| okT_c kc72 <| okT_c kc73 <| okT_c kc74 <| okT_c kc75 <| okT_c kc76 <| okT_c kc77 <| okT_c kc78 <| okT_c kc79 <| okT_c kc80 <| okT_c kc81 <| okT_c kc82 <| okT_c kc83 <| okT_c kc84 <| okT_c kc85 <| okT_c kc86 <| okT_c kc87 <| okT_c kc88 <| okT_c kc89 <| okT_c kc90 <| okT_c kc91 <| okT_c kc92 <| okT_c kc93 <| okT_c kc94 <| okT_c kc95 <| okT_c kc96 <| okT_c kc97 <| okT_c kc98 <| okT_c kc99 <| okT_c kc100 <| okT_c kc101 <| okT_c kc102 <| okT_c kc103 <| okT_c kc104 <| okT_c kc105 <| okT_c kc106 <| okT_c kc107 <| okT_c kc108 <| okT_c kc109 <| okT_c kc110 <| okT_c kc111 <| okT_c kc112 <| okT_c kc113 <| okT_c kc114 <| okT_c kc115 <| okT_c kc116 <| okT_c kc117 <| okT_c kc118 <| okT_c kc119 <| okT_c kc120 <| okT_c kc121 <| okT_c kc122 <| okT_c kc123 <| okT_c kc124 <| okT_c kc125 <| okT_c kc126 <| okT_c kc127 <| okT_c kc128 <| okT_c kc129 <| okT_c kc130 <| okT_c kc131 <| okT_c kc132 <| okT_c kc133 <| okT_c kc134 <| okT_c kc135 <| okT_c kc136 <| okT_c kc137 <| okT_c kc138 <| okT_c kc139 <| okT_c kc140 <| okT_c kc141 <| okT_c kc142 <| okT_c kc143 <| okT_c kc147 <| okT_c kc148 <| okT_c kc149 <| okT_c kc150 <| okT_c kc151 <| okT_c kc152 <| okT_c kc153 <| okT_c kc154 <| okT_c kc155 <| okT_c kc156 <| okT_c kc157 <| okT_c kc158 <| okT_c kc159 <| okT_c kc160 <| okT_c kc161 <| okT_c kc162 <| okT_c kc163 <| okT_c kc164 <| okT_c kc165 <| okT_c kc166 <| okT_c kc167 <| okT_c kc168 <| okT_c kc169 <| okT_c kc170 <| okT_c kc171 <| okT_c kc172 <| okT_c kc173 <| okT_c kc174 <| okT_c kc175 <| okT_c kc176 <| okT_c kc177 <| okT_c kc178 <| okT_c kc179 <| okT_c kc180 <| okT_c kc181 <| okT_c kc182 <| okT_c kc183 <| okT_c kc185 <| okT_c kc186 <| okT_c kc187 <| okT_c kc188 <| okT_c kc189 <| okT_c kc190 <| okT_c kc191 <| okT_c kc192 <| okT_c kc196 <| okT_c kc197 <| okT_c kc198 <| okT_c kc199 <| okT_c kc200 <| okT_c kc201 <| okT_c kc202 <| okT_c kc203 <| okT_c kc217 <| okT_c kc218 <| okT_c kc230 <| okT_c kc251 <| okT_c kc252 <| okT_c kc254 <| okT_c kc255 <| okT_c kc256 <| okT_c kc257 <| okT_c kc258 <| okT_c kc259 <| okT_c kc260 <| okT_c kc261 <| okT_c kc262 <| okT_c kc263 <| okT_c kc270 <| okT_c kc273 <| okT_c kc274 <| okT_c kc275 <| okT_c kc278 <| okT_c kc285 <| okT_c kc289 <| okT_c kc290 <| okT_c kc291 <| okT_c kc292 <| okT_c kc295 <| okT_c kc296 <| okT_c kc304 <| okT_c kc307 <| okT_c kc308 <| okT_c kc309 <| okT_c kc310 <| okT_c kc311 <| okT_c kc313 <| okT_c kc314 <| okT_c kc315 <| okT_c kc316 <| okT_c kc317 <| okT_c kc318 <| okT_c kc319 <| okT_c kc320 <| okT_c kc324 <| okT_c kc325 <| okT_c kc326 <| okT_c kc327 <| okT_c kc329 <| okT_c kc330 <| okT_c kc331 <| okT_c kc332 <| okT_c kc333 <| okT_c kc334 <| okT_c kc338 <| okT_c kc339 <| okT_c kc340 <| okT_c kc346 <| okT_c kc352 <| okT_c kc354 <| okT_c kc356 <| okT_c kc357 <| okT_c kc358 <| okT_c kc359 <| okT_c kc360 <| okT_c kc363 <| okT_n
theorem k3 : okW w3.code = true := by kernel_rfl
theorem k4 : okW w4.code = true := by kernel_rfl
theorem k5 : okW w5.code = true := by kernel_rfl
theorem k12 : okW w12.code = true := by kernel_rfl
theorem k17 : okW w17.code = true := by kernel_rfl
theorem k24 : okW w24.code = true := by kernel_rfl
theorem k25 : okW w25.code = true := by kernel_rfl
theorem k26 : okW w26.code = true := by kernel_rfl
theorem k27 : okW w27.code = true := by kernel_rfl
theorem k28 : okW w28.code = true := by kernel_rfl
theorem k39 : okW w39.code = true := by kernel_rfl
theorem k43 : okW w43.code = true := by kernel_rfl
theorem k44 : okW w44.code = true := by kernel_rfl
theorem k45 : okW w45.code = true := by kernel_rfl
theorem k46 : okW w46.code = true := by kernel_rfl
theorem k47 : okW w47.code = true := by kernel_rfl
theorem k48 : okW w48.code = true := by kernel_rfl
theorem k49 : okW w49.code = true := by kernel_rfl
theorem k50 : okW w50.code = true := by kernel_rfl
theorem k51 : okW w51.code = true := by kernel_rfl
theorem k52 : okW w52.code = true := by kernel_rfl
theorem k53 : okW w53.code = true := by kernel_rfl
theorem k143 : okW w143.code = true := by kernel_rfl
theorem k157 : okW w157.code = true := by kernel_rfl
theorem k158 : okW w158.code = true := by kernel_rfl
theorem k159 : okW w159.code = true := by kernel_rfl
theorem k160 : okW w160.code = true := by kernel_rfl
theorem k161 : okW w161.code = true := by kernel_rfl
theorem k258 : okW w258.code = true := by kernel_rfl
theorem k263 : okW w263.code = true := by kernel_rfl
theorem k307 : okW w307.code = true := by kernel_rfl
theorem k354 : okW w354.code = true := by kernel_rfl
def bods (k : Nat) : Option ABody := none
theorem bods_ok (k : Nat) (ab : ABody) (h : bods k = some ab) : hasR ab.assign = false ∧ hasR ab.body = false := by
  unfold bods at h
  cases h
def lk : List (Nat × AFun) → FuncId → Option AFun
  | [], _ => none
  | (i, a) :: r, f => if f = i then some a else lk r f
theorem lk_mem : ∀ (t : List (Nat × AFun)) (f : FuncId) (a : AFun), lk t f = some a → (f, a) ∈ t
  | [], _, _, h => by cases h
  | (i, b) :: r, f, a, h => by
    unfold lk at h
    split at h
    · rename_i e; cases h; subst e; exact List.mem_cons_self ..
    · exact List.mem_cons_of_mem _ (lk_mem r f a h)
end Fz.D
set_option maxRecDepth 100000
namespace Fz.D
open Go Go.Proofs
def isInl (f : FuncId) : Bool := f == 33 || f == 34 || f == 47 || f == 48 || f == 71 || f == 72 || f == 74 || f == 75 || f == 76 || f == 78 || f == 79 || f == 80 || f == 132 || f == 143 || f == 157 || f == 158 || f == 159 || f == 160 || f == 162 || f == 163 || f == 164 || f == 165 || f == 166 || f == 170 || f == 172 || f == 173 || f == 251 || f == 252 || f == 254 || f == 255 || f == 256 || f == 257 || f == 258 || f == 259 || f == 260 || f == 262 || f == 263 || f == 270 || f == 273 || f == 274 || f == 278 || f == 289 || f == 290 || f == 291 || f == 292 || f == 295 || f == 296 || f == 304 || f == 308 || f == 309 || f == 313 || f == 338 || f == 339 || f == 340 || f == 354 || f == 363
def prim0 (f : FuncId) : Option (List V → List Ob → Option (V × List Ob)) := if f = 41 then some (liftP foldP) else if f = 378 then some (liftP idxP) else if f = 321 then some (liftP (primV .fbits)) else if f = 184 then some (liftP (primV .ffrom)) else if f = 322 then some (liftP (primV .sqrt)) else if f = 323 then some (liftP (primV (.integral .down))) else if f = 328 then some (liftP (primV (.integral .zero))) else none
def p0 : AP := { fn := lk tab, prim := prim0, inl := isInl, body := bods }
@[simp] theorem inl_eq0 (f : FuncId) : p0.inlY f = (f == 4000000000 || isInl f) := (rfl)
end Fz.D
set_option maxRecDepth 100000
namespace Fz.D
open Go Go.Proofs
theorem asc_all : ∀ b : Fin 256, asciiN[b.val]? = some (if isSp (UInt8.ofNat b.val) then 1 else 0) := by decide +kernel
theorem asc (b : UInt8) : asciiN[b.toNat]? = some (if isSp b then 1 else 0) := by
  have := asc_all ⟨b.toNat, b.toNat_lt⟩
  simpa using this
theorem asc_len : asciiN.length = 256 := by kernel_rfl
theorem asc1 (b : UInt8) : List.take 1 (List.drop b.toNat (asciiN.map (V.int .u8))) = [V.int .u8 (if isSp b then 1 else 0)] := by
  have h := asc b
  obtain ⟨h1, h2⟩ := List.getElem?_eq_some_iff.1 h
  rw [← List.map_drop, List.drop_eq_getElem_cons h1, h2]
  rfl
@[simp] theorem glA_pr (P : Nat → Nat → Prop) (R : List V → Prop) : wPR glA P R = R (asciiN.map (V.int .u8)) := (rfl)
theorem asc_ok (b : UInt8) : ((b.toNat : Int) < 256 ∧ b.toNat ≤ 256) ∧ 1 ≤ 256 - b.toNat := by
  have := b.toNat_lt
  omega
theorem u8_or (b : Int) (c : UInt8) (h0 : 0 ≤ b) (h1 : b < 128) (hc : c.toNat < 128) : 0 ≤ IntKind.u8.wrap ((((b % 2 ^ IntKind.u8.bits).toNat ||| c.toNat % 2 ^ IntKind.u8.bits) : Nat) : Int) ∧ IntKind.u8.wrap ((((b % 2 ^ IntKind.u8.bits).toNat ||| c.toNat % 2 ^ IntKind.u8.bits) : Nat) : Int) < 128 := by
  have e1 : (b % 2 ^ IntKind.u8.bits).toNat = b.toNat := by show (b % 256).toNat = _; omega
  have e2 : c.toNat % 2 ^ IntKind.u8.bits = c.toNat := by show c.toNat % 256 = _; omega
  have h2 : b.toNat ||| c.toNat < 2 ^ 7 := Nat.or_lt_two_pow (by omega) (by omega)
  rw [e1, e2]
  have : IntKind.u8.wrap ((b.toNat ||| c.toNat : Nat) : Int) = ((b.toNat ||| c.toNat : Nat) : Int) := by
    show ((b.toNat ||| c.toNat : Nat) : Int) % 256 = _
    omega
  rw [this]
  omega
theorem cntF_le : ∀ (l : List UInt8) (w : Bool), cntF l w ≤ l.length
  | [], _ => Nat.le_refl _
  | c :: r, w => by
    have := cntF_le r (isSp c)
    rw [cntF, List.length_cons]
    split <;> omega
theorem ext_list (l : List UInt8) (a b : Nat) : (ByteArray.mk l.toArray).extract a b = ⟨((l.drop a).take (b - a)).toArray⟩ := by
  apply ByteArray.ext
  rw [ByteArray.data_extract]
  simp
def wV (w : List UInt8) : V := .str ⟨w.toArray⟩
abbrev emp : V := .str ⟨#[]⟩
theorem tk_snoc {l : List UInt8} {fs i : Nat} (h1 : fs ≤ i) (h2 : i < l.length) : (l.drop fs).take (i + 1 - fs) = (l.drop fs).take (i - fs) ++ [l[i]] := by
  rw [show i + 1 - fs = i - fs + 1 from by omega, List.take_add_one]
  congr 1
  rw [List.getElem?_drop, show fs + (i - fs) = i from by omega, List.getElem?_eq_getElem h2]
  rfl
theorem words_no {c : UInt8} {r p : List UInt8} (h : isSp c = false) : wordsF (c :: r) p = wordsF r (p ++ [c]) := by
  rw [wordsF, if_neg (by rw [h]; exact Bool.false_ne_true)]
theorem words_sp {c : UInt8} {r p : List UInt8} (h : isSp c = true) (hp : p ≠ []) : wordsF (c :: r) p = p :: wordsF r [] := by
  cases p with
  | nil => exact absurd rfl hp
  | cons a p => rw [wordsF, if_pos h]; rfl
theorem fields_s {l : List UInt8} {n : Nat} (ha : ∀ c ∈ l, c.toNat < 128) (hs : l.length ≤ 100000) (hn : (wordsF l []).length = n) (hc : cntF l true = n) (hp : 0 < n) {Q : CR → List Ob → Prop}
    (hq : Q (.ret (.own 0 0 n 1)) [.live ((wordsF l []).map wV)]) : WFun p0 143 [.str ⟨l.toArray⟩] [] Q := by
  have hnl : n ≤ 100000 := by have := cntF_le l true; omega
  have hsz : (ByteArray.mk l.toArray).size = l.length := by simp [ByteArray.size]
  refine WFun_of w143 rfl rfl k143 ?_
  simp -dsimp [w143]
  refine xL_by (by kernel_rfl) (fun k e H => ∃ (i m : Nat) (w : Bool) (b : Int), i ≤ l.length ∧ k = l.length - i ∧ e 0 = .str ⟨l.toArray⟩ ∧ e 3 = .int .i64 m ∧ e 4 = .int .i64 (if w then 1 else 0) ∧ e 5 = .int .u8 b ∧ e 6 = .int .i64 i ∧ H = [] ∧ 0 ≤ b ∧ b < 128 ∧ m + cntF (l.drop i) w = n) l.length ?_ ?_
  · refine ⟨0, 0, true, 0, by omega, rfl, ?_⟩
    simp -dsimp [hc]
  · rintro k e H ⟨i, m, w, b, hi, hk, h0, h3, h4, h5, h6, rfl, hb0, hb1, hm⟩
    by_cases c1 : i < l.length
    · have hq1 := asc_ok l[i]
      have hq2 := asc1 l[i]
      have hor := u8_or b l[i] hb0 hb1 (ha _ (List.getElem_mem c1))
      generalize hd : IntKind.u8.wrap ((((b % 2 ^ IntKind.u8.bits).toNat ||| (l[i]).toNat % 2 ^ IntKind.u8.bits) : Nat) : Int) = d at hor
      rw [List.drop_eq_getElem_cons c1, cntF] at hm
      cases hsp : isSp l[i] <;> cases w <;> (rw [hsp] at hm hq2) <;> simp only [Bool.not_false, Bool.not_true, Bool.and_true, Bool.and_false, Bool.true_and, Bool.false_and, if_true, if_false, Bool.false_eq_true] at hm
      · simp -dsimp [h0, h3, h4, h5, h6, c1, hsz, asc_len, hq1, hq2, hsp]
        refine ⟨l.length - (i + 1), by omega, i + 1, m, false, d, by omega, rfl, ?_⟩
        simp -dsimp [h0, h3, h4, h5, h6, hd, hor]
        refine ⟨?_, rfl, Fz.w64 (by omega) (by omega), by omega⟩
        exact (Fz.w64 (by omega) (by omega) : IntKind.i64.wrap ((m : Int) + 0) = (m : Int) + 0).trans (by omega)
      · simp -dsimp [h0, h3, h4, h5, h6, c1, hsz, asc_len, hq1, hq2, hsp]
        refine ⟨l.length - (i + 1), by omega, i + 1, m + 1, false, d, by omega, rfl, ?_⟩
        simp -dsimp [h0, h3, h4, h5, h6, hd, hor]
        refine ⟨?_, rfl, Fz.w64 (by omega) (by omega), by omega⟩
        exact (Fz.w64 (by omega) (by omega) : IntKind.i64.wrap ((m : Int) + 1) = (m : Int) + 1)
      · simp -dsimp [h0, h3, h4, h5, h6, c1, hsz, asc_len, hq1, hq2, hsp]
        refine ⟨l.length - (i + 1), by omega, i + 1, m, true, d, by omega, rfl, ?_⟩
        simp -dsimp [h0, h3, h4, h5, h6, hd, hor]
        refine ⟨?_, rfl, Fz.w64 (by omega) (by omega), by omega⟩
        exact (Fz.w64 (by omega) (by omega) : IntKind.i64.wrap ((m : Int) + 0) = (m : Int) + 0).trans (by omega)
      · simp -dsimp [h0, h3, h4, h5, h6, c1, hsz, asc_len, hq1, hq2, hsp]
        refine ⟨l.length - (i + 1), by omega, i + 1, m, true, d, by omega, rfl, ?_⟩
        simp -dsimp [h0, h3, h4, h5, h6, hd, hor]
        refine ⟨?_, rfl, Fz.w64 (by omega) (by omega), by omega⟩
        exact (Fz.w64 (by omega) (by omega) : IntKind.i64.wrap ((m : Int) + 0) = (m : Int) + 0).trans (by omega)
    · have hii : i = l.length := by omega
      subst hii
      rw [List.drop_length, cntF, Nat.add_zero] at hm
      subst hm
      have c2 : ¬ (128 : Int) ≤ b := by omega
      simp -dsimp [h0, h3, h4, h5, h6, c1, hsz, c2]
      have hm0 : ¬ m = 0 := by omega
      refine ⟨by omega, ?_⟩
      rw [if_neg hm0]
      refine xL_by (by kernel_rfl) (fun k e H => ∃ (j : Nat), j ≤ l.length ∧ k = l.length - j ∧ e 0 = .str ⟨l.toArray⟩ ∧ e 9 = .own 0 0 m 1 ∧ e 10 = .int .i64 0 ∧ e 12 = .int .i64 j ∧ H = [.live (List.replicate m (.str ⟨#[]⟩))] ∧ wordsF (l.drop j) [] = wordsF l [] ∧ cntF (l.drop j) true = m) l.length ?_ ?_
      · refine ⟨0, by omega, rfl, ?_⟩
        simp -dsimp [h0, h3, hc]
      · rintro k e H ⟨j, hj, hk, h0, h9, h10, h12, rfl, hw, hcj⟩
        by_cases c3 : j < l.length
        · have hq1 := asc_ok l[j]
          have hq2 := asc1 l[j]
          cases hsp : isSp l[j]
          · rw [hsp] at hq2
            simp -dsimp [h0, h9, h10, h12, c3, hsz, asc_len, hq1, hq2, hsp]
            refine xL_by (by kernel_rfl) (fun k e H => ∃ (i fs : Nat) (acc : List (List UInt8)), fs ≤ i ∧ i ≤ l.length ∧ k = l.length - i ∧ e 0 = .str ⟨l.toArray⟩ ∧ e 9 = .own 0 0 m 1 ∧ e 10 = .int .i64 acc.length ∧ e 11 = .int .i64 fs ∧ e 12 = .int .i64 i ∧ H = [.live (acc.map wV ++ List.replicate (m - acc.length) emp)] ∧
              acc ++ wordsF (l.drop i) ((l.drop fs).take (i - fs)) = wordsF l [] ∧ acc.length + (if fs < i then 1 else 0) + cntF (l.drop i) (decide (fs = i)) = m ∧ (∀ h : i < l.length, fs = i → isSp l[i] = false)) (l.length - j) ?_ ?_
            · refine ⟨j, j, [], by omega, by omega, rfl, ?_⟩
              simp -dsimp [h0, h9, h10, h12, hw, hcj, hsp]
            rintro k e H ⟨i, fs, acc, hfi, hi, hk, h0, h9, h10, h11, h12, rfl, hw, hci, hst⟩
            by_cases c4 : i < l.length
            · have hq1 := asc_ok l[i]
              have hq2 := asc1 l[i]
              have hst := hst c4
              have hsub := List.drop_eq_getElem_cons c4
              cases hsp : isSp l[i]
              · rw [hsp] at hq2
                simp -dsimp [h0, h9, h10, h11, h12, c4, hsz, asc_len, hq1, hq2, hsp]
                refine ⟨l.length - (i + 1), by omega, i + 1, fs, acc, by omega, by omega, rfl, ?_⟩
                simp -dsimp [h0, h9, h10, h11, h12]
                rw [hsub, words_no hsp] at hw
                rw [hsub, cntF, hsp] at hci
                refine ⟨Fz.w64 (by omega) (by omega), by rw [tk_snoc hfi c4]; exact hw, ?_, by omega⟩
                rw [if_pos (by omega), decide_eq_false (by omega)]
                by_cases c5 : fs = i
                · rw [if_neg (by omega), decide_eq_true c5] at hci
                  simp at hci; omega
                · rw [if_pos (by omega), decide_eq_false c5] at hci
                  simp at hci; omega
              · rw [hsp] at hq2
                have hlt : fs < i := by
                  rcases Nat.lt_or_ge fs i with h | h
                  · exact h
                  · have := hst (by omega); rw [hsp] at this; cases this
                have hpne : (l.drop fs).take (i - fs) ≠ [] := by
                  intro h
                  have := congrArg List.length h
                  simp at this; omega
                rw [hsub, words_sp hsp hpne] at hw
                rw [hsub, cntF, hsp, if_pos hlt] at hci
                simp at hci
                have hac : acc.length < m := by omega
                have hrep : List.replicate (m - acc.length) emp = emp :: List.replicate (m - (acc.length + 1)) emp := by
                  rw [show m - acc.length = m - (acc.length + 1) + 1 from by omega]; rfl
                have w1 : IntKind.i64.wrap ((acc.length : Int) + 1) = (acc.length : Int) + 1 := Fz.w64 (by omega) (by omega)
                have w2 : IntKind.i64.wrap ((i : Int) + 1) = (i : Int) + 1 := Fz.w64 (by omega) (by omega)
                simp -dsimp [h0, h9, h10, h11, h12, c4, hsz, asc_len, hq1, hq2, hsp, w1, w2]
                refine ⟨⟨hfi, hi⟩, hac, by omega, ?_⟩
                refine xL_by (by kernel_rfl) (fun k e H => ∃ (q : Nat), i + 1 ≤ q ∧ q ≤ l.length ∧ k = l.length - q ∧ e 0 = .str ⟨l.toArray⟩ ∧ e 9 = .own 0 0 m 1 ∧ e 10 = .int .i64 ((acc.length : Int) + 1) ∧ e 12 = .int .i64 q ∧ H = [.live ((acc ++ [(l.drop fs).take (i - fs)]).map wV ++ List.replicate (m - (acc.length + 1)) emp)] ∧ wordsF (l.drop q) [] = wordsF (l.drop (i + 1)) [] ∧ cntF (l.drop q) true = cntF (l.drop (i + 1)) true) (l.length - (i + 1)) ?_ ?_
                · refine ⟨i + 1, by omega, by omega, rfl, ?_⟩
                  have hdrop : List.drop (acc.length + 1) (List.map wV acc ++ List.replicate (m - acc.length) emp) = List.replicate (m - (acc.length + 1)) emp := by
                    rw [List.drop_append, List.length_map, List.drop_eq_nil_of_le (by simp), List.nil_append, List.drop_replicate]
                    congr 1; omega
                  simp -dsimp [h0, h9, h10, h11, h12]
                  exact ⟨by rw [ext_list]; rfl, hdrop⟩
                rintro k e H ⟨q, hq, hql, hk, h0, h9, h10, h12, rfl, hwq, hcq⟩
                by_cases c6 : q < l.length
                · have hq1 := asc_ok l[q]
                  have hq2 := asc1 l[q]
                  cases hsp2 : isSp l[q]
                  · rw [hsp2] at hq2
                    simp -dsimp [h0, h9, h10, h12, c6, hsz, asc_len, hq1, hq2, hsp2]
                    refine ⟨l.length - q, by omega, q, q, acc ++ [(l.drop fs).take (i - fs)], by omega, by omega, rfl, ?_⟩
                    simp -dsimp [h0, h9, h10, h12]
                    refine ⟨?_, ?_, ?_⟩
                    · rw [hwq]; exact hw
                    · rw [hcq]; omega
                    · intro _; exact hsp2
                  · rw [hsp2] at hq2
                    rw [List.drop_eq_getElem_cons c6, cntF, hsp2] at hcq
                    rw [List.drop_eq_getElem_cons c6, wordsF, hsp2] at hwq
                    simp -dsimp [h0, h9, h10, h12, c6, hsz, asc_len, hq1, hq2, hsp2]
                    refine ⟨l.length - (q + 1), by omega, q + 1, by omega, by omega, rfl, ?_⟩
                    simp -dsimp [h0, h9, h10, h12]
                    refine ⟨Fz.w64 (by omega) (by omega), by simpa using hwq, by simpa using hcq⟩
                · simp -dsimp [h0, h9, h10, h12, c6, hsz]
                  refine ⟨l.length - q, by omega, q, q, acc ++ [(l.drop fs).take (i - fs)], by omega, by omega, rfl, ?_⟩
                  simp -dsimp [h0, h9, h10, h12]
                  refine ⟨?_, ?_, ?_⟩
                  · rw [hwq]; exact hw
                  · rw [hcq]; omega
                  · intro h; omega
            · have hii : i = l.length := by omega
              subst hii
              by_cases c5 : fs < l.length
              · rw [if_pos c5, List.drop_length, cntF] at hci
                have hpne : (l.drop fs).take (l.length - fs) ≠ [] := by
                  intro h
                  have := congrArg List.length h
                  simp at this; omega
                have hwe : wordsF [] ((l.drop fs).take (l.length - fs)) = [(l.drop fs).take (l.length - fs)] := by
                  cases hx : (l.drop fs).take (l.length - fs) with
                  | nil => exact absurd hx hpne
                  | cons a r => rfl
                rw [List.drop_length, hwe] at hw
                simp -dsimp [h0, h9, h10, h11, h12, c5, hsz]
                refine ⟨hfi, by omega, by omega, ?_⟩
                have hdrop : List.drop (acc.length + 1) (List.map wV acc ++ List.replicate (m - acc.length) emp) = [] := by
                  apply List.drop_eq_nil_of_le
                  simp; omega
                rw [hdrop, ext_list, show V.str ⟨((l.drop fs).take (l.length - fs)).toArray⟩ = wV ((l.drop fs).take (l.length - fs)) from rfl]
                rw [← hw] at hq
                simpa using hq
              · have hfe : fs = l.length := by omega
                subst hfe
                rw [if_neg (by omega), List.drop_length, cntF] at hci
                simp -dsimp [h0, h9, h10, h11, h12, c5, hsz]
                rw [List.drop_length] at hw
                rw [show m - acc.length = 0 from by omega]
                have hw' : acc = wordsF l [] := by simpa [wordsF] using hw
                rw [hw']
                simpa using hq
          · rw [hsp] at hq2
            rw [List.drop_eq_getElem_cons c3, cntF, hsp] at hcj
            rw [List.drop_eq_getElem_cons c3, wordsF, hsp] at hw
            simp -dsimp [h0, h9, h10, h12, c3, hsz, asc_len, hq1, hq2, hsp]
            refine ⟨l.length - (j + 1), by omega, j + 1, by omega, rfl, ?_⟩
            simp -dsimp [h0, h9, h10, h12]
            exact ⟨Fz.w64 (by omega) (by omega), by simpa using hw, by simpa using hcj⟩
        · obtain rfl : j = l.length := by omega
          rw [List.drop_length, cntF] at hcj
          omega
end Fz.D
set_option maxRecDepth 100000
namespace Fz.D
open Go Go.Proofs
def allB : List UInt8 := [69, 88, 73, 84, 32, 40, 76, 73, 84, 41, 32, 40, 66, 82, 65, 78, 67, 72, 41, 32, 40, 48, 66, 82, 65, 78, 67, 72, 41, 32, 40, 68, 79, 41, 32, 40, 76, 79, 79, 80, 41, 32, 40, 43, 76, 79, 79, 80, 41, 32, 40, 86, 65, 82, 41, 32, 40, 68, 79, 69, 83, 41, 32, 40, 84, 69, 88, 84, 41, 32, 40, 77, 65, 82, 75, 41, 32, 67, 79, 77, 80, 73, 76, 69, 44, 32, 68, 85, 80, 32, 68, 82, 79, 80, 32, 83, 87, 65, 80, 32, 79, 86, 69, 82, 32, 82, 79, 84, 32, 78, 73, 80, 32, 84, 85, 67, 75, 32, 63, 68, 85, 80, 32, 50, 68, 85, 80, 32, 50, 68, 82, 79, 80, 32, 50, 83, 87, 65, 80, 32, 50, 79, 86, 69, 82, 32, 80, 73, 67, 75, 32, 82, 79, 76, 76, 32, 68, 69, 80, 84, 72, 32, 43, 32, 45, 32, 42, 32, 47, 32, 77, 79, 68, 32, 47, 77, 79, 68, 32, 42, 47, 32, 42, 47, 77, 79, 68, 32, 49, 43, 32, 49, 45, 32, 50, 42, 32, 50, 47, 32, 78, 69, 71, 65, 84, 69, 32, 65, 66, 83, 32, 77, 73, 78, 32, 77, 65, 88, 32, 65, 78, 68, 32, 79, 82, 32, 88, 79, 82, 32, 73, 78, 86, 69, 82, 84, 32, 76, 83, 72, 73, 70, 84, 32, 82, 83, 72, 73, 70, 84, 32, 61, 32, 60, 62, 32, 60, 32, 62, 32, 85, 60, 32, 48, 61, 32, 48, 60, 32, 48, 60, 62, 32, 48, 62, 32, 87, 73, 84, 72, 73, 78, 32, 84, 82, 85, 69, 32, 70, 65, 76, 83, 69, 32, 67, 69, 76, 76, 83, 32, 67, 69, 76, 76, 43, 32, 70, 43, 32, 70, 45, 32, 70, 42, 32, 70, 47, 32, 70, 77, 73, 78, 32, 70, 77, 65, 88, 32, 70, 78, 69, 71, 65, 84, 69, 32, 70, 65, 66, 83, 32, 70, 83, 81, 82, 84, 32, 70, 76, 79, 79, 82, 32, 70, 60, 32, 70, 61, 32, 83, 62, 70, 32, 70, 62, 83, 32, 64, 32, 33, 32, 43, 33, 32, 67, 64, 32, 67, 33, 32, 72, 69, 82, 69, 32, 65, 76, 76, 79, 84, 32, 44, 32, 67, 44, 32, 65, 76, 73, 71, 78, 32, 66, 65, 83, 69, 32, 68, 69, 67, 73, 77, 65, 76, 32, 72, 69, 88, 32, 62, 82, 32, 82, 62, 32, 82, 64, 32, 73, 32, 74, 32, 85, 78, 76, 79, 79, 80, 32, 76, 69, 65, 86, 69, 32, 73, 70, 32, 69, 76, 83, 69, 32, 84, 72, 69, 78, 32, 66, 69, 71, 73, 78, 32, 65, 71, 65, 73, 78, 32, 85, 78, 84, 73, 76, 32, 87, 72, 73, 76, 69, 32, 82, 69, 80, 69, 65, 84, 32, 68, 79, 32, 76, 79, 79, 80, 32, 43, 76, 79, 79, 80, 32, 82, 69, 67, 85, 82, 83, 69, 32, 58, 32, 59, 32, 73, 77, 77, 69, 68, 73, 65, 84, 69, 32, 67, 79, 78, 83, 84, 65, 78, 84, 32, 86, 65, 82, 73, 65, 66, 76, 69, 32, 67, 82, 69, 65, 84, 69, 32, 68, 79, 69, 83, 62, 32, 77, 65, 82, 75, 69, 82, 32, 39, 32, 91, 39, 93, 32, 76, 73, 84, 69, 82, 65, 76, 32, 80, 79, 83, 84, 80, 79, 78, 69, 32, 91, 32, 93, 32, 69, 88, 69, 67, 85, 84, 69, 32, 67, 72, 65, 82, 32, 91, 67, 72, 65, 82, 93, 32, 40, 32, 92, 32, 46, 34, 32, 69, 77, 73, 84, 32, 67, 82, 32, 83, 80, 65, 67, 69, 32, 46, 32, 84, 89, 80, 69, 32, 75, 69, 89, 32, 84, 72, 82, 79, 87, 32, 65, 66, 79, 82, 84]
def ctlB : List UInt8 := [73, 70, 32, 69, 76, 83, 69, 32, 84, 72, 69, 78, 32, 66, 69, 71, 73, 78, 32, 65, 71, 65, 73, 78, 32, 85, 78, 84, 73, 76, 32, 87, 72, 73, 76, 69, 32, 82, 69, 80, 69, 65, 84, 32, 68, 79, 32, 76, 79, 79, 80, 32, 43, 76, 79, 79, 80, 32, 82, 69, 67, 85, 82, 83, 69, 32, 59, 32, 68, 79, 69, 83, 62, 32, 91, 39, 93, 32, 76, 73, 84, 69, 82, 65, 76, 32, 80, 79, 83, 84, 80, 79, 78, 69, 32, 91, 67, 72, 65, 82, 93]
def opsL : List (List UInt8) := [[69, 88, 73, 84], [40, 76, 73, 84, 41], [40, 66, 82, 65, 78, 67, 72, 41], [40, 48, 66, 82, 65, 78, 67, 72, 41], [40, 68, 79, 41], [40, 76, 79, 79, 80, 41], [40, 43, 76, 79, 79, 80, 41], [40, 86, 65, 82, 41], [40, 68, 79, 69, 83, 41], [40, 84, 69, 88, 84, 41], [40, 77, 65, 82, 75, 41], [67, 79, 77, 80, 73, 76, 69, 44], [68, 85, 80], [68, 82, 79, 80], [83, 87, 65, 80], [79, 86, 69, 82], [82, 79, 84], [78, 73, 80], [84, 85, 67, 75], [63, 68, 85, 80], [50, 68, 85, 80], [50, 68, 82, 79, 80], [50, 83, 87, 65, 80], [50, 79, 86, 69, 82], [80, 73, 67, 75], [82, 79, 76, 76], [68, 69, 80, 84, 72], [43], [45], [42], [47], [77, 79, 68], [47, 77, 79, 68], [42, 47], [42, 47, 77, 79, 68], [49, 43], [49, 45], [50, 42], [50, 47], [78, 69, 71, 65, 84, 69], [65, 66, 83], [77, 73, 78], [77, 65, 88], [65, 78, 68], [79, 82], [88, 79, 82], [73, 78, 86, 69, 82, 84], [76, 83, 72, 73, 70, 84], [82, 83, 72, 73, 70, 84], [61], [60, 62], [60], [62], [85, 60], [48, 61], [48, 60], [48, 60, 62], [48, 62], [87, 73, 84, 72, 73, 78], [84, 82, 85, 69], [70, 65, 76, 83, 69], [67, 69, 76, 76, 83], [67, 69, 76, 76, 43], [70, 43], [70, 45], [70, 42], [70, 47], [70, 77, 73, 78], [70, 77, 65, 88], [70, 78, 69, 71, 65, 84, 69], [70, 65, 66, 83], [70, 83, 81, 82, 84], [70, 76, 79, 79, 82], [70, 60], [70, 61], [83, 62, 70], [70, 62, 83], [64], [33], [43, 33], [67, 64], [67, 33], [72, 69, 82, 69], [65, 76, 76, 79, 84], [44], [67, 44], [65, 76, 73, 71, 78], [66, 65, 83, 69], [68, 69, 67, 73, 77, 65, 76], [72, 69, 88], [62, 82], [82, 62], [82, 64], [73], [74], [85, 78, 76, 79, 79, 80], [76, 69, 65, 86, 69], [73, 70], [69, 76, 83, 69], [84, 72, 69, 78], [66, 69, 71, 73, 78], [65, 71, 65, 73, 78], [85, 78, 84, 73, 76], [87, 72, 73, 76, 69], [82, 69, 80, 69, 65, 84], [68, 79], [76, 79, 79, 80], [43, 76, 79, 79, 80], [82, 69, 67, 85, 82, 83, 69], [58], [59], [73, 77, 77, 69, 68, 73, 65, 84, 69], [67, 79, 78, 83, 84, 65, 78, 84], [86, 65, 82, 73, 65, 66, 76, 69], [67, 82, 69, 65, 84, 69], [68, 79, 69, 83, 62], [77, 65, 82, 75, 69, 82], [39], [91, 39, 93], [76, 73, 84, 69, 82, 65, 76], [80, 79, 83, 84, 80, 79, 78, 69], [91], [93], [69, 88, 69, 67, 85, 84, 69], [67, 72, 65, 82], [91, 67, 72, 65, 82, 93], [40], [92], [46, 34], [69, 77, 73, 84], [67, 82], [83, 80, 65, 67, 69], [46], [84, 89, 80, 69], [75, 69, 89], [84, 72, 82, 79, 87], [65, 66, 79, 82, 84]]
def ctlL : List (List UInt8) := [[73, 70], [69, 76, 83, 69], [84, 72, 69, 78], [66, 69, 71, 73, 78], [65, 71, 65, 73, 78], [85, 78, 84, 73, 76], [87, 72, 73, 76, 69], [82, 69, 80, 69, 65, 84], [68, 79], [76, 79, 79, 80], [43, 76, 79, 79, 80], [82, 69, 67, 85, 82, 83, 69], [59], [68, 79, 69, 83, 62], [91, 39, 93], [76, 73, 84, 69, 82, 65, 76], [80, 79, 83, 84, 80, 79, 78, 69], [91, 67, 72, 65, 82, 93]]
theorem allB_w : wordsF allB [] = opsL := by kernel_rfl
theorem allB_a : ∀ c ∈ allB, c.toNat < 128 := by decide +kernel
theorem ren_wV (g : Nat → Nat) : ∀ l : List (List UInt8), renL g (l.map wV) = l.map wV
  | [] => rfl
  | a :: r => by rw [List.map_cons, renL, ren_wV g r]; rfl
theorem refs_wV : ∀ l : List (List UInt8), refsL (l.map wV) = []
  | [] => rfl
  | a :: r => by rw [List.map_cons, refsL, refs_wV r]; rfl
theorem list_run : WFun p0 39 [] [] fun r H => r = .ret (.own 0 0 137 1) ∧ H = [.live (opsL.map wV)] := by
  refine WFun_of w39 rfl rfl k39 ?_
  simp -dsimp [w39]
  refine WCall_inl (ids := []) rfl rfl ?_
  refine fields_s (l := allB) (n := 137) allB_a (by decide +kernel) (by rw [allB_w]; kernel_rfl) (by kernel_rfl) (by decide) ?_
  have k0 : backK [] 0 0 = 0 := by simp [backK]
  simp -dsimp [allB_w, backH, setAll, renR, renOb, crV, refs, refsL, renL, ren, ren_wV, refs_wV, k0]
def laidP (l : List (List UInt8)) : List V → List Ob → Option (V × List Ob)
  | [], [] => some (.own 0 0 l.length 1, [.live (l.map wV)])
  | _, _ => none
def prim1 (f : FuncId) : Option (List V → List Ob → Option (V × List Ob)) := if f = 39 then some (laidP opsL) else prim0 f
def p1 : AP := { fn := lk tab, prim := prim1, inl := isInl, body := bods }
@[simp] theorem inl_eq1 (f : FuncId) : p1.inlY f = (f == 4000000000 || isInl f) := (rfl)
theorem fn_ok (f : FuncId) (af : AFun) (h : lk tab f = some af) : cFun Tryz.prog f = some af.erase := tab_ok _ (lk_mem _ _ _ h)
end Fz.D
set_option maxRecDepth 100000
namespace Fz.D
open Go Go.Proofs
def p : AP := p1
@[simp] theorem inl_eq (f : FuncId) : p.inlY f = (f == 4000000000 || isInl f) := (rfl)
def isTrue : Option (CR × List Ob) → Bool
  | some (.ret (.bool b), _) => b
  | _ => false
theorem isTrue_ok {r : Option (CR × List Ob)} (h : isTrue r = true) : ∃ H, r = some (.ret (.bool true), H) := by
  unfold isTrue at h
  split at h
  · subst h; exact ⟨_, rfl⟩
  · cases h
theorem awake13 : isTrue (acall p1 1000 23 [] []) = true := by kernel_rfl
end Fz.D
set_option maxRecDepth 100000
namespace Fz.D
open Go
def byV (b : List Int) : V := .list (b.map (V.int .u8)) false
@[simp] theorem byV.gd (b : List Int) : ground (byV b) = true := by simp [byV]
@[simp] theorem byV.gk (b : List Int) (k : Nat) : gk (k + 1) (byV b) = true := by simp [byV]
@[simp] theorem byV.nr (b : List Int) : nrm (byV b) = byV b := by simp [byV]
@[simp] theorem byV.nrc : nrm ∘ byV = byV := funext fun x => byV.nr x
@[simp] theorem byV.nm (b : List Int) : nm (byV b) = true := by simp [byV]
@[simp] theorem byV.any (b : List Int) : isAny (byV b) = false := rfl
@[simp] theorem byV.cells (b : List Int) : cellsOf (byV b) = [byV b] := rfl
@[simp] theorem byV.st (b : List Int) : storable (byV b) = true := rfl
@[simp] theorem byV.lf (b : List Int) : leafy (byV b) = true := rfl
@[simp] theorem byV.uni (l : List (List Int)) : uni 1 (l.map byV) = true := uni_map fun _ => rfl
@[simp] theorem byV.flat (l : List (List Int)) : flat (l.map byV) = l.map byV := flat_one fun _ => rfl
@[simp] theorem byV.sl (b : List Int) (L : List V → Bool → Prop) (O : Nat → Nat → Nat → Nat → Prop) : wSl (byV b) L O = L (b.map (V.int .u8)) false := (rfl)
@[simp] theorem byV.el (b : List Int) (H : List Ob) (n : Nat) (K : List V → Nat → Prop) : xElems H n (byV b) K = xElems H n (.list (b.map (V.int .u8)) false) K := (rfl)
@[simp] theorem byV.xs (b : List Int) (H : List Ob) (n : Nat) (lo hi mx : Option V) (K : V → Prop) : xSlice H (.sl n) (byV b) lo hi mx K = xSlice H (.sl n) (.list (b.map (V.int .u8)) false) lo hi mx K := (rfl)
def inV (b : List Int) : V := .list (b.map (V.int .i64)) false
@[simp] theorem inV.gd (b : List Int) : ground (inV b) = true := by simp [inV]
@[simp] theorem inV.gk (b : List Int) (k : Nat) : gk (k + 1) (inV b) = true := by simp [inV]
@[simp] theorem inV.nr (b : List Int) : nrm (inV b) = inV b := by simp [inV]
@[simp] theorem inV.nrc : nrm ∘ inV = inV := funext fun x => inV.nr x
@[simp] theorem inV.nm (b : List Int) : nm (inV b) = true := by simp [inV]
@[simp] theorem inV.any (b : List Int) : isAny (inV b) = false := rfl
@[simp] theorem inV.cells (b : List Int) : cellsOf (inV b) = [inV b] := rfl
@[simp] theorem inV.st (b : List Int) : storable (inV b) = true := rfl
@[simp] theorem inV.lf (b : List Int) : leafy (inV b) = true := rfl
@[simp] theorem inV.uni (l : List (List Int)) : uni 1 (l.map inV) = true := uni_map fun _ => rfl
@[simp] theorem inV.flat (l : List (List Int)) : flat (l.map inV) = l.map inV := flat_one fun _ => rfl
@[simp] theorem inV.sl (b : List Int) (L : List V → Bool → Prop) (O : Nat → Nat → Nat → Nat → Prop) : wSl (inV b) L O = L (b.map (V.int .i64)) false := (rfl)
@[simp] theorem inV.el (b : List Int) (H : List Ob) (n : Nat) (K : List V → Nat → Prop) : xElems H n (inV b) K = xElems H n (.list (b.map (V.int .i64)) false) K := (rfl)
@[simp] theorem inV.xs (b : List Int) (H : List Ob) (n : Nat) (lo hi mx : Option V) (K : V → Prop) : xSlice H (.sl n) (inV b) lo hi mx K = xSlice H (.sl n) (.list (b.map (V.int .i64)) false) lo hi mx K := (rfl)
structure Slo where
  v : Int
  call : Bool
deriving Inhabited, DecidableEq
structure Wor where
  name : ByteArray
  code : Int
  now : Bool
  hid : Bool
deriving Inhabited
structure Spo where
  addr : Int
  at_ : Int
deriving Inhabited, DecidableEq
structure Rn where
  at_ : Int
  b : List Int
deriving Inhabited, DecidableEq
def sloV (s : Slo) : V := .agg [.int .i64 s.v, .bool s.call]
@[simp] theorem sloV.gd (s : Slo) : ground (sloV s) = true := by simp [sloV]
@[simp] theorem sloV.gk (s : Slo) (k : Nat) : gk (k + 2) (sloV s) = true := by simp [sloV]
@[simp] theorem sloV.nr (s : Slo) : nrm (sloV s) = sloV s := by simp [sloV]
@[simp] theorem sloV.nrc : nrm ∘ sloV = sloV := funext fun x => sloV.nr x
@[simp] theorem sloV.nm (s : Slo) : nm (sloV s) = true := by simp [sloV]
@[simp] theorem sloV.any (s : Slo) : isAny (sloV s) = false := rfl
@[simp] theorem sloV.cells (s : Slo) : cellsOf (sloV s) = [.int .i64 s.v, .bool s.call] := rfl
@[simp] theorem sloV.uni (l : List (Slo)) : uni 2 (l.map sloV) = true := uni_map fun _ => rfl
@[simp] theorem sloV.flat (l : List (Slo)) : flat (l.map sloV) = l.flatMap fun s => [.int .i64 s.v, .bool s.call] := by rw [flat_map]; rfl
def worV (s : Wor) : V := .agg [.str s.name, .int .i64 s.code, .bool s.now, .bool s.hid]
@[simp] theorem worV.gd (s : Wor) : ground (worV s) = true := by simp [worV]
@[simp] theorem worV.gk (s : Wor) (k : Nat) : gk (k + 2) (worV s) = true := by simp [worV]
@[simp] theorem worV.nr (s : Wor) : nrm (worV s) = worV s := by simp [worV]
@[simp] theorem worV.nrc : nrm ∘ worV = worV := funext fun x => worV.nr x
@[simp] theorem worV.nm (s : Wor) : nm (worV s) = true := by simp [worV]
@[simp] theorem worV.any (s : Wor) : isAny (worV s) = false := rfl
@[simp] theorem worV.cells (s : Wor) : cellsOf (worV s) = [.str s.name, .int .i64 s.code, .bool s.now, .bool s.hid] := rfl
@[simp] theorem worV.uni (l : List (Wor)) : uni 4 (l.map worV) = true := uni_map fun _ => rfl
@[simp] theorem worV.flat (l : List (Wor)) : flat (l.map worV) = l.flatMap fun s => [.str s.name, .int .i64 s.code, .bool s.now, .bool s.hid] := by rw [flat_map]; rfl
def spoV (s : Spo) : V := .agg [.int .i64 s.addr, .int .i64 s.at_]
@[simp] theorem spoV.gd (s : Spo) : ground (spoV s) = true := by simp [spoV]
@[simp] theorem spoV.gk (s : Spo) (k : Nat) : gk (k + 2) (spoV s) = true := by simp [spoV]
@[simp] theorem spoV.nr (s : Spo) : nrm (spoV s) = spoV s := by simp [spoV]
@[simp] theorem spoV.nrc : nrm ∘ spoV = spoV := funext fun x => spoV.nr x
@[simp] theorem spoV.nm (s : Spo) : nm (spoV s) = true := by simp [spoV]
@[simp] theorem spoV.any (s : Spo) : isAny (spoV s) = false := rfl
@[simp] theorem spoV.cells (s : Spo) : cellsOf (spoV s) = [.int .i64 s.addr, .int .i64 s.at_] := rfl
@[simp] theorem spoV.uni (l : List (Spo)) : uni 2 (l.map spoV) = true := uni_map fun _ => rfl
@[simp] theorem spoV.flat (l : List (Spo)) : flat (l.map spoV) = l.flatMap fun s => [.int .i64 s.addr, .int .i64 s.at_] := by rw [flat_map]; rfl
def runV (s : Rn) : V := .agg [.int .i64 s.at_, byV s.b]
@[simp] theorem runV.gd (s : Rn) : ground (runV s) = true := by simp [runV]
@[simp] theorem runV.gk (s : Rn) (k : Nat) : gk (k + 2) (runV s) = true := by simp [runV]
@[simp] theorem runV.nr (s : Rn) : nrm (runV s) = runV s := by simp [runV]
@[simp] theorem runV.nrc : nrm ∘ runV = runV := funext fun x => runV.nr x
@[simp] theorem runV.nm (s : Rn) : nm (runV s) = true := by simp [runV]
@[simp] theorem runV.any (s : Rn) : isAny (runV s) = false := rfl
@[simp] theorem runV.cells (s : Rn) : cellsOf (runV s) = [.int .i64 s.at_, byV s.b] := rfl
@[simp] theorem runV.uni (l : List (Rn)) : uni 2 (l.map runV) = true := uni_map fun _ => rfl
@[simp] theorem runV.flat (l : List (Rn)) : flat (l.map runV) = l.flatMap fun s => [.int .i64 s.at_, byV s.b] := by rw [flat_map]; rfl
def slosV (l : List Slo) : V := .list (l.map sloV) false
@[simp] theorem slosV.gd (l : List Slo) : ground (slosV l) = true := by simp [slosV]
@[simp] theorem slosV.gk (l : List Slo) (k : Nat) : gk (k + 1) (slosV l) = true := by simp [slosV]
@[simp] theorem slosV.nr (l : List Slo) : nrm (slosV l) = slosV l := by simp [slosV]
@[simp] theorem slosV.nrc : nrm ∘ slosV = slosV := funext fun x => slosV.nr x
@[simp] theorem slosV.nm (l : List Slo) : nm (slosV l) = true := by simp [slosV]
@[simp] theorem slosV.any (l : List Slo) : isAny (slosV l) = false := rfl
@[simp] theorem slosV.cells (l : List Slo) : cellsOf (slosV l) = [slosV l] := rfl
@[simp] theorem slosV.st (l : List Slo) : storable (slosV l) = true := rfl
@[simp] theorem slosV.lf (l : List Slo) : leafy (slosV l) = true := rfl
@[simp] theorem slosV.uni (l : List (List Slo)) : uni 1 (l.map slosV) = true := uni_map fun _ => rfl
@[simp] theorem slosV.flat (l : List (List Slo)) : flat (l.map slosV) = l.map slosV := flat_one fun _ => rfl
@[simp] theorem slosV.sl (l : List Slo) (L : List V → Bool → Prop) (O : Nat → Nat → Nat → Nat → Prop) : wSl (slosV l) L O = L (l.map sloV) false := (rfl)
@[simp] theorem slosV.el (l : List Slo) (H : List Ob) (n : Nat) (K : List V → Nat → Prop) : xElems H n (slosV l) K = xElems H n (.list (l.map sloV) false) K := (rfl)
@[simp] theorem slosV.xs (l : List Slo) (H : List Ob) (n : Nat) (lo hi mx : Option V) (K : V → Prop) : xSlice H (.sl n) (slosV l) lo hi mx K = xSlice H (.sl n) (.list (l.map sloV) false) lo hi mx K := (rfl)
def worsV (l : List Wor) : V := .list (l.map worV) false
@[simp] theorem worsV.gd (l : List Wor) : ground (worsV l) = true := by simp [worsV]
@[simp] theorem worsV.gk (l : List Wor) (k : Nat) : gk (k + 1) (worsV l) = true := by simp [worsV]
@[simp] theorem worsV.nr (l : List Wor) : nrm (worsV l) = worsV l := by simp [worsV]
@[simp] theorem worsV.nrc : nrm ∘ worsV = worsV := funext fun x => worsV.nr x
@[simp] theorem worsV.nm (l : List Wor) : nm (worsV l) = true := by simp [worsV]
@[simp] theorem worsV.any (l : List Wor) : isAny (worsV l) = false := rfl
@[simp] theorem worsV.cells (l : List Wor) : cellsOf (worsV l) = [worsV l] := rfl
@[simp] theorem worsV.st (l : List Wor) : storable (worsV l) = true := rfl
@[simp] theorem worsV.lf (l : List Wor) : leafy (worsV l) = true := rfl
@[simp] theorem worsV.uni (l : List (List Wor)) : uni 1 (l.map worsV) = true := uni_map fun _ => rfl
@[simp] theorem worsV.flat (l : List (List Wor)) : flat (l.map worsV) = l.map worsV := flat_one fun _ => rfl
@[simp] theorem worsV.sl (l : List Wor) (L : List V → Bool → Prop) (O : Nat → Nat → Nat → Nat → Prop) : wSl (worsV l) L O = L (l.map worV) false := (rfl)
@[simp] theorem worsV.el (l : List Wor) (H : List Ob) (n : Nat) (K : List V → Nat → Prop) : xElems H n (worsV l) K = xElems H n (.list (l.map worV) false) K := (rfl)
@[simp] theorem worsV.xs (l : List Wor) (H : List Ob) (n : Nat) (lo hi mx : Option V) (K : V → Prop) : xSlice H (.sl n) (worsV l) lo hi mx K = xSlice H (.sl n) (.list (l.map worV) false) lo hi mx K := (rfl)
def sposV (l : List Spo) : V := .list (l.map spoV) false
@[simp] theorem sposV.gd (l : List Spo) : ground (sposV l) = true := by simp [sposV]
@[simp] theorem sposV.gk (l : List Spo) (k : Nat) : gk (k + 1) (sposV l) = true := by simp [sposV]
@[simp] theorem sposV.nr (l : List Spo) : nrm (sposV l) = sposV l := by simp [sposV]
@[simp] theorem sposV.nrc : nrm ∘ sposV = sposV := funext fun x => sposV.nr x
@[simp] theorem sposV.nm (l : List Spo) : nm (sposV l) = true := by simp [sposV]
@[simp] theorem sposV.any (l : List Spo) : isAny (sposV l) = false := rfl
@[simp] theorem sposV.cells (l : List Spo) : cellsOf (sposV l) = [sposV l] := rfl
@[simp] theorem sposV.st (l : List Spo) : storable (sposV l) = true := rfl
@[simp] theorem sposV.lf (l : List Spo) : leafy (sposV l) = true := rfl
@[simp] theorem sposV.uni (l : List (List Spo)) : uni 1 (l.map sposV) = true := uni_map fun _ => rfl
@[simp] theorem sposV.flat (l : List (List Spo)) : flat (l.map sposV) = l.map sposV := flat_one fun _ => rfl
@[simp] theorem sposV.sl (l : List Spo) (L : List V → Bool → Prop) (O : Nat → Nat → Nat → Nat → Prop) : wSl (sposV l) L O = L (l.map spoV) false := (rfl)
@[simp] theorem sposV.el (l : List Spo) (H : List Ob) (n : Nat) (K : List V → Nat → Prop) : xElems H n (sposV l) K = xElems H n (.list (l.map spoV) false) K := (rfl)
@[simp] theorem sposV.xs (l : List Spo) (H : List Ob) (n : Nat) (lo hi mx : Option V) (K : V → Prop) : xSlice H (.sl n) (sposV l) lo hi mx K = xSlice H (.sl n) (.list (l.map spoV) false) lo hi mx K := (rfl)
def runsV (l : List Rn) : V := .list (l.map runV) false
@[simp] theorem runsV.gd (l : List Rn) : ground (runsV l) = true := by simp [runsV]
@[simp] theorem runsV.gk (l : List Rn) (k : Nat) : gk (k + 1) (runsV l) = true := by simp [runsV]
@[simp] theorem runsV.nr (l : List Rn) : nrm (runsV l) = runsV l := by simp [runsV]
@[simp] theorem runsV.nrc : nrm ∘ runsV = runsV := funext fun x => runsV.nr x
@[simp] theorem runsV.nm (l : List Rn) : nm (runsV l) = true := by simp [runsV]
@[simp] theorem runsV.any (l : List Rn) : isAny (runsV l) = false := rfl
@[simp] theorem runsV.cells (l : List Rn) : cellsOf (runsV l) = [runsV l] := rfl
@[simp] theorem runsV.st (l : List Rn) : storable (runsV l) = true := rfl
@[simp] theorem runsV.lf (l : List Rn) : leafy (runsV l) = true := rfl
@[simp] theorem runsV.uni (l : List (List Rn)) : uni 1 (l.map runsV) = true := uni_map fun _ => rfl
@[simp] theorem runsV.flat (l : List (List Rn)) : flat (l.map runsV) = l.map runsV := flat_one fun _ => rfl
@[simp] theorem runsV.sl (l : List Rn) (L : List V → Bool → Prop) (O : Nat → Nat → Nat → Nat → Prop) : wSl (runsV l) L O = L (l.map runV) false := (rfl)
@[simp] theorem runsV.el (l : List Rn) (H : List Ob) (n : Nat) (K : List V → Nat → Prop) : xElems H n (runsV l) K = xElems H n (.list (l.map runV) false) K := (rfl)
@[simp] theorem runsV.xs (l : List Rn) (H : List Ob) (n : Nat) (lo hi mx : Option V) (K : V → Prop) : xSlice H (.sl n) (runsV l) lo hi mx K = xSlice H (.sl n) (.list (l.map runV) false) lo hi mx K := (rfl)
structure St where
  mem : List Int
  data : List Int
  ret : List Slo
  ctl : List Int
  words : List Wor
  spots : List Spo
  out : List Int
  ip : Int
  here : Int
  at_ : Int
  tok : Int
  in_ : Int
  err : Int
  comp : Bool
  halt : Bool
deriving Inhabited
structure De where
  mem : List Rn
  dk : Int
  dt : List Int
  rk : Int
  rt : List Slo
  ck : Int
  ct : List Int
  wk : Int
  wt : List Wor
  sk : Int
  st : List Spo
  out : Int
  r0 : Int
  r1 : Int
  r2 : Int
  r3 : Int
  r4 : Int
  r5 : Int
  comp : Bool
  halt : Bool
deriving Inhabited
def stV (s : St) : V := .agg [byV s.mem, inV s.data, slosV s.ret, inV s.ctl, worsV s.words, sposV s.spots, byV s.out, .int .i64 s.ip, .int .i64 s.here, .int .i64 s.at_, .int .i64 s.tok, .int .i64 s.in_, .int .i64 s.err, .bool s.comp, .bool s.halt]
@[simp] theorem stV.gd (s : St) : ground (stV s) = true := by simp [stV]
@[simp] theorem stV.gk (s : St) (k : Nat) : gk (k + 2) (stV s) = true := by simp [stV]
@[simp] theorem stV.nr (s : St) : nrm (stV s) = stV s := by simp [stV]
@[simp] theorem stV.nrc : nrm ∘ stV = stV := funext fun x => stV.nr x
@[simp] theorem stV.nm (s : St) : nm (stV s) = true := by simp [stV]
@[simp] theorem stV.any (s : St) : isAny (stV s) = false := rfl
@[simp] theorem stV.cells (s : St) : cellsOf (stV s) = [byV s.mem, inV s.data, slosV s.ret, inV s.ctl, worsV s.words, sposV s.spots, byV s.out, .int .i64 s.ip, .int .i64 s.here, .int .i64 s.at_, .int .i64 s.tok, .int .i64 s.in_, .int .i64 s.err, .bool s.comp, .bool s.halt] := rfl
@[simp] theorem stV.uni (l : List (St)) : uni 15 (l.map stV) = true := uni_map fun _ => rfl
@[simp] theorem stV.flat (l : List (St)) : flat (l.map stV) = l.flatMap fun s => [byV s.mem, inV s.data, slosV s.ret, inV s.ctl, worsV s.words, sposV s.spots, byV s.out, .int .i64 s.ip, .int .i64 s.here, .int .i64 s.at_, .int .i64 s.tok, .int .i64 s.in_, .int .i64 s.err, .bool s.comp, .bool s.halt] := by rw [flat_map]; rfl
def deV (d : De) : V := .agg [runsV d.mem, .int .i64 d.dk, inV d.dt, .int .i64 d.rk, slosV d.rt, .int .i64 d.ck, inV d.ct, .int .i64 d.wk, worsV d.wt, .int .i64 d.sk, sposV d.st, .int .i64 d.out, .int .i64 d.r0, .int .i64 d.r1, .int .i64 d.r2, .int .i64 d.r3, .int .i64 d.r4, .int .i64 d.r5, .bool d.comp, .bool d.halt]
@[simp] theorem deV.gd (d : De) : ground (deV d) = true := by simp [deV]
@[simp] theorem deV.gk (d : De) (k : Nat) : gk (k + 2) (deV d) = true := by simp [deV]
@[simp] theorem deV.nr (d : De) : nrm (deV d) = deV d := by simp [deV]
@[simp] theorem deV.nrc : nrm ∘ deV = deV := funext fun x => deV.nr x
@[simp] theorem deV.nm (d : De) : nm (deV d) = true := by simp [deV]
@[simp] theorem deV.any (d : De) : isAny (deV d) = false := rfl
@[simp] theorem deV.cells (d : De) : cellsOf (deV d) = [runsV d.mem, .int .i64 d.dk, inV d.dt, .int .i64 d.rk, slosV d.rt, .int .i64 d.ck, inV d.ct, .int .i64 d.wk, worsV d.wt, .int .i64 d.sk, sposV d.st, .int .i64 d.out, .int .i64 d.r0, .int .i64 d.r1, .int .i64 d.r2, .int .i64 d.r3, .int .i64 d.r4, .int .i64 d.r5, .bool d.comp, .bool d.halt] := rfl
@[simp] theorem deV.uni (l : List (De)) : uni 20 (l.map deV) = true := uni_map fun _ => rfl
@[simp] theorem deV.flat (l : List (De)) : flat (l.map deV) = l.flatMap fun d => [runsV d.mem, .int .i64 d.dk, inV d.dt, .int .i64 d.rk, slosV d.rt, .int .i64 d.ck, inV d.ct, .int .i64 d.wk, worsV d.wt, .int .i64 d.sk, sposV d.st, .int .i64 d.out, .int .i64 d.r0, .int .i64 d.r1, .int .i64 d.r2, .int .i64 d.r3, .int .i64 d.r4, .int .i64 d.r5, .bool d.comp, .bool d.halt] := by rw [flat_map]; rfl
end Fz.D
set_option maxRecDepth 100000
namespace Fz.D
open Go
def i64 (a : Int) : Prop := -9223372036854775808 ≤ a ∧ a ≤ 9223372036854775807
def nmB (s : ByteArray) : List Int := s.data.toList.map fun b => (b.toNat : Int)
theorem int_beq (a b : Int) : (a == b) = decide (a = b) := rfl
def inQ (a b : Int) : Bool := decide (a = b)
def sloQ (a b : Slo) : Bool := decide (a.v = b.v) && (a.call == b.call)
def worQ (a b : Wor) : Bool := decide (a.name = b.name) && (decide (a.code = b.code) && ((a.now == b.now) && (a.hid == b.hid)))
def spoQ (a b : Spo) : Bool := decide (a.addr = b.addr) && decide (a.at_ = b.at_)
theorem slo_leaves (a b : Slo) : eqLeaves [.int .i64 a.v, .bool a.call] [.int .i64 b.v, .bool b.call] [(0, .int), (1, .bool)] = some (sloQ a b) := by
  unfold sloQ
  simp only [eqLeaves, leafEq, List.getElem?_cons_zero, List.getElem?_cons_succ, if_true, int_beq]
  cases decide (a.v = b.v) <;> cases (a.call == b.call) <;> rfl
theorem wor_leaves (a b : Wor) : eqLeaves [.str a.name, .int .i64 a.code, .bool a.now, .bool a.hid] [.str b.name, .int .i64 b.code, .bool b.now, .bool b.hid] [(0, .str), (1, .int), (2, .bool), (3, .bool)] = some (worQ a b) := by
  unfold worQ
  simp only [eqLeaves, leafEq, List.getElem?_cons_zero, List.getElem?_cons_succ, if_true, int_beq, bytes_beq]
  cases decide (a.name = b.name) <;> cases decide (a.code = b.code) <;> cases (a.now == b.now) <;> cases (a.hid == b.hid) <;> rfl
theorem spo_leaves (a b : Spo) : eqLeaves [.int .i64 a.addr, .int .i64 a.at_] [.int .i64 b.addr, .int .i64 b.at_] [(0, .int), (1, .int)] = some (spoQ a b) := by
  unfold spoQ
  simp only [eqLeaves, leafEq, List.getElem?_cons_zero, List.getElem?_cons_succ, if_true, int_beq]
  cases decide (a.addr = b.addr) <;> cases decide (a.at_ = b.at_) <;> rfl
structure StLen (s : St) : Prop where
  mem : s.mem.length ≤ 100000
  data : s.data.length ≤ 100000
  ret : s.ret.length ≤ 100000
  ctl : s.ctl.length ≤ 100000
  words : s.words.length ≤ 100000
  spots : s.spots.length ≤ 100000
  out : s.out.length ≤ 100000000
def by8 (b : List Int) : Prop := ∀ x ∈ b, 0 ≤ x ∧ x < 256
def bstr (b : List Int) : ByteArray := bytesV (b.map (V.int .u8))
theorem all8 {b : List Int} (h : by8 b) : allU8 (b.map (V.int .u8)) = true := by
  unfold allU8
  rw [List.all_map, List.all_eq_true]
  intro x hx
  have := h x hx
  simp [this.1, this.2]
def u8f (x : Int) : UInt8 := x.toNat.toUInt8
def fewB (s : St) : Bool := (s.words.take 41).all (fun w => decide (w.name.size ≤ 60)) && (decide (s.mem.length ≤ 600) && (decide (s.data.length ≤ 40) && (decide (s.ret.length ≤ 40) && (decide (s.ctl.length ≤ 200) && (decide (s.words.length ≤ 40) && (decide (s.spots.length ≤ 100) && decide (s.out.length ≤ 200)))))))
theorem all_take {α : Type} {f : α → Bool} {l : List α} {i : Nat} (h : i < l.length) : (l.take (i + 1)).all f = ((l.take i).all f && f l[i]) := by
  rw [List.take_succ_eq_append_getElem h, List.all_append, List.all_cons, List.all_nil, Bool.and_true]
theorem all_false {α : Type} {f : α → Bool} {l : List α} {i n : Nat} (h : i < l.length) (hn : i < n) (hf : f l[i] = false) : (l.take n).all f = false := by
  rw [List.all_eq_false]
  exact ⟨l[i], List.mem_take_iff_getElem.2 ⟨i, by omega, rfl⟩, by simp [hf]⟩
theorem few_s (s : St) : Comes p 43 [stV s] (.bool (fewB s)) := by
  refine Comes_of w43 rfl rfl k43 ?_ ?_ ?_ ?_
  · simp
  · simp
  · simp
  · simp -dsimp [w43, wFix_by, isInl]
    refine xL_by (by kernel_rfl) (fun k e H => ∃ i : Nat, i ≤ 41 ∧ k = 41 - i ∧ e 1 = .ptr 0 0 ∧ e 3 = .int .i64 i ∧ H = [.live (cellsOf (stV s))] ∧ (s.words.take i).all (fun w => decide (w.name.size ≤ 60)) = true) 41 ?_ ?_
    · refine ⟨0, by omega, rfl, ?_⟩
      simp -dsimp
    rintro k e H ⟨i, hi, hk, h1, h3, rfl, hall⟩
    by_cases c1 : i < s.words.length
    · by_cases c2 : i < 41
      · have w2 : IntKind.i64.wrap ((i : Int) + 1) = ((i + 1 : Nat) : Int) := by rw [Fz.w64 (by omega) (by omega)]; omega
        have c2' : (i : Int) < 41 := by omega
        have q := all_take (f := (fun w => decide (w.name.size ≤ 60))) c1
        by_cases c3 : s.words[i].name.size ≤ 60
        · have c3' : ¬ ((s.words[i].name.size : Nat) : Int) > 60 := by omega
          have c3'' : ¬ (60 < ((s.words[i].name.size : Nat) : Int)) := by omega
          simp -dsimp [h1, h3, c1, c2, c2', c3', c3'', w2]
          refine ⟨41 - (i + 1), by omega, i + 1, by omega, rfl, ?_⟩
          rw [q, hall]
          simp -dsimp [h1, h3, c3]
        · have c3' : ((s.words[i].name.size : Nat) : Int) > 60 := by omega
          have c3'' : 60 < ((s.words[i].name.size : Nat) : Int) := by omega
          have z : fewB s = false := by
            have := all_false (f := (fun w => decide (w.name.size ≤ 60))) (n := 41) c1 c2 (by simp; omega)
            unfold fewB
            rw [this]; simp
          simp -dsimp [h1, h3, c1, c2, c2', c3', c3'', wFix_by, isInl, z]
      have hi' : i = 41 := by omega
      have c2' : ¬ (i : Int) < 41 := by omega
      have a0 : (s.words.take 41).all (fun w => decide (w.name.size ≤ 60)) = true := by rw [← hi']; exact hall
      have f0 : ¬ (i < s.words.length ∧ i < 41) := by omega
      by_cases d0 : ¬ s.mem.length ≤ 600
      · have d0' : ¬ (((s.mem.length : Nat) : Int) ≤ 600) := by omega
        simp -dsimp [h1, h3, wFix_by, isInl, c1, c2, c2', d0, d0', fewB]
      rw [Classical.not_not] at d0
      have d0' : (((s.mem.length : Nat) : Int) ≤ 600) := by omega
      by_cases d1 : ¬ s.data.length ≤ 40
      · have d1' : ¬ (((s.data.length : Nat) : Int) ≤ 40) := by omega
        simp -dsimp [h1, h3, wFix_by, isInl, c1, c2, c2', d0, d0', d1, d1', fewB]
      rw [Classical.not_not] at d1
      have d1' : (((s.data.length : Nat) : Int) ≤ 40) := by omega
      by_cases d2 : ¬ s.ret.length ≤ 40
      · have d2' : ¬ (((s.ret.length : Nat) : Int) ≤ 40) := by omega
        simp -dsimp [h1, h3, wFix_by, isInl, c1, c2, c2', d0, d0', d1, d1', d2, d2', fewB]
      rw [Classical.not_not] at d2
      have d2' : (((s.ret.length : Nat) : Int) ≤ 40) := by omega
      by_cases d3 : ¬ s.ctl.length ≤ 200
      · have d3' : ¬ (((s.ctl.length : Nat) : Int) ≤ 200) := by omega
        simp -dsimp [h1, h3, wFix_by, isInl, c1, c2, c2', d0, d0', d1, d1', d2, d2', d3, d3', fewB]
      rw [Classical.not_not] at d3
      have d3' : (((s.ctl.length : Nat) : Int) ≤ 200) := by omega
      by_cases d4 : ¬ s.words.length ≤ 40
      · have d4' : ¬ (((s.words.length : Nat) : Int) ≤ 40) := by omega
        simp -dsimp [h1, h3, wFix_by, isInl, c1, c2, c2', d0, d0', d1, d1', d2, d2', d3, d3', d4, d4', fewB]
      rw [Classical.not_not] at d4
      have d4' : (((s.words.length : Nat) : Int) ≤ 40) := by omega
      by_cases d5 : ¬ s.spots.length ≤ 100
      · have d5' : ¬ (((s.spots.length : Nat) : Int) ≤ 100) := by omega
        simp -dsimp [h1, h3, wFix_by, isInl, c1, c2, c2', d0, d0', d1, d1', d2, d2', d3, d3', d4, d4', d5, d5', fewB]
      rw [Classical.not_not] at d5
      have d5' : (((s.spots.length : Nat) : Int) ≤ 100) := by omega
      by_cases d6 : ¬ s.out.length ≤ 200
      · have d6' : ¬ (((s.out.length : Nat) : Int) ≤ 200) := by omega
        simp -dsimp [h1, h3, wFix_by, isInl, c1, c2, c2', d0, d0', d1, d1', d2, d2', d3, d3', d4, d4', d5, d5', d6, d6', fewB]
      rw [Classical.not_not] at d6
      have d6' : (((s.out.length : Nat) : Int) ≤ 200) := by omega
      simp -dsimp [h1, h3, wFix_by, isInl, c1, c2, c2', d0, d0', d1, d1', d2, d2', d3, d3', d4, d4', d5, d5', d6, d6', a0, fewB]
    have a0 : (s.words.take 41).all (fun w => decide (w.name.size ≤ 60)) = true := by
      rw [List.take_of_length_le (by omega)]
      rw [List.take_of_length_le (by omega)] at hall
      exact hall
    by_cases d0 : ¬ s.mem.length ≤ 600
    · have d0' : ¬ (((s.mem.length : Nat) : Int) ≤ 600) := by omega
      simp -dsimp [h1, h3, wFix_by, isInl, c1, d0, d0', fewB]
    rw [Classical.not_not] at d0
    have d0' : (((s.mem.length : Nat) : Int) ≤ 600) := by omega
    by_cases d1 : ¬ s.data.length ≤ 40
    · have d1' : ¬ (((s.data.length : Nat) : Int) ≤ 40) := by omega
      simp -dsimp [h1, h3, wFix_by, isInl, c1, d0, d0', d1, d1', fewB]
    rw [Classical.not_not] at d1
    have d1' : (((s.data.length : Nat) : Int) ≤ 40) := by omega
    by_cases d2 : ¬ s.ret.length ≤ 40
    · have d2' : ¬ (((s.ret.length : Nat) : Int) ≤ 40) := by omega
      simp -dsimp [h1, h3, wFix_by, isInl, c1, d0, d0', d1, d1', d2, d2', fewB]
    rw [Classical.not_not] at d2
    have d2' : (((s.ret.length : Nat) : Int) ≤ 40) := by omega
    by_cases d3 : ¬ s.ctl.length ≤ 200
    · have d3' : ¬ (((s.ctl.length : Nat) : Int) ≤ 200) := by omega
      simp -dsimp [h1, h3, wFix_by, isInl, c1, d0, d0', d1, d1', d2, d2', d3, d3', fewB]
    rw [Classical.not_not] at d3
    have d3' : (((s.ctl.length : Nat) : Int) ≤ 200) := by omega
    by_cases d4 : ¬ s.words.length ≤ 40
    · have d4' : ¬ (((s.words.length : Nat) : Int) ≤ 40) := by omega
      simp -dsimp [h1, h3, wFix_by, isInl, c1, d0, d0', d1, d1', d2, d2', d3, d3', d4, d4', fewB]
    rw [Classical.not_not] at d4
    have d4' : (((s.words.length : Nat) : Int) ≤ 40) := by omega
    by_cases d5 : ¬ s.spots.length ≤ 100
    · have d5' : ¬ (((s.spots.length : Nat) : Int) ≤ 100) := by omega
      simp -dsimp [h1, h3, wFix_by, isInl, c1, d0, d0', d1, d1', d2, d2', d3, d3', d4, d4', d5, d5', fewB]
    rw [Classical.not_not] at d5
    have d5' : (((s.spots.length : Nat) : Int) ≤ 100) := by omega
    by_cases d6 : ¬ s.out.length ≤ 200
    · have d6' : ¬ (((s.out.length : Nat) : Int) ≤ 200) := by omega
      simp -dsimp [h1, h3, wFix_by, isInl, c1, d0, d0', d1, d1', d2, d2', d3, d3', d4, d4', d5, d5', d6, d6', fewB]
    rw [Classical.not_not] at d6
    have d6' : (((s.out.length : Nat) : Int) ≤ 200) := by omega
    simp -dsimp [h1, h3, wFix_by, isInl, c1, d0, d0', d1, d1', d2, d2', d3, d3', d4, d4', d5, d5', d6, d6', a0, fewB]
theorem ints_self {a : List Int} (ha : a.length ≤ 1000000) : Comes p 49 [inV a, inV a] (.bool true) := by
  refine Comes_of w49 rfl rfl k49 ?_ ?_ ?_ ?_
  · simp
  · simp
  · simp
  · simp -dsimp [w49, wFix_by, isInl]
    refine xL_by (by kernel_rfl) (fun k e H => ∃ i : Nat, i ≤ a.length ∧ k = a.length - i ∧ e 0 = inV a ∧ e 1 = inV a ∧ e 5 = .int .i64 i) a.length ?_ ?_
    · refine ⟨0, by omega, rfl, ?_⟩
      simp -dsimp
    · rintro k e H ⟨i, hi, hk, h0, h1, h5⟩
      by_cases c1 : i < a.length
      · have g1 : a[i]?.getD default = a[i] := by simp [c1]
        have w2 : IntKind.i64.wrap ((i : Int) + 1) = ((i + 1 : Nat) : Int) := by rw [Fz.w64 (by omega) (by omega)]; omega
        have z : inQ a[i] a[i] = true := by simp [inQ]
        simp -dsimp [h0, h1, h5, wFix_by, isInl, inV, c1, g1, wOpt, w2, z]
        refine ⟨a.length - (i + 1), by omega, i + 1, by omega, rfl, ?_⟩
        simp -dsimp [h0, h1, inV]
      · simp -dsimp [h0, h1, h5, wFix_by, isInl, c1]
theorem slots_self {a : List Slo} (ha : a.length ≤ 1000000) : Comes p 50 [slosV a, slosV a] (.bool true) := by
  refine Comes_of w50 rfl rfl k50 ?_ ?_ ?_ ?_
  · simp
  · simp
  · simp
  · simp -dsimp [w50, wFix_by, isInl]
    refine xL_by (by kernel_rfl) (fun k e H => ∃ i : Nat, i ≤ a.length ∧ k = a.length - i ∧ e 0 = slosV a ∧ e 1 = slosV a ∧ e 5 = .int .i64 i) a.length ?_ ?_
    · refine ⟨0, by omega, rfl, ?_⟩
      simp -dsimp
    · rintro k e H ⟨i, hi, hk, h0, h1, h5⟩
      by_cases c1 : i < a.length
      · have g1 : a[i]?.getD default = a[i] := by simp [c1]
        have w2 : IntKind.i64.wrap ((i : Int) + 1) = ((i + 1 : Nat) : Int) := by rw [Fz.w64 (by omega) (by omega)]; omega
        have z : sloQ a[i] a[i] = true := by simp [sloQ]
        simp -dsimp [h0, h1, h5, wFix_by, isInl, slosV, c1, g1, wOpt, w2, slo_leaves, z]
        refine ⟨a.length - (i + 1), by omega, i + 1, by omega, rfl, ?_⟩
        simp -dsimp [h0, h1, slosV]
      · simp -dsimp [h0, h1, h5, wFix_by, isInl, c1]
theorem words_self {a : List Wor} (ha : a.length ≤ 1000000) : Comes p 51 [worsV a, worsV a] (.bool true) := by
  refine Comes_of w51 rfl rfl k51 ?_ ?_ ?_ ?_
  · simp
  · simp
  · simp
  · simp -dsimp [w51, wFix_by, isInl]
    refine xL_by (by kernel_rfl) (fun k e H => ∃ i : Nat, i ≤ a.length ∧ k = a.length - i ∧ e 0 = worsV a ∧ e 1 = worsV a ∧ e 5 = .int .i64 i) a.length ?_ ?_
    · refine ⟨0, by omega, rfl, ?_⟩
      simp -dsimp
    · rintro k e H ⟨i, hi, hk, h0, h1, h5⟩
      by_cases c1 : i < a.length
      · have g1 : a[i]?.getD default = a[i] := by simp [c1]
        have w2 : IntKind.i64.wrap ((i : Int) + 1) = ((i + 1 : Nat) : Int) := by rw [Fz.w64 (by omega) (by omega)]; omega
        have z : worQ a[i] a[i] = true := by simp [worQ]
        simp -dsimp [h0, h1, h5, wFix_by, isInl, worsV, c1, g1, wOpt, w2, wor_leaves, z]
        refine ⟨a.length - (i + 1), by omega, i + 1, by omega, rfl, ?_⟩
        simp -dsimp [h0, h1, worsV]
      · simp -dsimp [h0, h1, h5, wFix_by, isInl, c1]
theorem spots_self {a : List Spo} (ha : a.length ≤ 1000000) : Comes p 52 [sposV a, sposV a] (.bool true) := by
  refine Comes_of w52 rfl rfl k52 ?_ ?_ ?_ ?_
  · simp
  · simp
  · simp
  · simp -dsimp [w52, wFix_by, isInl]
    refine xL_by (by kernel_rfl) (fun k e H => ∃ i : Nat, i ≤ a.length ∧ k = a.length - i ∧ e 0 = sposV a ∧ e 1 = sposV a ∧ e 5 = .int .i64 i) a.length ?_ ?_
    · refine ⟨0, by omega, rfl, ?_⟩
      simp -dsimp
    · rintro k e H ⟨i, hi, hk, h0, h1, h5⟩
      by_cases c1 : i < a.length
      · have g1 : a[i]?.getD default = a[i] := by simp [c1]
        have w2 : IntKind.i64.wrap ((i : Int) + 1) = ((i + 1 : Nat) : Int) := by rw [Fz.w64 (by omega) (by omega)]; omega
        have z : spoQ a[i] a[i] = true := by simp [spoQ]
        simp -dsimp [h0, h1, h5, wFix_by, isInl, sposV, c1, g1, wOpt, w2, spo_leaves, z]
        refine ⟨a.length - (i + 1), by omega, i + 1, by omega, rfl, ?_⟩
        simp -dsimp [h0, h1, sposV]
      · simp -dsimp [h0, h1, h5, wFix_by, isInl, c1]
theorem same_self {s : St} (hs : StLen s) (hm : by8 s.mem) (ho : by8 s.out) : Comes p 26 [stV s, stV s] (.bool true) := by
  have c1 := ints_self (a := s.data) (by have := hs.data; omega)
  have c2 := slots_self (a := s.ret) (by have := hs.ret; omega)
  have c3 := ints_self (a := s.ctl) (by have := hs.ctl; omega)
  have c4 := words_self (a := s.words) (by have := hs.words; omega)
  have c5 := spots_self (a := s.spots) (by have := hs.spots; omega)
  refine Comes_of w26 rfl rfl k26 ?_ ?_ ?_ ?_
  · simp
  · simp
  · simp
  · simp -dsimp [w26, wFix_by, isInl, call_by c1, call_by c2, call_by c3, call_by c4, call_by c5]
    simp -dsimp [byV, all8 hm, all8 ho]
structure StTy (s : St) : Prop where
  mem : by8 s.mem
  data : ∀ n ∈ s.data, i64 n
  ret : ∀ x ∈ s.ret, i64 x.v
  ctl : ∀ n ∈ s.ctl, i64 n
  words : ∀ x ∈ s.words, i64 x.code
  spots : ∀ x ∈ s.spots, i64 x.addr ∧ i64 x.at_
  out : by8 s.out
  regs : ∀ n ∈ [s.ip, s.here, s.at_, s.tok, s.in_, s.err], i64 n
def SloT : Ty := .agg [.int .i64, .bool]
def WorT : Ty := .agg [.str, .int .i64, .bool, .bool]
def SpoT : Ty := .agg [.int .i64, .int .i64]
def RnT : Ty := .agg [.int .i64, .sl (.int .u8)]
def StT : Ty := .agg [.sl (.int .u8), .sl (.int .i64), .sl SloT, .sl (.int .i64), .sl WorT, .sl SpoT, .sl (.int .u8), .int .i64, .int .i64, .int .i64, .int .i64, .int .i64, .int .i64, .bool, .bool]
theorem list_of {α : Type} {T : Ty} {f : α → V} {P : α → Prop} (h : ∀ v, HasT T v → ∃ a, v = f a ∧ P a) {v : V} (hv : HasT (.sl T) v) : ∃ l : List α, v = .list (l.map f) false ∧ ∀ a ∈ l, P a := by
  obtain ⟨vs, rfl, hh⟩ := hv
  have : ∃ l : List α, vs = l.map f ∧ ∀ a ∈ l, P a := by
    induction vs with
    | nil => exact ⟨[], rfl, fun a h => by cases h⟩
    | cons v vs ih =>
      obtain ⟨l, rfl, hl⟩ := ih fun x hx => hh x (List.mem_cons_of_mem _ hx)
      obtain ⟨a, rfl, ha⟩ := h v (hh v (List.mem_cons_self ..))
      refine ⟨a :: l, rfl, fun x hx => ?_⟩
      rcases List.mem_cons.1 hx with rfl | hx
      · exact ha
      · exact hl x hx
  obtain ⟨l, rfl, hl⟩ := this
  exact ⟨l, rfl, hl⟩
theorem u8_of {v : V} (h : HasT (.int .u8) v) : ∃ n, v = V.int .u8 n ∧ (0 ≤ n ∧ n < 256) := by
  obtain ⟨n, rfl, h1, h2⟩ := h
  have h1 : 0 ≤ n := h1
  have h2 : n ≤ 255 := h2
  exact ⟨n, rfl, by omega⟩
theorem i64_of {v : V} (h : HasT (.int .i64) v) : ∃ n, v = V.int .i64 n ∧ i64 n := by
  obtain ⟨n, rfl, h1, h2⟩ := h
  exact ⟨n, rfl, h1, h2⟩
theorem slo_of {v : V} (h : HasT SloT v) : ∃ s, v = sloV s ∧ i64 s.v := by
  obtain ⟨l, rfl, v1, r1, rfl, h1, v2, r2, rfl, ⟨b, rfl⟩, rfl⟩ := h
  obtain ⟨n, rfl, h1'⟩ := i64_of h1
  exact ⟨⟨n, b⟩, rfl, h1'⟩
theorem wor_of {v : V} (h : HasT WorT v) : ∃ s, v = worV s ∧ i64 s.code := by
  obtain ⟨l, rfl, v0, r0, rfl, ⟨s, rfl⟩, v1, r1, rfl, h1, v2, r2, rfl, ⟨b, rfl⟩, v3, r3, rfl, ⟨c, rfl⟩, rfl⟩ := h
  obtain ⟨n, rfl, h1'⟩ := i64_of h1
  exact ⟨⟨s, n, b, c⟩, rfl, h1'⟩
theorem spo_of {v : V} (h : HasT SpoT v) : ∃ s, v = spoV s ∧ (i64 s.addr ∧ i64 s.at_) := by
  obtain ⟨l, rfl, v1, r1, rfl, h1, v2, r2, rfl, h2, rfl⟩ := h
  obtain ⟨n, rfl, h1'⟩ := i64_of h1
  obtain ⟨m, rfl, h2'⟩ := i64_of h2
  exact ⟨⟨n, m⟩, rfl, h1', h2'⟩
theorem by_of {v : V} (h : HasT (.sl (.int .u8)) v) : ∃ b, v = byV b ∧ by8 b := list_of (fun _ h => u8_of h) h
theorem in_of {v : V} (h : HasT (.sl (.int .i64)) v) : ∃ b, v = inV b ∧ ∀ n ∈ b, i64 n := list_of (fun _ h => i64_of h) h
theorem st_of {v : V} (h : HasT StT v) : ∃ s, v = stV s ∧ StTy s := by
  obtain ⟨l, rfl, v1, r1, rfl, h1, v2, r2, rfl, h2, v3, r3, rfl, h3, v4, r4, rfl, h4, v5, r5, rfl, h5, v6, r6, rfl, h6, v7, r7, rfl, h7, v8, r8, rfl, h8, v9, r9, rfl, h9, v10, r10, rfl, h10, v11, r11, rfl, h11, v12, r12, rfl, h12, v13, r13, rfl, h13, v14, r14, rfl, ⟨b1, rfl⟩, v15, r15, rfl, ⟨b2, rfl⟩, rfl⟩ := h
  obtain ⟨a1, rfl, h1'⟩ := by_of h1
  obtain ⟨a2, rfl, h2'⟩ := in_of h2
  obtain ⟨a3, rfl, h3'⟩ := list_of (fun _ h => slo_of h) h3
  obtain ⟨a4, rfl, h4'⟩ := in_of h4
  obtain ⟨a5, rfl, h5'⟩ := list_of (fun _ h => wor_of h) h5
  obtain ⟨a6, rfl, h6'⟩ := list_of (fun _ h => spo_of h) h6
  obtain ⟨a7, rfl, h7'⟩ := by_of h7
  obtain ⟨n8, rfl, h8'⟩ := i64_of h8
  obtain ⟨n9, rfl, h9'⟩ := i64_of h9
  obtain ⟨n10, rfl, h10'⟩ := i64_of h10
  obtain ⟨n11, rfl, h11'⟩ := i64_of h11
  obtain ⟨n12, rfl, h12'⟩ := i64_of h12
  obtain ⟨n13, rfl, h13'⟩ := i64_of h13
  refine ⟨⟨a1, a2, a3, a4, a5, a6, a7, n8, n9, n10, n11, n12, n13, b1, b2⟩, rfl, ⟨h1', h2', h3', h4', h5', h6', h7', ?_⟩⟩
  intro n hn
  simp only [List.mem_cons, List.not_mem_nil, or_false] at hn
  rcases hn with rfl | rfl | rfl | rfl | rfl | rfl <;> assumption
theorem few_len {s : St} (h : fewB s = true) : s.mem.length ≤ 600 ∧ s.data.length ≤ 40 ∧ s.ret.length ≤ 40 ∧ s.ctl.length ≤ 200 ∧ s.words.length ≤ 40 ∧ s.spots.length ≤ 100 ∧ s.out.length ≤ 200 ∧ ∀ w ∈ s.words, w.name.size ≤ 60 := by
  unfold fewB at h
  simp only [Bool.and_eq_true, decide_eq_true_eq, List.all_eq_true] at h
  obtain ⟨h0, h1, h2, h3, h4, h5, h6, h7⟩ := h
  exact ⟨h1, h2, h3, h4, h5, h6, h7, fun w hw => h0 w (by rw [List.take_of_length_le (by omega)]; exact hw)⟩
theorem few_st {s : St} (h : fewB s = true) : StLen s := by
  obtain ⟨h1, h2, h3, h4, h5, h6, h7, _⟩ := few_len h
  constructor <;> omega
theorem stF (s : St) : V.agg (cellsOf (stV s)) = stV s := rfl
end Fz.D
set_option maxRecDepth 100000
namespace Go.Proofs
open Go Go.Shelf Go.RowKit
open Fz (upB upS)
theorem Tryz.blSize : (Tryz.prog.info? 129).map (·.size) = some 2 := by kernel_rfl
theorem Tryz.blLies : liesAt Tryz.prog Tryz.prog.depth 129 (2 / Tryz.prog.cellsOf 129) 0 129 1 = true := by kernel_rfl
theorem Tryz.blByte : (Tryz.prog.info? 5).map (fun i => (i.zero, i.size, i.bytes)) = some (some (.int .u8 0), 1, 1) := by kernel_rfl
set_option maxHeartbeats 1000000 in
theorem Tryz.bl_used (b : Nat) (w : World) (h0 : w.cell? ⟨b, 0, none⟩ = some (.pointer (some ⟨b, 0, none⟩))) :
    Calls Tryz.prog 195 #[.pointer (some ⟨b, 0, none⟩)] w fun e w' => e = .returned (.tuple #[]) ∧ w' = w := by
  obtain ⟨j, hj, _⟩ := Option.map_eq_some_iff.1 Tryz.blSize
  go_enter Tryz.func195, Tryz.ntmps195
  go_wp2
  rw [Lib.run_neq_ptr_same w _ Tryz.underlying127 hj]
  go_wp2
  go_end0
  exact ⟨rfl, rfl⟩
set_option maxHeartbeats 1000000 in
theorem Tryz.bl_fresh (b : Nat) (w : World) (h0 : w.cell? ⟨b, 0, none⟩ = some (.pointer none)) (hsh : w.shape? b = some (129, 2)) (hfz : w.frozen? ⟨b, 0, none⟩ = false) :
    Calls Tryz.prog 195 #[.pointer (some ⟨b, 0, none⟩)] w fun e w' => e = .returned (.tuple #[]) ∧ w' = w.setCell ⟨b, 0, none⟩ (.pointer (some ⟨b, 0, none⟩)) := by
  obtain ⟨j, hj, hjs⟩ := Option.map_eq_some_iff.1 Tryz.blSize
  go_enter Tryz.func195, Tryz.ntmps195
  go_wp2
  rw [Lib.run_to_unsafe w ⟨b, 0, none⟩ Tryz.underlying127 Tryz.underlying210 hj (by rw [hjs]; decide) hsh (Nat.zero_lt_succ 1)]
  simp only [Result.andThen]
  rw [Oper.upon_value]
  go_wp2
  rw [run_callFunc_extern Tryz.func336 (by kernel_rfl) (by kernel_rfl) (by kernel_rfl) (e := Extern.AbiNoEscape.same) (by kernel_rfl)]
  rw [Lib.run_noEscape]
  simp only [Result.andThen]
  rw [Oper.upon_value]
  go_wp2
  rw [Lib.run_from_unsafe w ⟨b, 0, none⟩ Tryz.underlying210 Tryz.underlying127 hj hsh Tryz.blLies]
  simp only [Result.andThen]
  rw [Oper.upon_value]
  go_wp2
  go_end0
  exact ⟨rfl, rfl⟩
theorem Tryz.bl_check (B b : Nat) (bs : List Value) (w : World) (h : Lib.IsBuilder 129 5 B b bs w) :
    Calls Tryz.prog 195 #[.pointer (some ⟨b, 0, none⟩)] w fun e w' => e = .returned (.tuple #[]) ∧ (Lib.BuilderAt 129 5 B b (.pointer (some ⟨b, 0, none⟩)) bs w' ∧ Below B w w') := by
  rcases h with h | h
  · refine (Tryz.bl_fresh b w h.cell0 h.shape h.frozen0).mono ?_
    rintro e w' ⟨rfl, rfl⟩
    exact ⟨rfl, h.used _, (Below.refl B w).setCell (p := ⟨b, 0, none⟩) h.1 _⟩
  · refine (Tryz.bl_used b w h.cell0).mono ?_
    rintro e w' ⟨rfl, rfl⟩
    exact ⟨rfl, h, Below.refl B _⟩
set_option maxHeartbeats 2000000 in
theorem Tryz.bl_write (B b : Nat) (bs : List Value) (c : Int) (w : World) (h : Lib.IsBuilder 129 5 B b bs w) (hlen : bs.length + 1 ≤ 140737488355328) (hBw : B ≤ w.heap.size) :
    Calls Tryz.prog 145 #[.pointer (some ⟨b, 0, none⟩), .int .u8 c] w fun e w' => e = .returned .nilIface ∧ (Lib.BuilderAt 129 5 B b (.pointer (some ⟨b, 0, none⟩)) (bs ++ [.int .u8 c]) w' ∧ Below B w w') := by
  obtain ⟨i0, hi, hz0, hz1, hz2⟩ := info_parts Tryz.blByte
  go_enter Tryz.func145, Tryz.ntmps145
  go_wp2_with (go_at_call 195; refine (Tryz.bl_check B b bs _ h).mono ?_)
  rintro e w1 ⟨rfl, h1, hb1⟩
  obtain ⟨hB, v, hbk, hown, hne⟩ := h1
  have c0 : w1.cell? ⟨b, 0, none⟩ = some (.pointer (some ⟨b, 0, none⟩)) := by rw [Lib.cell_of_heap hbk]; rfl
  have c1 : w1.cell? ⟨b, 1, none⟩ = some v := by rw [Lib.cell_of_heap hbk]; rfl
  go_wp2_with (at_builtin; refine wpList_append_own _ rfl _ _ 38 rfl B 5 i0 (.int .u8 0) 1 1 Tryz.underlying38 hi hz0 hz1 hz2 rfl (by decide) _ _ _ rfl (hown.alloc _) ⟨w1.heap.size, 0, none⟩ 1 1 [.int .u8 c] rfl rfl ?c1 ?c2 ?c3 ?c4 ?c5 ?_)
  case c1 =>
    intro j u hj
    match j, hj with
    | 0, hj => simp at hj; subst hj; simp [Addr.add]
  case c2 => intro u hu; simp at hu; subst hu; rfl
  case c3 => unfold maxLen; omega
  case c4 => omega
  case c5 => have := hb1.size; simp; omega
  intro v' w2 hown' hgrow _
  have hlt : b < w1.heap.size := by
    rcases Nat.lt_or_ge b w1.heap.size with h' | h'
    · exact h'
    · simp [Array.getElem?_eq_none h'] at hbk
  have hb2 : w2.heap[b]? = some (.cells #[.pointer (some ⟨b, 0, none⟩), v] 129 (0, 0)) := by
    rw [hgrow.block b (by simp; omega) (fun e => hne e.symm), Lib.alloc_old w1 _ b hlt]
    exact hbk
  have d0 : w2.cell? ⟨b, 0, none⟩ = some (.pointer (some ⟨b, 0, none⟩)) := by rw [Lib.cell_of_heap hb2]; rfl
  have d1 : w2.cell? ⟨b, 1, none⟩ = some v := by rw [Lib.cell_of_heap hb2]; rfl
  have f1 : w2.frozen? ⟨b, 1, none⟩ = false := Lib.frozen_of_heap hb2 1
  obtain ⟨g, cap, rfl⟩ : ∃ g cap, v' = .slice (some ⟨g, 0, none⟩) (bs.length + 1) cap := by
    rcases hown'.2 with ⟨_, h0⟩ | ⟨g, cap, cur, hv, _⟩
    · omega
    · exact ⟨g, cap, hv⟩
  go_wp2
  go_ret
  refine ⟨rfl, ?_, ?_⟩
  · exact Lib.BuilderAt.put (T := 129) (e := 5) hB hb2 (bs' := bs ++ [.int .u8 c]) (by simpa using hown') (by decide)
  · exact ((hb1.alloc (by have := hb1.size; omega) _).grown hgrow (by have := hb1.size; simp; omega) (fun k hk => (hown.lt k hk).1)).setCell (p := ⟨b, 1, none⟩) hB _
def Tryz.blRen : Go.Shelf.Ren := ⟨fun | 169 => 146 | n => n, fun | 70 => 127 | 9 => 9 | 0 => 0 | 72 => 129 | 37 => 38 | 127 => 173 | 3 => 3 | 5 => 5 | n => n, fun | n => n⟩
theorem Tryz.blLays : Go.Proofs.Lays.n169 Tryz.prog Tryz.blRen := {
  mixed := by kernel_rfl
  f169 := Tryz.func146.trans (congrArg some (by kernel_rfl))
  t0 := Tryz.underlying0
  a0 := Tryz.isAgg0
  z0 := Tryz.sizeOf0
  v0 := Tryz.zeroValue0
  t3 := Tryz.underlying3
  a3 := Tryz.isAgg3
  z3 := Tryz.sizeOf3
  v3 := Tryz.zeroValue3
  t9 := Tryz.underlying9
  a9 := Tryz.isAgg9
  z9 := Tryz.sizeOf9
  v9 := Tryz.zeroValue9
  t37 := Tryz.underlying38
  a37 := Tryz.isAgg38
  z37 := Tryz.sizeOf38
  v37 := Tryz.zeroValue38
  t70 := Tryz.underlying127
  a70 := Tryz.isAgg127
  z70 := Tryz.sizeOf127
  v70 := Tryz.zeroValue127
  t72 := Tryz.underlying129
  a72 := Tryz.isAgg129
  z72 := Tryz.sizeOf129
  v72 := Tryz.zeroValue129
  t127 := Tryz.underlying173
  a127 := Tryz.isAgg173
  z127 := Tryz.sizeOf173
  v127 := Tryz.zeroValue173 }
theorem Tryz.blExtra : Builder.Extra Tryz.prog Tryz.blRen := {
  sizeBuilder := by kernel_rfl
  liesBuilder := by kernel_rfl
  t5 := Tryz.underlying5
  a5 := Tryz.isAgg5
  z5 := Tryz.sizeOf5
  v5 := Tryz.zeroValue5
  infoByte := by kernel_rfl
  cellsByte := by kernel_rfl
  sizeByte := by kernel_rfl
  neB5 := by decide }
theorem Tryz.bl_string (B b : Nat) (l : List UInt8) (w : World) (h : Lib.IsBuilder 129 5 B b (Lib.byteCells l) w) (hBw : B ≤ w.heap.size) :
    Calls Tryz.prog 146 #[.pointer (some ⟨b, 0, none⟩)] w fun e w' => e = .returned (.string ⟨l.toArray⟩) ∧ Below B w w' := Any.Builder_String_any Tryz.blLays Tryz.blExtra B b l w h hBw
set_option maxHeartbeats 4000000 in
theorem Tryz.bl_cap (s : ByteArray) (B k : Nat) (hk : k < s.size) (w : World) (hc : w.cell? ⟨B, 0, none⟩ = some (.string s)) :
    Calls Tryz.prog 144 #[.int .i64 k, .pointer (some ⟨B, 0, none⟩)] w fun e w' => e = .returned (.int .u8 (upB s[k]).toNat) ∧ w' = w := by
  go_enter Tryz.func144, Tryz.ntmps144
  go_wp2
  · rename_i h1 h2
    go_ret
    refine ⟨?_, rfl⟩
    show Ending.returned (Value.int .u8 ((s[k].toNat : Int) - 97 + 65)) = _
    unfold upB
    rw [if_pos ⟨by omega, by omega⟩, UInt8.toNat_sub_of_le _ _ (by rw [UInt8.le_iff_toNat_le]; show 32 ≤ _; omega)]
    rw [show ((s[k].toNat - UInt8.toNat 32 : Nat) : Int) = (s[k].toNat : Int) - 97 + 65 from by show ((s[k].toNat - 32 : Nat) : Int) = _; omega]
  · rename_i h1 h2
    go_ret
    refine ⟨?_, rfl⟩
    show Ending.returned (Value.int .u8 (s[k].toNat : Int)) = _
    unfold upB
    rw [if_neg (by omega)]
  · rename_i h1
    go_ret
    refine ⟨?_, rfl⟩
    show Ending.returned (Value.int .u8 (s[k].toNat : Int)) = _
    unfold upB
    rw [if_neg (by omega)]
set_option maxHeartbeats 4000000 in
theorem Tryz.bl_fold (s : ByteArray) (w : World) (hs : s.size ≤ 35184372088832) :
    Calls Tryz.prog 41 #[.string s] w fun e w' => e = .returned (.string (upS s)) ∧ Below w.heap.size w w' := by
  go_enter Tryz.func41, Tryz.ntmps41
  go_wp2
  go_loopw [9] (fun i wr => ∃ k : Nat, k ≤ s.size ∧ i = .int .i64 k ∧ Lib.IsBuilder 129 5 (w.heap.size + 1) (w.heap.size + 1) (Lib.byteCells ((s.data.toList.take k).map upB)) wr ∧ wr.heap[w.heap.size]? = some (.cells #[.string s] 9 (0, 0)) ∧ Below w.heap.size w wr ∧ w.heap.size + 1 < wr.heap.size) (fun i _ => s.size - (intOf i).toNat)
  case atStart =>
    have e0 : (w.alloc (Obj.cells #[Value.string s] 9)).heap.size = w.heap.size + 1 := by simp
    have hf := Lib.fresh_isBuilder 129 5 (w.alloc (Obj.cells #[Value.string s] 9))
    rw [e0] at hf
    refine ⟨0, by omega, rfl, hf, ?_, ((Below.refl _ w).alloc (Nat.le_refl _) _).alloc (by simp) _, by simp⟩
    rw [Lib.alloc_old _ _ _ (by simp)]
    exact heap_alloc_new w _
  case round =>
    obtain ⟨k, hk, rfl, hI, hb, hbw, hsz⟩ := hrel
    have c0 : wr.cell? ⟨w.heap.size, 0, none⟩ = some (.string s) := by rw [Lib.cell_of_heap hb]; rfl
    have sz : s.data.toList.length = s.size := by rw [Array.length_toList]; rfl
    have hlen : (Lib.byteCells ((s.data.toList.take k).map upB)).length + 1 ≤ 140737488355328 := by
      rw [Lib.byteCells_length, List.length_map, List.length_take, sz]; omega
    by_cases hp : k < s.size
    · go_wp2_with (first
        | (go_at_call 144; refine (Tryz.bl_cap s w.heap.size k hp _ c0).mono ?_; rintro e w1 ⟨rfl, rfl⟩)
        | (go_at_call 145; refine (Tryz.bl_write (w.heap.size + 1) (w.heap.size + 1) _ _ _ hI hlen (by omega)).mono ?_; rintro e w2 ⟨rfl, h1, b1⟩))
      go_roundw
      case rel =>
        refine ⟨k + 1, by omega, by go_num, ?_, by rw [b1.block _ (by omega)]; exact hb, hbw.trans (b1.mono (by omega)), ?_⟩
        · have e1 : (s.data.toList.take (k + 1)).map upB = (s.data.toList.take k).map upB ++ [upB s[k]] := by
            rw [List.take_add_one, List.map_append]
            have : s.data.toList[k]? = some s[k] := by rw [Array.getElem?_toList]; exact Array.getElem?_eq_getElem hp
            rw [this]; rfl
          rw [e1, Lib.byteCells_append]; exact .inr h1
        · have := b1.size; omega
      case measure =>
        show s.size - ((k : Int) + 1).toNat < s.size - (k : Int).toNat
        omega
    · obtain rfl : k = s.size := by omega
      go_wp2_with (go_at_call 146; refine (Tryz.bl_string (w.heap.size + 1) (w.heap.size + 1) _ _ hI (by omega)).mono ?_; rintro e w1 ⟨rfl, b1⟩)
      go_ret
      refine ⟨?_, hbw.trans (b1.mono (by omega))⟩
      rw [List.take_of_length_le (by first | (rw [List.length_map, sz]; exact Nat.le_refl _) | (rw [sz]; exact Nat.le_refl _))]
      rfl
end Go.Proofs
set_option maxRecDepth 100000
namespace Fz.D
open Go Go.Proofs Go.Proofs.YtagdmfgnnhlakaaGreatDoor Go.ChangeShapes Go.WideShapes Go.ChangeAt Go.RowKit
def nr (af : AFun) : Bool := !hasR af.code && match af.dfr with
  | some (pre, _, _, r) => pre.all (fun c => !hasR c) && !hasR r
  | none => true
theorem rOkF_of {q : AP} {af : AFun} (h : nr af = true) : rOkF q af := by
  unfold nr at h
  rw [Bool.and_eq_true, Bool.not_eq_true'] at h
  refine ⟨rOk_of _ h.1, fun x hx => ?_⟩
  obtain ⟨pre, a, b, r⟩ := x
  rw [hx] at h
  simp only [Bool.and_eq_true, List.all_eq_true, Bool.not_eq_true'] at h
  exact ⟨fun c hc => rOk_of _ (h.2.1 c hc), rOk_of _ h.2.2⟩
theorem tab_nr : tab.all (fun x => nr x.2) = true := by kernel_rfl
theorem rng_ok {q : AP} (f : FuncId) (af : AFun) (h : lk tab f = some af) : rOkF q af := rOkF_of (List.all_eq_true.1 tab_nr _ (lk_mem _ _ _ h))
theorem lift_ok {P : Program} {f : FuncId} {g : List V → Option V} (hg : ∀ args v, g args = some v → ∀ (K : Kn) (β : Bi) (H : List Ob) (w : World) (cargs : Array Value), Inv K β H w → LR K β args cargs.toList → DoesOk P f cargs w (CallPost K β H w (.ret v) H))
    (args : List V) (H : List Ob) (v : V) (H' : List Ob) (h : liftP g args H = some (v, H')) (K : Kn) (β : Bi) (w : World) (cargs : Array Value) (hI : Inv K β H w) (ha : LR K β args cargs.toList) : DoesOk P f cargs w (CallPost K β H w (.ret v) H') := by
  obtain ⟨u, hu, h⟩ := Option.map_eq_some_iff.1 h
  cases h
  exact hg _ _ hu K β H w cargs hI ha
theorem fold_ok (args : List V) (v : V) (h : foldP args = some v) (K : Kn) (β : Bi) (H : List Ob) (w : World) (cargs : Array Value) (hI : Inv K β H w) (ha : LR K β args cargs.toList) : DoesOk Tryz.prog 41 cargs w (CallPost K β H w (.ret v) H) := by
  unfold foldP at h
  split at h
  · rename_i s
    split at h
    · rename_i hs
      cases h
      obtain ⟨cs⟩ := cargs
      obtain ⟨c, r, e, h1, h2⟩ := ha.head
      obtain rfl : r = [] := List.eq_nil_of_length_eq_zero h2.1.symm
      have e : cs = [c] := e
      subst e
      cases h1
      exact walked_ok Tryz.func41 (by kernel_rfl) rfl (by decide) hI (Tryz.bl_fold s w hs) (.str _)
    · cases h
  · cases h
theorem prim0_ok (f : FuncId) (g : List V → List Ob → Option (V × List Ob)) (h : prim0 f = some g) (args : List V) (H : List Ob) (v : V) (H' : List Ob) (hv : g args H = some (v, H')) (K : Kn) (β : Bi) (w : World) (cargs : Array Value) (hI : Inv K β H w) (ha : LR K β args cargs.toList) :
    DoesOk Tryz.prog f cargs w (CallPost K β H w (.ret v) H') := by
  unfold prim0 at h
  split at h
  · rename_i e; subst e; cases h; exact lift_ok fold_ok _ _ _ _ hv K β w cargs hI ha
  split at h
  · rename_i e; subst e; cases h; exact lift_ok (fun a v h K β H w c => idx_ok Tryz.func378 (by kernel_rfl) (by kernel_rfl) (by kernel_rfl) (fun a => by kernel_rfl) (by decide) a v h K β H w c) _ _ _ _ hv K β w cargs hI ha
  split at h
  · rename_i e; subst e; cases h; exact lift_ok (fun a v h K β H w c hI ha => prim_ok Tryz.func321 (by kernel_rfl) (by kernel_rfl) (by kernel_rfl) (fun a => by kernel_rfl) a v h K β H w c hI ha) _ _ _ _ hv K β w cargs hI ha
  split at h
  · rename_i e; subst e; cases h; exact lift_ok (fun a v h K β H w c hI ha => prim_ok Tryz.func184 (by kernel_rfl) (by kernel_rfl) (by kernel_rfl) (fun a => by kernel_rfl) a v h K β H w c hI ha) _ _ _ _ hv K β w cargs hI ha
  split at h
  · rename_i e; subst e; cases h; exact lift_ok (fun a v h K β H w c hI ha => prim_ok Tryz.func322 (by kernel_rfl) (by kernel_rfl) (by kernel_rfl) (fun a => by kernel_rfl) a v h K β H w c hI ha) _ _ _ _ hv K β w cargs hI ha
  split at h
  · rename_i e; subst e; cases h; exact lift_ok (fun a v h K β H w c hI ha => prim_ok Tryz.func323 (by kernel_rfl) (by kernel_rfl) (by kernel_rfl) (fun a => by kernel_rfl) a v h K β H w c hI ha) _ _ _ _ hv K β w cargs hI ha
  split at h
  · rename_i e; subst e; cases h; exact lift_ok (fun a v h K β H w c hI ha => prim_ok Tryz.func328 (by kernel_rfl) (by kernel_rfl) (by kernel_rfl) (fun a => by kernel_rfl) a v h K β H w c hI ha) _ _ _ _ hv K β w cargs hI ha
  cases h
theorem apOk0 : APOk Tryz.prog p0 where
  mixed := by kernel_rfl
  fn f af h := fn_ok f af h
  prim f g h args H v H' hv K β w cargs _ hI ha := prim0_ok f g h args H v H' hv K β w cargs hI ha
  rng f af h := rng_ok f af h
  bods := bods_ok
theorem laid_ok {l : List (List UInt8)} {f : FuncId} {n : Nat} (hn : l.length = n) (h : WFun p0 f [] [] fun r H => r = .ret (.own 0 0 n 1) ∧ H = [.live (l.map wV)]) (args : List V) (H : List Ob) (v : V) (H' : List Ob) (hv : laidP l args H = some (v, H')) : H = [] ∧ ∃ k, acall p0 k f args [] = some (.ret v, H') := by
  unfold laidP at hv
  split at hv
  · cases hv
    obtain ⟨k, r, G, h1, rfl, rfl⟩ := h
    exact ⟨rfl, k, by rw [h1, hn]⟩
  · cases hv
theorem apOk1 : APOk Tryz.prog p1 where
  mixed := by kernel_rfl
  fn f af h := fn_ok f af h
  prim f g h args H v H' hv K β w cargs hL hI ha := by
    have h : prim1 f = some g := h
    unfold prim1 at h
    split at h
    · rename_i e; subst e; cases h; exact proved_own apOk0 (laid_ok (by kernel_rfl) list_run) args H v H' hv K β w cargs hL hI ha
    exact prim0_ok f g h args H v H' hv K β w cargs hI ha
  rng f af h := rng_ok f af h
  bods := bods_ok
theorem apOk : APOk Tryz.prog p := apOk1
theorem bulkOk : Bulk (fun {_} => Rows.uptoBulk) (fun {_} => Rows.uptoBulkAll) where
  lit b := by simp [Rows.uptoBulk]
  pos d := by
    cases d with
    | lit l => cases l <;> simp [Rows.uptoBulk]
    | _ => simp [Rows.uptoBulk]
  agg l := by simp [Rows.uptoBulk]
  slice l m := by simp [Rows.uptoBulk]
  nil := by simp [Rows.uptoBulkAll]
  cons d l := by simp [Rows.uptoBulkAll]
theorem own : ownKnob Tryz.prog.godebug = none := by kernel_rfl
theorem laidOut : laidOutB Tryz.prog = true := by kernel_rfl
theorem frz_bool {k : Nat} {u u' : V} {b : Bool} {H H' : List Ob} (h : freezeV k u H = some (u', H')) (hn : nrm u' = .bool b) : u = .bool b := by
  cases k with
  | zero => cases h
  | succ k =>
    have hu : ∀ x, nrm x = .bool b → x = .bool b := by
      intro x hx
      cases x <;> first | (rw [nr_bool] at hx; exact hx) | (simp [nrm] at hx)
    have := hu u' hn
    subst this
    cases u with
    | bool c => simp [freezeV] at h; rw [h.1]
    | own a b c d => exfalso; simp only [freezeV] at h; repeat' split at h
                     all_goals first | (cases h; done) | simp at h
    | mref a => exfalso; simp only [freezeV] at h; repeat' split at h
                all_goals first | (cases h; done) | simp at h
    | agg l => simp only [freezeV] at h; obtain ⟨x, _, h⟩ := Option.map_eq_some_iff.1 h; simp at h
    | tuple l => simp only [freezeV] at h; obtain ⟨x, _, h⟩ := Option.map_eq_some_iff.1 h; simp at h
    | _ => simp [freezeV] at h
theorem done {f : FuncId} {args : List V} (h : Comes p f args (.bool true)) (hi : p.inlY f = false) : ∃ n H', acall p n f args [] = some (.ret (.bool true), H') := by
  obtain ⟨_, _, _, n, u, H', h3, h4⟩ := h
  rcases h4 with ⟨h4, rfl⟩ | ⟨_, u', H'', h5, h6⟩
  · rw [hi] at h4; cases h4
  · exact ⟨n, H', by rw [h3, frz_bool h5 h6]⟩
end Fz.D
set_option maxRecDepth 100000
namespace Go.Proofs.YtagdmfgnnhlakaaGreatDoor
open Fz Fz.D Go.ChangeShapes Go.WideShapes Go.ChangeAt Go.RowKit
theorem gTab : Tryz.prog.globalNamed "strings.asciiSpace" = some 0 := by kernel_rfl
theorem gTabType : (Tryz.prog.globals[0]?).map (·.type) = some 170 := by kernel_rfl
theorem cellsTab : Tryz.prog.cellsOf 170 = 256 := by kernel_rfl
theorem cells8 : Tryz.prog.cellsOf 5 = 1 := by kernel_rfl
theorem tab_data : (Rows.laid_strings_asciiSpace : DataW Unit) = Lib.tabData .u8 asciiN := by kernel_rfl
theorem glob_ok {W : World} (hL : laidMet Tryz.prog (("strings.asciiSpace", Lib.tabData .u8 asciiN) :: []) W) : GlobW W := by
  have t : Lib.TabIs Tryz.prog W "strings.asciiSpace" .u8 asciiN := Lib.tabIs_of_head (rest := []) gTab gTabType Tryz.underlying170 Tryz.underlying5 cells8 cellsTab hL
  intro g l hg
  unfold globs at hg
  split at hg
  · rename_i e
    subst e
    cases hg
    have hc : ∀ i, i < 256 → W.cell? ⟨0, i, none⟩ = some (.int .u8 (asciiN.getD i 0)) := fun i hi => t.cell gTab i (by rw [show asciiN.length = 256 from by kernel_rfl]; exact hi)
    obtain ⟨_, cs, e, fr, h1, h2⟩ := cell_block (hc 255 (by omega))
    have h1 : W.heap[0]? = some (.cells cs e fr) := h1
    have hsz : 255 < cs.size := (Array.getElem?_eq_some_iff.1 (show cs[255]? = _ from h2)).1
    refine ⟨cs, e, fr, h1, by rw [List.length_map, show asciiN.length = 256 from by kernel_rfl]; omega, fun i v hv => ?_⟩
    rw [List.getElem?_map, Option.map_eq_some_iff] at hv
    obtain ⟨n, hn, rfl⟩ := hv
    refine ⟨.u8, n, rfl, ?_⟩
    have hi : i < 256 := by rw [← show asciiN.length = 256 from by kernel_rfl]; exact (List.getElem?_eq_some_iff.1 hn).1
    obtain ⟨_, cs', e', fr', h3, h4⟩ := cell_block (hc i hi)
    have h3 : W.heap[0]? = some (.cells cs' e' fr') := h3
    rw [h1] at h3
    cases h3
    have h4 : cs[i]? = some (.int .u8 (asciiN.getD i 0)) := h4
    rw [Array.getD_eq_getD_getElem?, h4, List.getD_eq_getElem?_getD, hn]
    rfl
  · cases hg
def seatLaid : List (String × DataW Unit) := [("unicode.White_Space", Rows.laid_unicode_White_Space), ("strings.asciiSpace", Rows.laid_strings_asciiSpace)]
theorem glob_seat {W : World} (hL : laidMetH Tryz.prog seatLaid W) : GlobW W := by
  rw [MakeChecks.laidMetH_plain _ _ _ (by kernel_rfl)] at hL
  have h := hL.filter fun x => x.1 == "strings.asciiSpace"
  refine glob_ok ?_
  rw [← tab_data]
  exact h
theorem door_met (os : Os) (args : Array Value) : laidMetH Tryz.prog seatLaid ((World.doorLaid Tryz.prog 400 os).forCall (fun _ _ => 0) ⟨#[], args, []⟩).memory :=
  laidMetH_of_parts3 (fuel := 8) (laidMet_of_run' 8 (by kernel_rfl) (by kernel_rfl)) (by kernel_rfl) (by kernel_rfl)
end Go.Proofs.YtagdmfgnnhlakaaGreatDoor
set_option maxRecDepth 100000
namespace Fz.D
open Go
theorem list_s : Comes p 39 [] (.list (opsL.map wV) false) := ⟨rfl, by kernel_rfl, rfl, 1, .own 0 0 137 1, [.live (opsL.map wV)], by kernel_rfl, .inr ⟨rfl, .list (opsL.map wV) false, [.fixed (opsL.map wV)], by kernel_rfl, by kernel_rfl⟩⟩
theorem opsL_len : opsL.length = 137 := by kernel_rfl
theorem is_s (op : Int) : Comes p 28 [.int .i64 op] (.bool (decide (1 ≤ op) && decide (op ≤ 137))) := by
  refine Comes_of w28 rfl rfl k28 ?_ ?_ ?_ ?_
  · simp
  · simp
  · simp
  · by_cases c1 : (1 : Int) ≤ op <;> by_cases c2 : op ≤ (137 : Int) <;> simp -dsimp [w28, wFix_by, isInl, c1, c2, call_by list_s, opsL_len]
def nameF (op : Int) : ByteArray := if 1 ≤ op ∧ op ≤ 137 then ⟨(opsL[op.toNat - 1]?.getD []).toArray⟩ else ⟨#[]⟩
theorem name_s (op : Int) : Comes p 17 [.int .i64 op] (.str (nameF op)) := by
  have h := is_s op
  refine Comes_of w17 rfl rfl k17 ?_ ?_ ?_ ?_
  · simp
  · simp
  · simp
  · by_cases c1 : (1 : Int) ≤ op
    · by_cases c2 : op ≤ (137 : Int)
      · obtain ⟨n, rfl⟩ : ∃ n : Nat, op = (n : Int) + 1 := ⟨(op - 1).toNat, by omega⟩
        have e : nameF ((n : Int) + 1) = ⟨(opsL[n]?.getD []).toArray⟩ := by
          unfold nameF
          rw [if_pos ⟨c1, c2⟩]
          congr
        have w1 : IntKind.i64.wrap (n : Int) = (n : Int) := Fz.w64 (by omega) (by omega)
        have hm : n < 137 := by omega
        have hn : n < opsL.length := by rw [opsL_len]; omega
        rw [e]
        simp only [c1, c2, decide_true, Bool.and_true] at h
        simp -dsimp [w17, wFix_by, isInl, call_by h, call_by list_s, opsL_len, w1, hm, wV]
        all_goals rfl
      · simp only [c1, c2, decide_false, Bool.and_false] at h
        have e : nameF op = ⟨#[]⟩ := by unfold nameF; rw [if_neg (by omega)]
        simp -dsimp [w17, wFix_by, isInl, call_by h, e]
    · simp only [c1, decide_false, Bool.false_and] at h
      have e : nameF op = ⟨#[]⟩ := by unfold nameF; rw [if_neg (by omega)]
      simp -dsimp [w17, wFix_by, isInl, call_by h, e]
end Fz.D
set_option maxRecDepth 100000
namespace Fz.D
open Go
def madeF (f : FuncId) (args : List V) : Option V := (acall p 1000 f args []).bind fun x => match x.1 with
  | .ret u => (freezeV depthF u x.2).map fun y => nrm y.1
  | .panic _ => none
theorem Comes_made {f : FuncId} {args : List V} {v : V} (h : madeF f args = some v) (ha : args.all gr = true) (hv : gr v = true) (hn : args.all nm = true) (hi : p.inlY f = false) : Comes p f args v := by
  unfold madeF at h
  obtain ⟨⟨r, H⟩, h1, h2⟩ := Option.bind_eq_some_iff.1 h
  cases r with
  | ret u =>
    obtain ⟨⟨u', H'⟩, h3, h4⟩ := Option.map_eq_some_iff.1 h2
    exact ⟨ha, hv, by rw [hn, Bool.or_true], 1000, u, H, h1, .inr ⟨hi, u', H', h3, h4⟩⟩
  | panic u => cases h2
end Fz.D
set_option maxRecDepth 100000
namespace Fz.D
open Go
def thrown (e : Int) : V := .iface 67 (.int .i64 e)
theorem doesQ_of {p : AP} {f : FuncId} {l gs : List V} {v : V} {l' : List V} (hi : p.inlY f = true) (h1 : groundL l = true) (h2 : groundL gs = true) (h3 : ground v = true) (h4 : groundL l' = true)
    (h : WFun p f (.ptr 0 0 :: gs) [.live l] fun r H => r = .ret v ∧ ∃ Hx, H = .live l' :: Hx) : Does p f l gs v l' := by
  obtain ⟨n, r, H, e, rfl, Hx, rfl⟩ := h
  exact ⟨hi, h1, h2, h3, h4, n, Hx, e⟩
theorem doesQ_go {p : AP} {f : FuncId} {l gs : List V} {v : V} {l' : List V} {H : List Ob} {i : Nat} {Q : CR → List Ob → Prop} (h : Does p f l gs v l') (hi : H[i]? = some (.live l)) (hq : Q (.ret v) (H.set i (.live l'))) : xCall p f (.ptr i 0 :: gs) H Q := by
  show WCall p f (.ptr i 0 :: gs) H Q
  rw [WCall_does h hi]; exact hq
theorem reachQ {H : List Ob} {i : Nat} {l : List V} (hi : H[i]? = some (.live l)) (hl : refsL l = []) : reach H 1000 [i] [] = some [i] := by
  refine (reach_go (k := 999) rfl hi).trans ?_
  rw [show refsOb (.live l) = [] from hl]
  exact reach_end (k := 998)
def PV (b : Nat) (J : List Ob) (v : V) (l : List Int) : Prop := (∃ c, v = .list (l.map (V.int .i64)) c) ∨ ∃ j, v = .own (b + j) 0 l.length 1 ∧ J[j]? = some (.live (l.map (V.int .i64)))
end Fz.D
set_option maxRecDepth 100000
namespace Fz.D
open Go
def leN : List Int → Nat
  | [] => 0
  | c :: r => c.toNat + 256 * leN r
theorem leN_app : ∀ (a b : List Int), leN (a ++ b) = leN a + 256 ^ a.length * leN b
  | [], b => by simp [leN]
  | c :: a, b => by
    rw [List.cons_append, leN, leN, leN_app a b, List.length_cons, Nat.pow_succ, Nat.mul_add, ← Nat.mul_assoc, Nat.mul_comm 256 (256 ^ a.length)]
    omega
theorem leN_lt : ∀ (a : List Int), by8 a → leN a < 256 ^ a.length
  | [], _ => by simp [leN]
  | c :: a, h => by
    have h1 := h c (List.mem_cons_self ..)
    have h2 := leN_lt a fun x hx => h x (List.mem_cons_of_mem _ hx)
    rw [leN, List.length_cons, Nat.pow_succ]
    omega
def cellE (m : List Int) (i : Int) : Int := if i < 0 ∨ (m.length : Int) - 8 < i then -9 else if i % 8 = 0 then 0 else -23
def cellN (m : List Int) (i : Int) : Int := if cellE m i = 0 then IntKind.i64.wrap (leN ((m.drop i.toNat).take 8) : Nat) else 0
def spanE (m : List Int) (i n : Int) : Int := if i < 0 ∨ n < 0 ∨ (m.length : Int) < n ∨ (m.length : Int) - n < i then -9 else 0
def spanB (m : List Int) (i n : Int) : List Int := if spanE m i n = 0 then (m.drop i.toNat).take n.toNat else []
theorem span_s {m : List Int} {i n : Int} (hm : m.length ≤ 1000000) (hi : i64 i) (hn : i64 n) : Comes p 161 [byV m, .int .i64 i, .int .i64 n] (.tuple [byV (spanB m i n), .int .i64 (spanE m i n)]) := by
  unfold i64 at hi hn
  refine Comes_of w161 rfl rfl k161 ?_ ?_ ?_ ?_
  · simp
  · simp
  · simp
  · by_cases c1 : i < 0
    · have e : spanE m i n = -9 := by unfold spanE; rw [if_pos (.inl c1)]
      simp -dsimp [w161, wFix_by, isInl, c1, e, spanB, byV]
    · by_cases c2 : n < 0
      · have e : spanE m i n = -9 := by unfold spanE; rw [if_pos (.inr (.inl c2))]
        simp -dsimp [w161, wFix_by, isInl, c1, c2, e, spanB, byV]
      · by_cases c3 : (m.length : Int) < n
        · have e : spanE m i n = -9 := by unfold spanE; rw [if_pos (.inr (.inr (.inl c3)))]
          simp -dsimp [w161, wFix_by, isInl, c1, c2, c3, e, spanB, byV]
        · have w1 : IntKind.i64.wrap ((m.length : Int) - n) = (m.length : Int) - n := Fz.w64 (by omega) (by omega)
          by_cases c4 : (m.length : Int) - n < i
          · have e : spanE m i n = -9 := by unfold spanE; rw [if_pos (.inr (.inr (.inr c4)))]
            simp -dsimp [w161, wFix_by, isInl, c1, c2, c3, c4, w1, e, spanB, byV]
          · have e : spanE m i n = 0 := by unfold spanE; rw [if_neg (by omega)]
            have w2 : IntKind.i64.wrap (i + n) = i + n := Fz.w64 (by omega) (by omega)
            simp -dsimp [w161, wFix_by, isInl, c1, c2, c3, c4, w1, w2, e, spanB, byV]
            refine ⟨by omega, by omega, ⟨by omega, by omega⟩, ?_⟩
            rw [show (i + n).toNat - i.toNat = n.toNat from by omega, ← List.map_drop, ← List.map_take]
            generalize (m.drop i.toNat).take n.toNat = L
            simp
theorem aligned_s {m : List Int} {i : Int} (hm : m.length ≤ 1000000) (hi : i64 i) : Comes p 53 [byV m, .int .i64 i] (.tuple [byV (if cellE m i = 0 then (m.drop i.toNat).take 8 else []), .int .i64 (cellE m i)]) := by
  have c := span_s (m := m) (i := i) (n := 8) hm hi (by unfold i64; omega)
  unfold i64 at hi
  refine Comes_of w53 rfl rfl k53 ?_ ?_ ?_ ?_
  · simp
  · simp
  · simp
  · by_cases c1 : spanE m i 8 = 0
    · have h1 : 0 ≤ i ∧ i + 8 ≤ m.length := by
        unfold spanE at c1
        split at c1
        · cases c1
        · omega
      have eb : spanB m i 8 = (m.drop i.toNat).take 8 := by unfold spanB; rw [if_pos c1]; rfl
      rw [c1, eb] at c
      have em : Int.tmod i 8 = i % 8 := Int.tmod_eq_emod_of_nonneg h1.1
      have wm : IntKind.i64.wrap (i % 8) = i % 8 := Fz.w64 (by omega) (by omega)
      by_cases c2 : i % 8 = 0
      · have e : cellE m i = 0 := by unfold cellE; rw [if_neg (by omega), if_pos c2]
        generalize (m.drop i.toNat).take 8 = L at *
        simp -dsimp [w53, wFix_by, isInl, call_by c, em, wm, c2, e]
      · have e : cellE m i = -23 := by unfold cellE; rw [if_neg (by omega), if_neg c2]
        generalize (m.drop i.toNat).take 8 = L at *
        simp -dsimp [w53, wFix_by, isInl, call_by c, em, wm, c2, e, show byV [] = V.list [] false from rfl]
    · have e9 : spanE m i 8 = -9 := by
        unfold spanE at *
        split
        · rfl
        · rename_i h; rw [if_neg h] at c1; exact absurd rfl c1
      have e : cellE m i = -9 := by
        unfold cellE; rw [if_pos]
        unfold spanE at e9
        split at e9
        · omega
        · cases e9
      have eb : spanB m i 8 = [] := by unfold spanB; rw [if_neg c1]
      rw [e9, eb] at c
      simp -dsimp [w53, wFix_by, isInl, call_by c, e]
theorem or_add (n k b : Nat) (hn : n < 2 ^ k) : n ||| (b * 2 ^ k) = n + b * 2 ^ k := by
  rw [Nat.or_comm, ← Nat.shiftLeft_eq, ← Nat.shiftLeft_add_eq_or_of_lt hn, Nat.add_comm]
theorem u64_nat {x : Nat} (h : x < 18446744073709551616) : IntKind.u64.wrap (x : Int) = x := by
  show (x : Int) % 18446744073709551616 = _
  omega
theorem pow_min {j : Nat} (h : j < 8) : ((2 : Int) ^ min (8 * (j : Int)).toNat IntKind.u64.bits) = ((256 ^ j : Nat) : Int) := by
  rw [show (8 * (j : Int)).toNat = 8 * j from by omega, show min (8 * j) IntKind.u64.bits = 8 * j from Nat.min_eq_left (by show 8 * j ≤ 64; omega), show (256 : Nat) ^ j = 2 ^ (8 * j) from by rw [Nat.pow_mul]]
  exact (Int.natCast_pow 2 (8 * j)).symm
theorem le_step {L : List Int} {j : Nat} (hb : by8 L) (hl : L.length ≤ 8) (hj : j < L.length) : IntKind.u64.wrap ((leN (L.take j) % 2 ^ IntKind.u64.bits ||| (IntKind.u64.wrap (IntKind.u64.wrap L[j] * 2 ^ min (8 * (j : Int)).toNat IntKind.u64.bits) % 2 ^ IntKind.u64.bits).toNat : Nat) : Int) = (leN (L.take (j + 1)) : Nat) := by
  have hc := hb L[j] (List.getElem_mem hj)
  obtain ⟨c, hc'⟩ : ∃ c : Nat, L[j] = c := ⟨L[j].toNat, by omega⟩
  have h1 := leN_lt (L.take j) fun x hx => hb x (List.mem_of_mem_take hx)
  rw [List.length_take, Nat.min_eq_left (by omega)] at h1
  have h2 : leN (L.take (j + 1)) = leN (L.take j) + c * 256 ^ j := by
    rw [List.take_succ_eq_append_getElem hj, leN_app, hc', List.length_take, Nat.min_eq_left (by omega), leN, leN, Nat.mul_zero, Nat.add_zero, Nat.mul_comm]
    simp
  have p1 : 256 ^ j * 256 ≤ 18446744073709551616 := by
    rw [← Nat.pow_succ]
    exact Nat.pow_le_pow_right (by omega) (show j + 1 ≤ 8 by omega)
  have hc2 : c < 256 := by omega
  have h3 : c * 256 ^ j + 256 ^ j ≤ 256 ^ j * 256 := by
    rw [← Nat.succ_mul, Nat.mul_comm (256 ^ j)]
    exact Nat.mul_le_mul_right _ hc2
  rw [pow_min (by omega), hc', u64_nat (x := c) (by omega), h2, ← Int.natCast_mul, u64_nat (x := c * 256 ^ j) (by omega)]
  rw [show (2 : Int) ^ IntKind.u64.bits = 18446744073709551616 from rfl, show 2 ^ IntKind.u64.bits = 18446744073709551616 from rfl, Nat.mod_eq_of_lt (by omega), show (((c * 256 ^ j : Nat) : Int) % 18446744073709551616).toNat = c * 256 ^ j from by omega]
  have h4 := or_add (leN (L.take j)) (8 * j) c (by rw [Nat.pow_mul]; exact h1)
  rw [Nat.pow_mul, show 2 ^ 8 = 256 from rfl] at h4
  rw [h4, u64_nat (by omega)]
theorem cell_s {m : List Int} {i : Int} (h8 : by8 m) (hm : m.length ≤ 1000000) (hi : i64 i) : Comes p 27 [byV m, .int .i64 i] (.tuple [.int .i64 (cellN m i), .int .i64 (cellE m i)]) := by
  have c := aligned_s (m := m) (i := i) hm hi
  obtain ⟨L, hL⟩ : ∃ L, L = if cellE m i = 0 then (m.drop i.toNat).take 8 else [] := ⟨_, rfl⟩
  rw [← hL] at c
  have hlen : L.length ≤ 8 := by rw [hL]; split <;> simp; omega
  have hb : by8 L := by
    rw [hL]; split
    · exact fun x hx => h8 x (List.mem_of_mem_drop (List.mem_of_mem_take hx))
    · exact fun x hx => by cases hx
  have hv : cellN m i = IntKind.i64.wrap (leN L : Nat) := by
    unfold cellN; rw [hL]; split
    · rfl
    · rfl
  rw [hv]
  refine Comes_of w27 rfl rfl k27 ?_ ?_ ?_ ?_
  · simp
  · simp
  · simp
  · simp -dsimp [w27, wFix_by, isInl, call_by c]
    refine xL_by (by kernel_rfl) (fun k e H => ∃ j : Nat, j ≤ L.length ∧ k = L.length - j ∧ e 6 = byV L ∧ e 7 = .int .i64 (cellE m i) ∧ e 8 = .int .u64 (leN (L.take j) : Nat) ∧ e 17 = .int .i64 L.length ∧ e 18 = .int .i64 j ∧ H = []) L.length ?_ ?_
    · refine ⟨0, by omega, rfl, ?_⟩
      simp -dsimp [leN, byV]
    · rintro k e H ⟨j, hj, hk, h6, h7, h8, h17, h18, rfl⟩
      by_cases c1 : j < L.length
      · have w0 : IntKind.i64.wrap (8 * (j : Int)) = 8 * (j : Int) := Fz.w64 (by omega) (by omega)
        have g1 : L[j]?.getD default = L[j] := by simp [c1]
        simp -dsimp [h6, h7, h8, h17, h18, c1, byV, w0, g1]
        refine ⟨by omega, L.length - (j + 1), by omega, j + 1, by omega, rfl, ?_⟩
        simp -dsimp [h6, h7, h8, h17, h18, byV]
        exact ⟨le_step hb hlen c1, Fz.w64 (by omega) (by omega)⟩
      · have hjl : j = L.length := by omega
        subst hjl
        simp -dsimp [h6, h7, h8, h17, h18, c1, byV, wFix_by, isInl]
end Fz.D
set_option maxRecDepth 100000
namespace Fz.D
open Go
structure Stp where
  source : ByteArray
  input : List Int
  size : Int
  depth : Int
  room : Int
def stpV (x : Stp) : V := .agg [.str x.source, byV x.input, .int .i64 x.size, .int .i64 x.depth, .int .i64 x.room]
@[simp] theorem stpV.gd (x : Stp) : ground (stpV x) = true := by simp [stpV]
@[simp] theorem stpV.gk (x : Stp) (k : Nat) : gk (k + 2) (stpV x) = true := by simp [stpV]
@[simp] theorem stpV.nr (x : Stp) : nrm (stpV x) = stpV x := by simp [stpV]
@[simp] theorem stpV.nm (x : Stp) : nm (stpV x) = true := by simp [stpV]
@[simp] theorem stpV.any (x : Stp) : isAny (stpV x) = false := rfl
@[simp] theorem stpV.cells (x : Stp) : cellsOf (stpV x) = [.str x.source, byV x.input, .int .i64 x.size, .int .i64 x.depth, .int .i64 x.room] := rfl
structure StpTy (x : Stp) : Prop where
  input : by8 x.input
  size : i64 x.size
  depth : i64 x.depth
  room : i64 x.room
theorem setup_of {v : V} (h : HasT (.agg [.str, .sl (.int .u8), .int .i64, .int .i64, .int .i64]) v) : ∃ x, v = stpV x ∧ StpTy x := by
  obtain ⟨l, rfl, v1, r1, rfl, ⟨s, rfl⟩, v2, r2, rfl, h2, v3, r3, rfl, h3, v4, r4, rfl, h4, v5, r5, rfl, h5, rfl⟩ := h
  obtain ⟨a2, rfl, h2'⟩ := by_of h2
  obtain ⟨n3, rfl, h3'⟩ := i64_of h3
  obtain ⟨n4, rfl, h4'⟩ := i64_of h4
  obtain ⟨n5, rfl, h5'⟩ := i64_of h5
  exact ⟨⟨s, a2, n3, n4, n5⟩, rfl, h2', h3', h4', h5'⟩
def winB (a b c : Int) : Bool := decide (b ≤ a) && decide (a ≤ c)
def mayB (x : Stp) : Bool := winB x.size 512 65536 && (decide (Int.tmod x.size 8 = 0) && (winB x.depth 4 256 && (winB x.room 0 65536 && (decide ((x.source.size : Int) ≤ 4096) && decide ((x.input.length : Int) ≤ 4096)))))
def mayE (x : Stp) : Int := if mayB x then 0 else 1
end Fz.D
set_option maxRecDepth 100000
namespace Fz.D
open Go
def wk (x : Stp) (w : Int) (c : Bool) (q : St × Int) : List V := [byV q.1.mem, inV q.1.data, .list (q.1.ret.map sloV) c, inV q.1.ctl, worsV q.1.words, sposV q.1.spots, byV q.1.out, .int .i64 q.1.ip, .int .i64 q.1.here, .int .i64 q.1.at_, .int .i64 q.1.tok, .int .i64 q.1.in_, .int .i64 q.1.err, .bool q.1.comp, .bool q.1.halt,
  .str x.source, byV x.input, .int .i64 x.size, .int .i64 x.depth, .int .i64 x.room, .int .i64 w, .int .i64 q.2]
theorem wk_g {x : Stp} {w : Int} {c : Bool} {q : St × Int} : groundL (wk x w c q) = true := by simp [wk]
theorem wk_e (x : Stp) (w : Int) (c : Bool) (s : St) (e : Int) : wk x w c (s, e) = [byV s.mem, inV s.data, .list (s.ret.map sloV) c, inV s.ctl, worsV s.words, sposV s.spots, byV s.out, .int .i64 s.ip, .int .i64 s.here, .int .i64 s.at_, .int .i64 s.tok, .int .i64 s.in_, .int .i64 s.err, .bool s.comp, .bool s.halt,
  .str x.source, byV x.input, .int .i64 x.size, .int .i64 x.depth, .int .i64 x.room, .int .i64 w, .int .i64 e] := rfl
def mustM (b : Bool) (e' : Int) (q : St × Int) : St × Int := (q.1, if q.2 = 0 then (if b then 0 else e') else q.2)
def takeM (q : St × Int) : Int × (St × Int) := if q.2 = 0 then (q.1.data.getLast?.getD 0, ({ q.1 with data := q.1.data.dropLast }, if q.1.data = [] then -4 else 0)) else (0, q)
def giveM (x : Stp) (v : Int) (q : St × Int) : St × Int := if q.2 = 0 then (if (q.1.data.length : Int) + 1 ≤ x.depth then ({ q.1 with data := q.1.data ++ [v] }, 0) else (q.1, -3)) else q
def jumpM (a : Int) (q : St × Int) : St × Int := if q.2 = 0 then ({ q.1 with ip := a }, 0) else q
def backM (x : Stp) (m : List Slo) (q : St × Int) : St × Int := if q.2 = 0 then (if (q.1.ret.length : Int) + m.length ≤ x.depth then ({ q.1 with ret := q.1.ret ++ m }, 0) else (q.1, -5)) else q
def backsM (n : Nat) (q : St × Int) : List Int × (St × Int) := if q.2 = 0 then (if n ≤ q.1.ret.length then ((q.1.ret.drop (q.1.ret.length - n)).map Slo.v, ({ q.1 with ret := q.1.ret.take (q.1.ret.length - n) }, 0)) else (List.replicate n 0, (q.1, -6))) else (List.replicate n 0, q)
def backC (x : Stp) (m : List Slo) (c : Bool) (q : St × Int) : Bool := if q.2 = 0 ∧ (q.1.ret.length : Int) + m.length ≤ x.depth then false else c
def backsC (n : Nat) (c : Bool) (q : St × Int) : Bool := if q.2 = 0 ∧ n ≤ q.1.ret.length then true else c
def peekM (x : Stp) (n : Nat) (q : St × Int) : St × Int := if q.2 = 0 then (if n < q.1.ret.length then giveM x ((q.1.ret.getD (q.1.ret.length - 1 - n) ⟨0, false⟩).v) q else (q.1, -6)) else q
theorem ok_W {x : Stp} {w : Int} {c : Bool} {q : St × Int} : Does p 48 (wk x w c q) [] (.bool (decide (q.2 = 0))) (wk x w c q) := by
  obtain ⟨s, e⟩ := q
  refine doesQ_of (by kernel_rfl) wk_g rfl rfl wk_g ?_
  refine WFun_of w48 rfl rfl k48 ?_
  simp -dsimp [w48, wk_e]
theorem ok_0 {x : Stp} {w : Int} {c : Bool} {s : St} : Does p 48 (wk x w c (s, 0)) [] (.bool true) (wk x w c (s, 0)) := ok_W (q := (s, 0))
theorem ok_n {x : Stp} {w : Int} {c : Bool} {s : St} {e : Int} (h : ¬ e = 0) : Does p 48 (wk x w c (s, e)) [] (.bool false) (wk x w c (s, e)) := by
  have o := ok_W (x := x) (w := w) (c := c) (q := (s, e))
  rwa [decide_eq_false h] at o
theorem must_W {x : Stp} {w : Int} {c : Bool} {q : St × Int} (b : Bool) (e' : Int) : Does p 157 (wk x w c q) [.bool b, .int .i64 e'] (.tuple []) (wk x w c (mustM b e' q)) := by
  obtain ⟨s, e⟩ := q
  refine doesQ_of (by kernel_rfl) wk_g rfl rfl wk_g ?_
  refine WFun_of w157 rfl rfl k157 ?_
  simp -dsimp [w157]
  by_cases he : e = 0
  · subst he
    refine doesQ_go ok_0 rfl ?_
    cases b
    · simp -dsimp [mustM, wk_e]
    · simp -dsimp [mustM]
  · refine doesQ_go (ok_n he) rfl ?_
    simp -dsimp [mustM, he]
theorem must_t {x : Stp} {w : Int} {c : Bool} {q : St × Int} {e' : Int} : Does p 157 (wk x w c q) [.bool true, .int .i64 e'] (.tuple []) (wk x w c q) := by
  have m := must_W (x := x) (w := w) (c := c) (q := q) true e'
  obtain ⟨s, e⟩ := q
  have : mustM true e' (s, e) = (s, e) := by unfold mustM; by_cases h : e = 0 <;> simp [h]
  rwa [this] at m
theorem must_n {x : Stp} {w : Int} {c : Bool} {s : St} {e e' : Int} (b : Bool) (h : ¬ e = 0) : Does p 157 (wk x w c (s, e)) [.bool b, .int .i64 e'] (.tuple []) (wk x w c (s, e)) := by
  have m := must_W (x := x) (w := w) (c := c) (q := (s, e)) b e'
  have : mustM b e' (s, e) = (s, e) := by unfold mustM; simp [h]
  rwa [this] at m
theorem must_f {x : Stp} {w : Int} {c : Bool} {s : St} {e' : Int} : Does p 157 (wk x w c (s, 0)) [.bool false, .int .i64 e'] (.tuple []) (wk x w c (s, e')) := must_W (q := (s, 0)) false e'
theorem jump_W {x : Stp} {w : Int} {c : Bool} {q : St × Int} (a : Int) : Does p 160 (wk x w c q) [.int .i64 a] (.tuple []) (wk x w c (jumpM a q)) := by
  obtain ⟨s, e⟩ := q
  refine doesQ_of (by kernel_rfl) wk_g rfl rfl wk_g ?_
  refine WFun_of w160 rfl rfl k160 ?_
  simp -dsimp [w160]
  by_cases he : e = 0
  · subst he
    refine doesQ_go ok_0 rfl ?_
    simp -dsimp [jumpM, wk_e]
  · refine doesQ_go (ok_n he) rfl ?_
    simp -dsimp [jumpM, he]
end Fz.D
set_option maxRecDepth 100000
namespace Fz.D
open Go
theorem zeros_gd {z : List V} (h : groundL z = true) : ∀ k, groundL (zeros z k) = true
  | 0 => rfl
  | k + 1 => by
    rw [zeros, groundL_eq, List.all_append, ← groundL_eq, ← groundL_eq, h, zeros_gd h k]; rfl
theorem zeros_len {z : List V} : ∀ k, (zeros z k).length = k * z.length
  | 0 => by simp [zeros]
  | k + 1 => by rw [zeros, List.length_append, zeros_len k, Nat.succ_mul]; omega
def totA {α : Type} (ls : List (List α)) : Nat := (ls.map List.length).sum
theorem totA_take {α : Type} (ls : List (List α)) (i : Nat) : totA (ls.take i) ≤ totA ls := by
  unfold totA
  conv => rhs; rw [← List.take_append_drop i ls]
  rw [List.map_append, List.sum_append]; omega
theorem totA_succ {α : Type} (ls : List (List α)) (i : Nat) (h : i < ls.length) : totA (ls.take (i + 1)) = totA (ls.take i) + ls[i].length := by
  unfold totA
  rw [List.take_succ_eq_append_getElem h, List.map_append, List.sum_append]; simp
def catA {α : Type} (ls : List (List α)) : List α := ls.flatten
@[simp] theorem catA_nil {α : Type} : catA ([] : List (List α)) = [] := rfl
theorem catA_len {α : Type} (ls : List (List α)) : (catA ls).length = totA ls := by
  unfold totA catA; rw [List.length_flatten]
theorem catA_succ {α : Type} (ls : List (List α)) (i : Nat) (h : i < ls.length) : catA (ls.take (i + 1)) = catA (ls.take i) ++ ls[i] := by
  unfold catA
  rw [List.take_succ_eq_append_getElem h, List.flatten_append]; simp
theorem grow_slo {n : Int} {H : List Ob} {Q : CR → List Ob → Prop} (h0 : 0 ≤ n) (h1 : n ≤ 10000000) (hq : ∀ v J, Ac 2 H.length J v [] → Q (.ret v) (H ++ J)) : WCall p 354 [.list [] true, .int .i64 n] H Q := by
  have hr : reach H 1000 (refsL [.list [] true, .int .i64 n]) [] = some [] := rfl
  refine WCall_inl (by kernel_rfl) hr ?_
  refine WFun_of w354 rfl rfl k354 ?_
  have e0 : IntKind.i64.wrap n = n := Fz.w64 (by omega) (by omega)
  have z0 : IntKind.i64.wrap 0 = 0 := Fz.w64 (by omega) (by omega)
  have none : Q (renR (backK [] H.length) (CR.ret (V.list [] true))) (backH [] (CR.ret (V.list [] true)) [] H) := by
    have := hq (.list [] true) [] (ac_nil (by decide))
    simpa [renR, ren, renL, backH, crV, refs, refsL, setAll] using this
  by_cases hn : n = 0
  · subst hn
    simp -dsimp [w354, renL, ren]
    have e1 : IntKind.i64.wrap (-IntKind.i64.wrap 0) = 0 := by rw [z0]; exact z0
    rw [e1, if_neg (by omega)]
    exact none
  · have hp : 0 < n := by omega
    have hz : ¬ n < 0 := by omega
    simp -dsimp [w354, renL, ren, e0, hp, hz]
    have e1 : IntKind.i64.wrap (n - IntKind.i64.wrap 0) = n := by rw [z0, Int.sub_zero]; exact e0
    rw [e1, if_pos hp]
    have hl : (zeros [V.int .i64 0, V.bool false] n.toNat).length = n.toNat * 2 := zeros_len _
    first
    | (refine ⟨⟨h0, by omega, by omega⟩, ?_⟩
       rw [if_neg (by omega)]
       refine ⟨⟨hl, by simp [capOk]; omega⟩, ?_⟩)
    | (rw [if_neg (by omega)]
       refine ⟨⟨h0, by omega, by omega⟩, by simp [capOk]; omega, ?_⟩)
    | (refine ⟨⟨h0, by omega, by omega⟩, ?_⟩
       rw [if_neg (by omega)]
       refine ⟨by simp [capOk]; omega, ?_⟩)
    have := hq (.own H.length 0 0 2) [.live (zeros [V.int .i64 0, V.bool false] n.toNat)] ⟨rfl, by decide, .inr ⟨0, _, rfl, rfl, by simp, by simp [flat]⟩⟩
    have e2 : renOb (backK [] H.length) (.live (zeros [V.int .i64 0, V.bool false] n.toNat)) = .live (zeros [V.int .i64 0, V.bool false] n.toNat) := by
      rw [renOb, groundL_ren _ _ (zeros_gd (by simp) _)]
    try rw [show List.replicate n.toNat (V.int .i64 0) = zeros [V.int .i64 0, V.bool false] n.toNat from by simp]
    simp only [renR, ren, renL, backH, crV, refs, refsL, setAll, List.take_zero, List.flatMap_nil, List.append_nil, List.length_nil, List.any_cons, List.map_nil, List.drop_zero, List.map_cons, e2, List.any_nil]
    simpa [backK] using this
theorem concat_slo {ls : List (List Slo)} (ht : totA ls ≤ 10000000) (hl : ls.length ≤ 1000000) : Comes p 307 [.list (ls.map slosV) false] (slosV (catA ls)) := by
  refine Comes_of w307 rfl rfl k307 ?_ ?_ ?_ ?_
  · simp
  · simp
  · simp
  simp -dsimp [w307]
  refine xL_by (by kernel_rfl) (fun k e H => ∃ i : Nat, i ≤ ls.length ∧ k = ls.length - i ∧ e 0 = .list (ls.map slosV) false ∧ e 9 = .list (ls.map slosV) false ∧ e 10 = .int .i64 ls.length ∧ e 11 = .int .i64 i ∧ e 3 = .int .i64 (totA (ls.take i)) ∧ H = []) ls.length ?_ ?_
  · exact ⟨0, by simp [totA]⟩
  · rintro k e H ⟨i, hi, hk, h0, h9, h10, h11, h3, rfl⟩
    have t1 := totA_take ls i
    simp -dsimp [h0, h9, h10, h11, h3]
    split
    · rename_i hlt
      have t2 := totA_succ ls i hlt
      have t3 := totA_take ls (i + 1)
      have w1 : IntKind.i64.wrap (((totA (ls.take i) : Nat) : Int) + ((ls[i].length : Nat) : Int)) = ((totA (ls.take (i + 1)) : Nat) : Int) := by rw [Fz.w64 (by omega) (by omega)]; omega
      have w2 : IntKind.i64.wrap ((i : Int) + 1) = ((i + 1 : Nat) : Int) := by rw [Fz.w64 (by omega) (by omega)]; omega
      have g : ls[i]?.getD default = ls[i] := by simp [hlt]
      refine ⟨hlt, ?_⟩
      rw [g, w1]
      refine ⟨by omega, ?_⟩
      refine ⟨ls.length - (i + 1), by omega, i + 1, by omega, rfl, ?_⟩
      simp -dsimp [h0, h9, h10]
      rw [w2]; omega
    · rename_i hge
      have hii : i = ls.length := by omega
      subst hii
      rw [List.take_length] at h3 ⊢
      refine grow_slo (by omega) (by omega) fun v J hac => ?_
      simp -dsimp [h0, h9, h10, h11, h3]
      refine xL_by (by kernel_rfl) (fun k e H => ∃ (i : Nat) (v : V) (J : List Ob), i ≤ ls.length ∧ k = ls.length - i ∧ e 25 = .list (ls.map slosV) false ∧ e 26 = .int .i64 ls.length ∧ e 27 = .int .i64 i ∧ e 6 = v ∧ Ac 2 0 J v ((catA (ls.take i)).map sloV) ∧ H = J) ls.length ?_ ?_
      · exact ⟨0, v, J, by simp [h0]; exact hac⟩
      · rintro k e H ⟨i, v, J, hi, hk, h25, h26, h27, h6, hac, rfl⟩
        simp -dsimp [h25, h26, h27, h6]
        split
        · rename_i hlt
          have g : ls[i]?.getD default = ls[i] := by simp [hlt]
          refine ⟨hlt, ?_⟩
          rw [g]
          have t2 := totA_succ ls i hlt
          have t3 := totA_take ls (i + 1)
          have t4 : (catA (ls.take i)).length = totA (ls.take i) := catA_len _
          have e1 := catA_succ ls i hlt
          refine app_ac 0 (m := ls[i].map sloV) (by simpa using hac) (by simp) (by simp) (by simp) (by simp) (by simp) (by rw [List.length_map, List.length_map, t4]; simp [capOk]; omega) fun v' J' hac' => ?_
          have w2 : IntKind.i64.wrap ((i : Int) + 1) = ((i + 1 : Nat) : Int) := by rw [Fz.w64 (by omega) (by omega)]; omega
          simp -dsimp [h25, h26, h27, w2]
          refine ⟨ls.length - (i + 1), by omega, i + 1, v', J', by omega, rfl, ?_⟩
          simp -dsimp [h25, h26]
          rw [e1, List.map_append]
          exact hac'
        · rename_i hge
          have hii : i = ls.length := by omega
          subst hii
          rw [List.take_length] at hac
          have ac2 := hac
          obtain ⟨u1, u2, u3⟩ := hac
          rcases u3 with ⟨u3, rfl⟩ | ⟨j, cells, rfl, u4, u5, u6⟩
          · have e0 : slosV (catA ls) = .list [] false := by unfold slosV; rw [u3]
            rw [e0]
            simp -dsimp [wFix_by, isInl]
          · simp -dsimp [-frz_own, wFix_by, isInl]
            refine frz_acgQ 0 (k := 11) (by simpa using ac2) (by simp) (.inr ⟨by decide, by simp; exact fun x _ => ⟨_, rfl⟩⟩) fun H' _ _ => ?_
            simp -dsimp [slosV]
theorem cat_slo {a b : List Slo} (ht : a.length + b.length ≤ 10000000) : Comes p 307 [.list [slosV a, slosV b] false] (slosV (a ++ b)) := by
  have h := concat_slo (ls := [a, b]) (by simp [totA]; omega) (by simp)
  simpa [catA] using h
end Fz.D
set_option maxRecDepth 100000
namespace Fz.D
open Go
end Fz.D
set_option maxRecDepth 100000
namespace Fz.D
open Go
theorem wk_ne {x : Stp} {w : Int} {c0 : Bool} {q : St × Int} {l : List V} (h : l.length ≤ 21) : ¬ wk x w c0 q = l := by
  intro e
  have := congrArg List.length e
  simp [wk] at this
  omega
theorem backs1_W {H : List Ob} {i : Nat} {x : Stp} {w : Int} {c0 : Bool} {q : St × Int} (hi : H[i]? = some (.live (wk x w c0 q))) (hl : q.1.ret.length ≤ 100000)
    {Q : CR → List Ob → Prop} (hq : ∀ J, J[0]? = some (.live ((backsM 1 q).1.map (V.int .i64))) → Q (.ret (.own H.length 0 1 1)) (H.set i (.live (wk x w (backsC 1 c0 q) (backsM 1 q).2)) ++ J)) : xCall p 258 [.ptr i 0, .int .i64 1] H Q := by
  obtain ⟨s, e⟩ := q
  have hl : s.ret.length ≤ 100000 := hl
  have hre : reach H 1000 (refsL [.ptr i 0, .int .i64 1]) [] = some [i] := reachQ hi (groundL_refs _ wk_g)
  refine WCall_inl (by kernel_rfl) hre ?_
  have e1 : ([i] : List Nat).idxOf i = 0 := by simp
  have hi' : H[i]?.getD .dead = .live (wk x w c0 (s, e)) := by rw [hi]; rfl
  have rb : ∀ g c0 q, renL g (wk x w c0 q) = wk x w c0 q := fun g c0 q => groundL_ren g _ wk_g
  have k1 : backK [i] H.length 1 = H.length := by simp [backK]
  have back : ∀ (cz : Bool) (s' : St × Int) (l : List V) (T : List Ob), groundL l = true → backH [i] (.ret (.own 1 0 1 1)) (.live (wk x w cz s') :: .live l :: T) H = H.set i (.live (wk x w cz s')) ++ (.live l :: T.map (renOb (backK [i] H.length))) := by
    intro cz s' l T hl
    unfold backH
    rw [if_pos (by simp [crV, refs])]
    simp [setAll, renOb, rb, groundL_ren _ _ hl]
  simp -dsimp [renL, ren, renOb, e1, hi', rb]
  refine WFun_of w258 rfl rfl k258 ?_
  rw [wk_e x w c0 s e]
  by_cases hd : 1 ≤ s.ret.length
  · obtain ⟨R, a, hR⟩ : ∃ (R : List Slo) (a : Slo), s.ret = R ++ [a] := by
      refine ⟨s.ret.take (s.ret.length - 1), s.ret[s.ret.length - 1], ?_⟩
      conv => lhs; rw [← List.take_append_drop (s.ret.length - 1) s.ret]
      congr 1
      rw [List.drop_eq_getElem_cons (by omega), List.drop_of_length_le (by omega)]
      skip
    have hlen : s.ret.length = R.length + 1 := by rw [hR]; simp
    have hm : s.ret.map sloV = R.map sloV ++ [sloV a] := by rw [hR]; simp
    have hR1 : R.length ≤ 100000 := by omega
    have w1 : IntKind.i64.wrap (((R.length : Int) + 1) - 1) = (R.length : Int) := by rw [Fz.w64 (by omega) (by omega)]; omega
    have w2 : IntKind.i64.wrap (((R.length : Int) + 1) - 1) = (R.length : Int) := by rw [Fz.w64 (by omega) (by omega)]; omega
    have hc0 : (0 : Int) ≤ R.length := by omega
    have w3 : IntKind.i64.wrap (R.length : Int) = (R.length : Int) := Fz.w64 (by omega) (by omega)
    have bk : e = 0 → backsM 1 (s, e) = ([a.v], ({ s with ret := R }, 0)) := by
      rintro rfl
      unfold backsM
      rw [if_pos rfl, if_pos hd, hR]
      simp
    have bkc : e = 0 → backsC 1 c0 (s, e) = true := by
      rintro rfl
      unfold backsC
      simp [hd]
    have bnc : ¬ e = 0 → backsC 1 c0 (s, e) = c0 := by
      intro h
      unfold backsC
      simp [h]
    have bn : ¬ e = 0 → backsM 1 (s, e) = ([0], (s, e)) := by
      intro h
      unfold backsM
      rw [if_neg h]
      rfl
    rw [hm]
    simp -dsimp [w258, w1, w2, w3, hc0]
    rw [← hm, ← wk_e x w c0 s e]
    refine doesQ_go must_t rfl ?_
    simp -dsimp []
    by_cases he : e = 0
    · subst he
      refine doesQ_go ok_0 rfl ?_
      rw [wk_e x w c0 s 0, hm]
      simp -dsimp [w1, w2, w3, hc0]
      have wa : IntKind.i64.wrap 1 = 1 := Fz.w64 (by omega) (by omega)
      have wb : IntKind.i64.wrap 2 = 2 := Fz.w64 (by omega) (by omega)
      have wc : IntKind.i64.wrap 3 = 3 := Fz.w64 (by omega) (by omega)
      refine xL_one (by kernel_rfl) ?_
      simp -dsimp [wa, wb, wc, roundL]
      refine xL_one (by kernel_rfl) ?_
      simp -dsimp [wa, wb, wc, roundL]
      have q := hq [.live [.int .i64 a.v], .live [.int .i64 a.v, .bool a.call]] (by rw [bk rfl]; rfl)
      rw [bk rfl, bkc rfl] at q
      have e4 := back true ({ s with ret := R }, 0) [.int .i64 a.v] ([.live [.int .i64 a.v, .bool a.call]]) rfl
      rw [wk_e] at e4
      rw [e4]
      simpa [renR, ren, renOb, renL, k1, wk_e] using q
    · refine doesQ_go (ok_n he) rfl ?_
      have q := hq [.live [.int .i64 0]] (by rw [bn he]; rfl)
      rw [bn he, bnc he] at q
      have e4 := back c0 (s, e) [.int .i64 0] [] rfl
      simp -dsimp []
      rw [e4]
      simpa [renR, ren, renOb, renL, k1] using q
  · have w1 : IntKind.i64.wrap ((s.ret.length : Int) - 1) = (s.ret.length : Int) - 1 := Fz.w64 (by omega) (by omega)
    have hc0 : ¬ (0 : Int) ≤ (s.ret.length : Int) - 1 := by omega
    have c1 : ¬ (1 : Int) ≤ (s.ret.length : Int) := by omega
    have bk : e = 0 → backsM 1 (s, e) = ([0], (s, -6)) := by
      rintro rfl
      unfold backsM
      rw [if_pos rfl, if_neg hd]
      rfl
    have bkc : e = 0 → backsC 1 c0 (s, e) = c0 := by
      rintro rfl
      unfold backsC
      simp [hd]
    have bnc : ¬ e = 0 → backsC 1 c0 (s, e) = c0 := by
      intro h
      unfold backsC
      simp [h]
    have bn : ¬ e = 0 → backsM 1 (s, e) = ([0], (s, e)) := by
      intro h
      unfold backsM
      rw [if_neg h]
      rfl
    simp -dsimp [w258, w1, hc0, c1]
    rw [← wk_e x w c0 s e]
    by_cases he : e = 0
    · subst he
      refine doesQ_go must_f rfl ?_
      simp -dsimp []
      refine doesQ_go (ok_n (by decide)) rfl ?_
      have q := hq [.live [.int .i64 0]] (by rw [bk rfl]; rfl)
      rw [bk rfl, bkc rfl] at q
      have e4 := back c0 (s, -6) [.int .i64 0] [] rfl
      simp -dsimp []
      rw [e4]
      simpa [renR, ren, renOb, renL, k1] using q
    · refine doesQ_go (must_n _ he) rfl ?_
      simp -dsimp []
      refine doesQ_go (ok_n he) rfl ?_
      have q := hq [.live [.int .i64 0]] (by rw [bn he]; rfl)
      rw [bn he, bnc he] at q
      have e4 := back c0 (s, e) [.int .i64 0] [] rfl
      simp -dsimp []
      rw [e4]
      simpa [renR, ren, renOb, renL, k1] using q
theorem back1_O {H : List Ob} {i j : Nat} {x : Stp} {w a : Int} {fl c0 : Bool} {q : St × Int} (hi : H[i]? = some (.live (wk x w c0 q))) (hj : H[j]? = some (.live [.int .i64 a, .bool fl])) (hl : q.1.ret.length ≤ 100000)
    {Q : CR → List Ob → Prop} (hq : ∀ o, Q (.ret (.tuple [])) ((H.set i (.live (wk x w (backC x ([⟨a, fl⟩] : List Slo) c0 q) (backM x ([⟨a, fl⟩] : List Slo) q)))).set j o)) : xCall p 159 [.ptr i 0, .own j 0 1 2] H Q := by
  obtain ⟨s, e⟩ := q
  have hl : s.ret.length ≤ 100000 := hl
  have hij : i ≠ j := by
    rintro rfl
    rw [hi] at hj
    exact wk_ne (by simp) (Ob.live.inj (Option.some.inj hj))
  have hre : reach H 1000 (refsL [.ptr i 0, .own j 0 1 2]) [] = some [i, j] := by
    rw [show refsL [.ptr i 0, .own j 0 1 2] = [i, j] from by simp [refsL, refs]]
    refine (reach_go (k := 999) rfl hi).trans ?_
    rw [show refsOb (.live (wk x w c0 (s, e))) = [] from groundL_refs _ wk_g]
    refine (reach_go (k := 998) (by simp; omega) hj).trans ?_
    exact reach_end (k := 997)
  refine WCall_inl (by kernel_rfl) hre ?_
  have e1 : ([i, j] : List Nat).idxOf i = 0 := by simp
  have e2 : ([i, j] : List Nat).idxOf j = 1 := by
    have e0 : (i == j) = false := by rw [beq_eq_false_iff_ne]; exact hij
    simp [List.idxOf_cons, e0]
  have hi' : H[i]?.getD .dead = .live (wk x w c0 (s, e)) := by rw [hi]; rfl
  have hj' : H[j]?.getD .dead = .live [.int .i64 a, .bool fl] := by rw [hj]; rfl
  have rb : ∀ g c0 q, renL g (wk x w c0 q) = wk x w c0 q := fun g c0 q => groundL_ren g _ wk_g
  have back : ∀ (cz : Bool) (s' : St × Int) (o : Ob) (T : List Ob), refsOb o = [] → (∀ g, renOb g o = o) → Q (renR (backK [i, j] H.length) (.ret (.tuple []))) (backH [i, j] (.ret (.tuple [])) (.live (wk x w cz s') :: o :: T) H) = Q (.ret (.tuple [])) ((H.set i (.live (wk x w cz s'))).set j o) := by
    intro cz s' o T h1 h2
    unfold backH
    rw [if_neg (by simp [crV, refs, refsL, h1, show refsOb (.live (wk x w cz s')) = [] from groundL_refs _ wk_g])]
    have r1 : ∀ g c0 q, renOb g (.live (wk x w c0 q)) = .live (wk x w c0 q) := fun g c0 q => by rw [renOb, rb]
    simp [setAll, r1, h2, renR, ren, renL]
  simp -dsimp [renL, ren, renOb, e1, e2, hi', hj', rb]
  refine WFun_of w159 rfl rfl k159 ?_
  have w1 : IntKind.i64.wrap ((s.ret.length : Int) + 1) = (s.ret.length : Int) + 1 := Fz.w64 (by omega) (by omega)
  have cc := cat_slo (a := s.ret) (b := ([⟨a, fl⟩] : List Slo)) (by simp; omega)
  rw [wk_e x w c0 s e]
  by_cases hd : (s.ret.length : Int) + 1 ≤ x.depth
  · have bk : e = 0 → backM x ([⟨a, fl⟩] : List Slo) (s, e) = ({ s with ret := s.ret ++ [⟨a, fl⟩] }, 0) := by
      rintro rfl
      unfold backM
      rw [if_pos rfl, if_pos (by simpa using hd)]
    have bkc : e = 0 → backC x ([⟨a, fl⟩] : List Slo) c0 (s, e) = false := by
      rintro rfl
      unfold backC
      simp [hd]
    have bnc : ¬ e = 0 → backC x ([⟨a, fl⟩] : List Slo) c0 (s, e) = c0 := by
      intro h
      unfold backC
      simp [h]
    have bn : ¬ e = 0 → backM x ([⟨a, fl⟩] : List Slo) (s, e) = (s, e) := by
      intro h
      unfold backM
      rw [if_neg h]
    simp -dsimp [w159, w1, decide_eq_true hd]
    rw [← wk_e x w c0 s e]
    refine doesQ_go must_t rfl ?_
    simp -dsimp []
    by_cases he : e = 0
    · subst he
      refine doesQ_go ok_0 rfl ?_
      rw [wk_e x w c0 s 0]
      simp -dsimp [fillV, splice, chunk]
      refine call_frz rfl ?_
      simp -dsimp []
      refine ⟨.inl (by decide), ?_⟩
      rw [show chunk 2 1 [.int .i64 a, .bool fl] = [sloV ⟨a, fl⟩] from rfl]
      simp -dsimp []
      refine Eq.mpr (callN_by (show Comes p 307 [.list [slosV s.ret, .list [sloV ⟨a, fl⟩] false] false] (slosV (s.ret ++ [⟨a, fl⟩])) from cc)) ?_
      simp -dsimp []
      have q := hq (.fixed [.int .i64 a, .bool fl])
      rw [bk rfl, bkc rfl] at q
      exact Eq.mpr (back false ({ s with ret := s.ret ++ [⟨a, fl⟩] }, 0) (.fixed [.int .i64 a, .bool fl]) _ rfl (fun _ => rfl)) q
    · refine doesQ_go (ok_n he) rfl ?_
      have q := hq (.live [.int .i64 a, .bool fl])
      rw [bn he, bnc he] at q
      simp -dsimp []
      rw [back _ _ _ _ rfl (fun _ => rfl)]
      exact q
  · have bk : e = 0 → backM x ([⟨a, fl⟩] : List Slo) (s, e) = (s, -5) := by
      rintro rfl
      unfold backM
      rw [if_pos rfl, if_neg (by simpa using hd)]
    have bkc : e = 0 → backC x ([⟨a, fl⟩] : List Slo) c0 (s, e) = c0 := by
      rintro rfl
      unfold backC
      simp [hd]
    have bnc : ¬ e = 0 → backC x ([⟨a, fl⟩] : List Slo) c0 (s, e) = c0 := by
      intro h
      unfold backC
      simp [h]
    have bn : ¬ e = 0 → backM x ([⟨a, fl⟩] : List Slo) (s, e) = (s, e) := by
      intro h
      unfold backM
      rw [if_neg h]
    simp -dsimp [w159, w1, decide_eq_false hd]
    rw [← wk_e x w c0 s e]
    have q := hq (.live [.int .i64 a, .bool fl])
    by_cases he : e = 0
    · subst he
      refine doesQ_go must_f rfl ?_
      simp -dsimp []
      refine doesQ_go (ok_n (by decide)) rfl ?_
      rw [bk rfl, bkc rfl] at q
      simp -dsimp []
      rw [back _ _ _ _ rfl (fun _ => rfl)]
      exact q
    · refine doesQ_go (must_n _ he) rfl ?_
      simp -dsimp []
      refine doesQ_go (ok_n he) rfl ?_
      rw [bn he, bnc he] at q
      simp -dsimp []
      rw [back _ _ _ _ rfl (fun _ => rfl)]
      exact q
end Fz.D
set_option maxRecDepth 100000
namespace Fz.D
open Go
theorem backs1_eq (q : St × Int) : ∃ a, (backsM 1 q).1 = [a] := by
  have h : (backsM 1 q).1.length = 1 := by
    unfold backsM
    split
    · split
      · simp; omega
      · rfl
    · rfl
  match (backsM 1 q).1, h with
  | [a], _ => exact ⟨a, rfl⟩
def lenOk (n : Nat) (q : St × Int) : Prop := q.1.data.length ≤ n ∧ q.1.ret.length ≤ n
def litM (x : Stp) (w : Int) (q : St × Int) : St × Int := giveM x w q
def doM (x : Stp) (w : Int) (q : St × Int) : St × Int := backM x [⟨w, false⟩, ⟨(takeM (takeM q).2).1, false⟩, ⟨(takeM q).1, false⟩] (takeM (takeM q).2).2
def g3 (l : List Int) (i : Nat) : Int := l.getD i 0
def againM (x : Stp) (w : Int) (l : List Int) (n : Int) (q : St × Int) : St × Int := jumpM w (backM x [⟨g3 l 0, false⟩, ⟨g3 l 1, false⟩, ⟨n, false⟩] q)
def loopM (x : Stp) (w : Int) (q : St × Int) : St × Int := if IntKind.i64.wrap (g3 (backsM 3 q).1 2 + 1) = g3 (backsM 3 q).1 1 then (backsM 3 q).2 else againM x w (backsM 3 q).1 (IntKind.i64.wrap (g3 (backsM 3 q).1 2 + 1)) (backsM 3 q).2
def toRM (x : Stp) (q : St × Int) : St × Int := backM x [⟨(takeM q).1, false⟩] (takeM q).2
def fromRM (x : Stp) (q : St × Int) : St × Int := giveM x (g3 (backsM 1 q).1 0) (backsM 1 q).2
def unloopM (q : St × Int) : St × Int := (backsM 3 q).2
def leaveM (q : St × Int) : St × Int := jumpM (g3 (backsM 3 q).1 0) (backsM 3 q).2
def exitM (q : St × Int) : St × Int := jumpM (g3 (backsM 1 q).1 0) (backsM 1 q).2
theorem exit_W {x : Stp} {w : Int} {c0 : Bool} {q : St × Int} (h : lenOk 50000 q) : ∃ c', Does p 263 (wk x w c0 q) [] (.tuple []) (wk x w c' (exitM q)) := by
  refine ⟨backsC 1 c0 q, ?_⟩
  refine doesQ_of (by kernel_rfl) wk_g rfl rfl wk_g ?_
  refine WFun_of w263 rfl rfl k263 ?_
  simp -dsimp [w263]
  refine backs1_W (i := 0) rfl (by have := h.2; omega) fun J pj => ?_
  obtain ⟨a, hl⟩ := backs1_eq q
  have jw := jump_W (x := x) (w := w) (c := backsC 1 c0 q) (q := (backsM 1 q).2) a
  have e : exitM q = jumpM a (backsM 1 q).2 := by unfold exitM; rw [hl]; rfl
  rw [e]
  rw [hl] at pj
  obtain ⟨J', rfl⟩ : ∃ J', J = .live [.int .i64 a] :: J' := by
    cases J with
    | nil => cases pj
    | cons o J' => exact ⟨J', by simpa using pj⟩
  simp -dsimp []
  refine doesQ_go jw rfl ?_
  simp -dsimp []
end Fz.D
set_option maxRecDepth 100000
namespace Fz.D
open Go
theorem Comes_gk {f : FuncId} {args : List V} {u w : V} (h : (acall p 1000 f args []).map (·.1) = some (.ret u)) (hw : nrm u = w) (ha : args.all gr = true) (hn : args.all nm = true) (hi : p.inlY f = false) (hg : gk depthF u = true) (hv : gr w = true) : Comes p f args w := by
  obtain ⟨⟨r, H⟩, h1, h2⟩ := Option.map_eq_some_iff.1 h
  have h2 : r = .ret u := h2
  subst h2
  exact ⟨ha, hv, by rw [hn, Bool.or_true], 1000, u, H, h1, .inr ⟨hi, u, H, gk_freeze hg H, hw⟩⟩
def z0 : St := { mem := [], data := [], ret := [], ctl := [], words := [], spots := [], out := [], ip := 0, here := 0, at_ := 0, tok := 0, in_ := 0, err := 0, comp := false, halt := false }
def zS : V := .agg [.list [] true, .list [] true, .list [] true, .list [] true, .list [] true, .list [] true, .list [] true, .int .i64 0, .int .i64 0, .int .i64 0, .int .i64 0, .int .i64 0, .int .i64 0, .bool false, .bool false]
def resS (q : St × Int) : St := if q.2 = 0 then q.1 else z0
def hpE (s : St) (x : Stp) (c : Bool) (q : St × Int) (w : Int) : List Ob := [.live [byV s.mem, inV s.data, slosV s.ret, inV s.ctl, worsV s.words, sposV s.spots, byV s.out, .int .i64 s.ip, .int .i64 s.here, .int .i64 s.at_, .int .i64 s.tok, .int .i64 s.in_, .int .i64 s.err, .bool s.comp, .bool s.halt],
  .live [.str x.source, byV x.input, .int .i64 x.size, .int .i64 x.depth, .int .i64 x.room], .live [.list [] true, .list [] true, .list [] true, .list [] true, .list [] true, .list [] true, .list [] true, .int .i64 0, .int .i64 0, .int .i64 0, .int .i64 0, .int .i64 0, .int .i64 0, .bool false, .bool false],
  .live [.list [] false, .list [] false, .list [] false, .list [] false, .list [] false, .list [] false, .list [] false, .int .i64 0, .int .i64 0, .int .i64 0, .int .i64 0, .int .i64 0, .int .i64 0, .bool false, .bool false],
  .live [.list [] false, .list [] false, .list [] false, .list [] false, .list [] false, .list [] false, .list [] false, .int .i64 0, .int .i64 0, .int .i64 0, .int .i64 0, .int .i64 0, .int .i64 0, .bool false, .bool false],
  .live (wk x w c q)]
theorem do_W {s : St} {x : Stp} {k w : Int} {g : FuncId} {q : St × Int} (hg : g ≠ 4000000000) (ca : Comes p 14 [.int .i64 k, inV s.data, .int .i64 x.depth] (.tuple [inV [], .int .i64 0, .bool false])) (cf : Comes p 44 [stV s, .int .i64 k] (.tuple [nrm zS, .int .i64 0, .bool false]))
    (cd : Comes p 45 [stV s, stpV x, .int .i64 k] (.tuple [nrm zS, .int .i64 0, .bool false])) (co : Comes p 46 [.int .i64 k] (.fn (.func g) [] [])) (hD : ∃ c', Does p g (wk x w false (s, 0)) [] (.tuple []) (wk x w c' q)) :
    Comes p 25 [stV s, stpV x, .int .i64 k, .int .i64 w] (.tuple [stV (resS q), .int .i64 q.2]) := by
  refine Comes_of w25 rfl rfl k25 ?_ ?_ ?_ ?_
  · simp
  · simp
  · simp
  · simp only [stV, stpV] at cf cd
    simp -dsimp [w25, wFix_by, isInl, stV, stpV, zS, nrm, nrmL_eq, call_by ca, call_by cf, call_by cd, call_by co]
    refine ⟨hg, ?_⟩
    obtain ⟨c', hD⟩ := hD
    have go : ∀ {Q : CR → List Ob → Prop}, Q (.ret (.tuple [])) (hpE s x c' q w) → xCall p g [.ptr 5 0] (hpE s x false (s, 0) w) Q := fun {Q} hq => doesQ_go hD (H := hpE s x false (s, 0) w) (i := 5) (gs := []) rfl hq
    refine go ?_
    simp -dsimp [hpE]
    refine doesQ_go ok_W rfl ?_
    obtain ⟨s', e⟩ := q
    by_cases he : e = 0
    · subst he
      simp -dsimp [hpE, wk_e]
      simp -dsimp [resS, wFix_by, isInl, stV]
      rfl
    · have e1 : resS (s', e) = z0 := if_neg he
      rw [e1]
      simp -dsimp [he]
      refine WDraw_see (R := [.dead, .dead, .dead, .dead, .dead, .live (wk x w c' (s', e))]) (by kernel_rfl) (by simp [hpE]) ?_
      rw [wk_e x w c' s' e]
      simp -dsimp [hpE, wFix_by, isInl]
      simp -dsimp [stV, z0, inV, byV, slosV, worsV, sposV]
end Fz.D
set_option maxRecDepth 100000
namespace Fz.D
open Go
def woneD : WF := { nt := 9, results := [], code :=
(.draw [mv 3 0,
ao 4 (.load false 1 (.t 1)),
mv 5 0,
⟨(some 6), .call 72 [(.t 5)], none, [2], true⟩,
⟨(some 7), .callv (.t 4) [(.t 6)], none, [1, 3, 3], true⟩,
⟨(some 8), .call 75 [(.t 3), (.t 7)], none, [0, 4, 4], true⟩]) }
def wtwoD : WF := { nt := 15, results := [], code :=
(.seq (.reg [mv 4 0,
ao 5 (.call 164 [(.t 4), (.c (.int .i64 2))])])
(.seq (.reg [mv 6 0,
ao 7 (.call 72 [(.t 6)]),
mv 3 7])
(.draw [mv 8 0,
ao 9 (.load false 1 (.t 1)),
mv 10 0,
⟨(some 11), .call 72 [(.t 10)], none, [2], true⟩,
mv 12 3,
⟨(some 13), .callv (.t 9) [(.t 11), (.t 12)], none, [1, 3, 4, 3], true⟩,
⟨(some 14), .call 75 [(.t 8), (.t 13)], none, [0, 5, 5], true⟩]))) }
def wthreeD : WF := { nt := 19, results := [], code :=
(.seq (.reg [mv 5 0,
ao 6 (.call 164 [(.t 5), (.c (.int .i64 3))])])
(.seq (.reg [mv 7 0,
ao 8 (.call 72 [(.t 7)]),
mv 9 0,
ao 10 (.call 72 [(.t 9)]),
mv 3 8,
mv 4 10])
(.draw [mv 11 0,
ao 12 (.load false 1 (.t 1)),
mv 13 0,
⟨(some 14), .call 72 [(.t 13)], none, [2], true⟩,
mv 15 4,
mv 16 3,
⟨(some 17), .callv (.t 12) [(.t 14), (.t 15), (.t 16)], none, [1, 3, 4, 5, 3], true⟩,
⟨(some 18), .call 75 [(.t 11), (.t 17)], none, [0, 6, 6], true⟩]))) }
def wfourD : WF := { nt := 23, results := [], code :=
(.seq (.reg [mv 6 0,
ao 7 (.call 164 [(.t 6), (.c (.int .i64 4))])])
(.seq (.reg [mv 8 0,
ao 9 (.call 72 [(.t 8)]),
mv 10 0,
ao 11 (.call 72 [(.t 10)]),
mv 12 0,
ao 13 (.call 72 [(.t 12)]),
mv 3 9,
mv 4 11,
mv 5 13])
(.draw [mv 14 0,
ao 15 (.load false 1 (.t 1)),
mv 16 0,
⟨(some 17), .call 72 [(.t 16)], none, [2], true⟩,
mv 18 5,
mv 19 4,
mv 20 3,
⟨(some 21), .callv (.t 15) [(.t 17), (.t 18), (.t 19), (.t 20)], none, [1, 3, 4, 5, 6, 3], true⟩,
⟨(some 22), .call 75 [(.t 14), (.t 21)], none, [0, 7, 7], true⟩]))) }
def aluPre : List WC := match w14.dfr with
  | some x => x.1
  | none => []
def AluPre (op : Int) (d dep : V) (g f : FuncId) : Prop := ∃ n e1 H1 k, runL (exec p n) (aluPre.map toA) (env0 [.int .i64 op, d, dep]) [] = some (.normal, e1, H1) ∧ e1 1 = d ∧ e1 2 = dep ∧ e1 6 = .ptr 0 0 ∧ e1 7 = .ptr 1 0 ∧ e1 10 = .fn (.func g) [] [.ptr k 0] ∧
  H1[0]? = some (.live [.list [] true]) ∧ H1[1]? = some (.live [.int .i64 0]) ∧ H1[k]? = some (.live [.fn (.func f) [] []])
end Fz.D
set_option maxRecDepth 100000
namespace Fz.D
open Go
def chainF (H : List Ob) : Nat → V → Option (List FuncId × V)
  | 0, _ => none
  | n + 1, v => if ground v then some ([], v) else match v with
    | .fn (.func g) [] [.ptr k 0] => match H[k]? with
      | some (.live [w]) => (chainF H n w).map fun x => (g :: x.1, x.2)
      | _ => none
    | _ => none
def Chain (H : List Ob) : List FuncId → V → V → Prop
  | [], u, v => v = u
  | g :: gs, u, v => ∃ k w, v = .fn (.func g) [] [.ptr k 0] ∧ H[k]? = some (.live [w]) ∧ Chain H gs u w
def AluPreG (op : Int) (d dep : V) (gs : List FuncId) (u : V) : Prop := ∃ n e1 H1 v, runL (exec p n) (aluPre.map toA) (env0 [.int .i64 op, d, dep]) [] = some (.normal, e1, H1) ∧ e1 1 = d ∧ e1 2 = dep ∧ e1 6 = .ptr 0 0 ∧ e1 7 = .ptr 1 0 ∧ e1 8 = .bool true ∧ e1 10 = v ∧ Chain H1 gs u v ∧
  H1[0]? = some (.live [.list [] true]) ∧ H1[1]? = some (.live [.int .i64 0])
def preG (op : Int) (d dep : V) : Option (X × V × V × V × V × V × Option (List FuncId × V) × Option Ob × Option Ob) := (runL (exec p 200) (aluPre.map toA) (env0 [.int .i64 op, d, dep]) []).map fun r =>
  (r.1, r.2.1 1, r.2.1 2, r.2.1 6, r.2.1 7, r.2.1 8, chainF r.2.2 4 (r.2.1 10), r.2.2[0]?, r.2.2[1]?)
def WordOk (H : List Ob) (v : V) (l r : List Int) : Prop := ∃ g caps, v = .fn (.func g) [] caps ∧ (¬ g = 4000000000) ∧ ∀ Q : CR → List Ob → Prop, (∀ v J, PV (H.length + 1) J v r → Q (.ret (.tuple [])) (H ++ .live [v] :: J)) → WCall p g (.ptr H.length 0 :: caps) (H ++ [.live [inV l]]) Q
def WordThr (H : List Ob) (v : V) (l : List Int) (e : Int) : Prop := ∃ g caps, v = .fn (.func g) [] caps ∧ (¬ g = 4000000000) ∧ ∀ Q : CR → List Ob → Prop, (∀ x J, Q (.panic (thrown e)) (H ++ .live x :: J)) → WCall p g (.ptr H.length 0 :: caps) (H ++ [.live [inV l]]) Q
end Fz.D
set_option maxRecDepth 100000
namespace Fz.D
open Go
def eN (nm : ByteArray) (op : Int) (d dep : V) : Env := upd (upd (upd (upd (upd (upd (env0 [.int .i64 op, d, dep]) 6 (.ptr 0 0)) 7 (.ptr 1 0)) 8 (.bool false)) 16 (.int .i64 op)) 17 (.str nm)) 9 (.str nm)
def hN : List Ob := [.live [.list [] true], .live [.int .i64 0]]
def eM (op : Int) (d dep : V) : Env := upd (upd (upd (env0 [.int .i64 op, d, dep]) 6 (.ptr 0 0)) 7 (.ptr 1 0)) 8 (.bool false)
def preN (nm : ByteArray) (op : Int) (d dep : V) : Option (X × V × V × V × V × V × Option (List FuncId × V) × Option Ob × Option Ob) := (runL (exec p 200) ((aluPre.drop 2).map toA) (eN nm op d dep) hN).map fun r =>
  (r.1, r.2.1 1, r.2.1 2, r.2.1 6, r.2.1 7, r.2.1 8, chainF r.2.2 4 (r.2.1 10), r.2.2[0]?, r.2.2[1]?)
theorem run0 {op : Int} {d dep : V} {m : Nat} : exec p (m + 1) (toA (aluPre.getD 0 .skip)) (env0 [.int .i64 op, d, dep]) [] = some (.normal, eM op d dep, hN) := by rfl
theorem run1 {nm : ByteArray} {op : Int} {d dep : V} {m : Nat} (hn : ∀ H, doCall (acall p m) p.inlY 17 [.int .i64 op] H = some (.ret (.str nm), H)) : exec p (m + 1) (toA (aluPre.getD 1 .skip)) (eM op d dep) hN = some (.normal, eN nm op d dep, hN) := by
  have h := hn hN
  show (match doCall (acall p m) p.inlY 17 [.int .i64 op] hN with
    | none => none
    | some (.ret v, H') => runOps (acall p m) p.inlY [mv 9 17] (upd (upd (eM op d dep) 16 (.int .i64 op)) 17 v) H'
    | some (.panic v, H') => some (.panic v, upd (eM op d dep) 16 (.int .i64 op), H')) = _
  rw [h]
  rfl
theorem aluPre_eq : aluPre.map toA = toA (aluPre.getD 0 .skip) :: toA (aluPre.getD 1 .skip) :: (aluPre.drop 2).map toA := rfl
theorem none_name {nm : ByteArray} {op : Int} {l : List Int} {dep : Int} (hn : Comes p 17 [.int .i64 op] (.str nm))
    (h : ((runL (exec p 200) ((aluPre.drop 2).map toA) (eN nm op (inV l) (.int .i64 dep)) hN).map fun r => (r.1, r.2.1 6, r.2.1 7, r.2.1 8, r.2.2[0]?, r.2.2[1]?)) = some (.ret, .ptr 0 0, .ptr 1 0, .bool false, some (.live [.list [] true]), some (.live [.int .i64 0]))) :
    Comes p 14 [.int .i64 op, inV l, .int .i64 dep] (.tuple [inV [], .int .i64 0, .bool false]) := by
  obtain ⟨⟨x, e1, H1⟩, h1, h2⟩ := Option.map_eq_some_iff.1 h
  simp only [Prod.mk.injEq] at h2
  obtain ⟨rfl, g6, g7, g8, k0, k1⟩ := h2
  obtain ⟨m, hm⟩ := hn.doCall
  have hm2 : ∀ H, doCall (acall p (max m 200)) p.inlY 17 [.int .i64 op] H = some (.ret (.str nm), H) := fun H => doCall_mono (acall_le p (Nat.le_max_left m 200)) p.inlY _ _ _ _ (hm H)
  have hr : runL (exec p (max m 200 + 1)) (aluPre.map toA) (env0 [.int .i64 op, inV l, .int .i64 dep]) [] = some (.ret, e1, H1) := by
    rw [aluPre_eq]
    unfold runL
    rw [run0]
    dsimp only
    unfold runL
    rw [run1 hm2]
    dsimp only
    exact runL_mono (exec_le p (by omega : 200 ≤ max m 200 + 1)) _ _ _ _ h1
  have ha : acall p (max m 200 + 1) 14 [.int .i64 op, inV l, .int .i64 dep] [] = some (.ret (.tuple [.list [] true, .int .i64 0, .bool false]), H1) := by
    show (match runL (exec p (max m 200 + 1)) (aluPre.map toA) (env0 [.int .i64 op, inV l, .int .i64 dep]) [] with
      | some (.normal, e1, H1) => _
      | r => finishF w14.toA r) = _
    rw [hr]
    show (resultOf e1 H1 [(6, some (false, 1)), (7, some (false, 1)), (8, none)]).map _ = _
    unfold resultOf
    simp only [resultsV, resultV, g6, g7, g8, peek, k0, k1]
    rfl
  exact ⟨by simp, by simp, by simp, max m 200 + 1, _, H1, ha, .inr ⟨rfl, _, _, gk_freeze (by rfl) H1, by simp [nrm, nrmL_eq, inV]⟩⟩
end Fz.D
set_option maxRecDepth 100000
namespace Fz.D
open Go
def b8 (v : Int) : List Int := [IntKind.u8.wrap (IntKind.u64.wrap v), IntKind.u8.wrap ((IntKind.u64.wrap v).fdiv (2 ^ min 8 IntKind.u64.bits)), IntKind.u8.wrap ((IntKind.u64.wrap v).fdiv (2 ^ min 16 IntKind.u64.bits)), IntKind.u8.wrap ((IntKind.u64.wrap v).fdiv (2 ^ min 24 IntKind.u64.bits)), IntKind.u8.wrap ((IntKind.u64.wrap v).fdiv (2 ^ min 32 IntKind.u64.bits)), IntKind.u8.wrap ((IntKind.u64.wrap v).fdiv (2 ^ min 40 IntKind.u64.bits)), IntKind.u8.wrap ((IntKind.u64.wrap v).fdiv (2 ^ min 48 IntKind.u64.bits)), IntKind.u8.wrap ((IntKind.u64.wrap v).fdiv (2 ^ min 56 IntKind.u64.bits))]
def setB (m : List Int) (i v : Int) : List Int := m.take i.toNat ++ b8 v ++ m.drop (i.toNat + 8)
def setM (m : List Int) (i v : Int) : List Int := if cellE m i = 0 then setB m i v else []
end Fz.D
set_option maxRecDepth 100000
namespace Fz.D
open Go
def gotM (e' : Int) (q : St × Int) : St × Int := mustM (decide (e' = 0)) e' q
def memM (b : List Int) (e' : Int) (q : St × Int) : St × Int := if (gotM e' q).2 = 0 then ({ q.1 with mem := b }, 0) else gotM e' q
theorem got_W {x : Stp} {w : Int} {c : Bool} {q : St × Int} (v e' : Int) : Does p 158 (wk x w c q) [.int .i64 v, .int .i64 e'] (.int .i64 v) (wk x w c (gotM e' q)) := by
  have m := must_W (x := x) (w := w) (c := c) (q := q) (decide (e' = 0)) e'
  refine doesQ_of (by kernel_rfl) wk_g rfl rfl wk_g ?_
  refine WFun_of w158 rfl rfl k158 ?_
  simp -dsimp [w158]
  refine doesQ_go m rfl ?_
  simp -dsimp [gotM]
structure okM (q : St × Int) : Prop where
  len : lenOk 50000 q
  data : ∀ n ∈ q.1.data, i64 n
  mem : by8 q.1.mem
  size : q.1.mem.length ≤ 1000000
def atM (x : Stp) (q : St × Int) : St × Int := giveM x (cellN q.1.mem (takeM q).1) (gotM (cellE q.1.mem (takeM q).1) (takeM q).2)
def putM (q : St × Int) : St × Int := memM (setM q.1.mem (takeM q).1 (takeM (takeM q).2).1) (cellE q.1.mem (takeM q).1) (takeM (takeM q).2).2
def addM (q : St × Int) : St × Int :=
  memM (setM q.1.mem (takeM q).1 (IntKind.i64.wrap (cellN q.1.mem (takeM q).1 + (takeM (takeM q).2).1))) (cellE q.1.mem (takeM q).1) (gotM (cellE q.1.mem (takeM q).1) (takeM (takeM q).2).2)
def wAtD : WF := { nt := 16, results := [], code :=
(.draw [mv 2 0,
mv 3 0,
mv 4 0,
⟨(some 5), .nilCheck (.t 4), none, [2], false⟩,
⟨(some 6), .fieldAddr 0 (.t 5), none, [3], false⟩,
⟨(some 7), .fieldAddr 0 (.t 6), none, [4], false⟩,
⟨(some 8), .load false 1 (.t 7), none, [5], false⟩,
mv 9 0,
⟨(some 10), .call 255 [(.t 9)], none, [7], true⟩,
⟨(some 11), .call 27 [(.t 8), (.t 10)], none, [6, 8, 8], false⟩,
⟨(some 12), .extract 0 (.t 11), none, [9], false⟩,
⟨(some 13), .extract 1 (.t 11), none, [9], false⟩,
⟨(some 14), .call 158 [(.t 3), (.t 12), (.t 13)], none, [1, 10, 11, 9], true⟩,
⟨(some 15), .call 252 [(.t 2), (.t 14)], none, [0, 12, 12], true⟩]) }
def wPutD : WF := { nt := 18, results := [], code :=
(.seq (.reg [mv 3 0,
ao 4 (.call 255 [(.t 3)]),
mv 2 4])
(.draw [mv 5 0,
mv 6 0,
⟨(some 7), .nilCheck (.t 6), none, [1], false⟩,
⟨(some 8), .fieldAddr 0 (.t 7), none, [2], false⟩,
⟨(some 9), .fieldAddr 0 (.t 8), none, [3], false⟩,
⟨(some 10), .load false 1 (.t 9), none, [4], false⟩,
mv 11 2,
mv 12 0,
⟨(some 13), .call 255 [(.t 12)], none, [7], true⟩,
⟨(some 14), .call 275 [(.t 10), (.t 11), (.t 13)], none, [5, 6, 8, 8], false⟩,
⟨(some 15), .extract 0 (.t 14), none, [9], false⟩,
⟨(some 16), .extract 1 (.t 14), none, [9], false⟩,
⟨(some 17), .call 274 [(.t 5), (.t 15), (.t 16)], none, [0, 10, 11, 9], true⟩])) }
def PM (x : Stp) (w : Int) (m : List Int) (G : List Ob) : Prop := ∃ c q', G[0]? = some (.live (wk x w c q')) ∧ q'.1.mem = m
end Fz.D
set_option maxRecDepth 100000
namespace Fz.D
open Go
def madeM (f : FuncId) : V := (madeF f []).getD (.bool false)
theorem name_none {k : Int} (hk : ¬ (1 ≤ k ∧ k ≤ 137)) : Comes p 17 [.int .i64 k] (.str ⟨#[]⟩) := by
  have h := name_s k
  unfold nameF at h
  rwa [if_neg hk] at h
theorem alu_none {k : Int} (hk : ¬ (1 ≤ k ∧ k ≤ 137)) (l : List Int) (d : Int) : Comes p 14 [.int .i64 k, inV l, .int .i64 d] (.tuple [inV [], .int .i64 0, .bool false]) :=
  none_name (name_none hk) (by kernel_rfl)
theorem m150 : Comes p 150 [] (madeM 150) := Comes_made (by kernel_rfl) rfl (by kernel_rfl) rfl rfl
theorem m151 : Comes p 151 [] (madeM 151) := Comes_made (by kernel_rfl) rfl (by kernel_rfl) rfl rfl
theorem m153 : Comes p 153 [] (madeM 153) := Comes_made (by kernel_rfl) rfl (by kernel_rfl) rfl rfl
theorem m154 : Comes p 154 [] (madeM 154) := Comes_made (by kernel_rfl) rfl (by kernel_rfl) rfl rfl
theorem m155 : Comes p 155 [] (madeM 155) := Comes_made (by kernel_rfl) rfl (by kernel_rfl) rfl rfl
theorem m156 : Comes p 156 [] (madeM 156) := Comes_made (by kernel_rfl) rfl (by kernel_rfl) rfl rfl
def tbl : Option (CR × List Ob) := (acall p 200 148 [] []).bind fun x => settleR 0 x.1 x.2
def keysOf : CR → Option (List V)
  | .ret (.map ks _) => some ks
  | _ => none
def ksT : List V := ((tbl.bind fun x => keysOf x.1).getD [])
theorem tbl_k : (tbl.bind fun x => keysOf x.1) = some ksT := by kernel_rfl
theorem ksT_g : groundL ksT = true := by kernel_rfl
theorem doCall_map {call : CallT} {inl : FuncId → Bool} {f : FuncId} {H : List Ob} {r0 : CR} {Hl0 Hl : List Ob} {ks vs : List V} (hi : inl f = false) (h3 : call f [] [] = some (r0, Hl0)) (h4 : settleR 0 r0 Hl0 = some (.ret (.map ks vs), Hl)) (hk : groundL ks = true) :
    ∃ J vs', doCall call inl f [] H = some (.ret (.map ks vs'), H ++ J) := by
  have e1 : ∀ g, ren g (.map ks vs) = .map ks (renL g vs) := fun g => by rw [ren, groundL_ren g _ hk]
  unfold doCall
  rw [hi]
  simp only [Bool.false_eq_true, if_false]
  rw [show (mapS (freezeV depthF) [] H) = some ([], H) from rfl]
  simp only [Option.map_some, List.map_nil]
  rw [show reach H 1000 (refsL []) [] = some [] from rfl]
  dsimp only
  rw [show renL (fun i => List.idxOf i []) [] = [] from rfl, show (List.map (fun i => renOb (fun i => List.idxOf i []) (H[i]?.getD .dead)) []) = [] from rfl, h3]
  dsimp only
  rw [show ([] : List Nat).length = 0 from rfl, h4]
  dsimp only
  rw [if_pos (Nat.zero_le _)]
  split
  · exact ⟨_, _, by rw [renR, e1]; rfl⟩
  · exact ⟨[], _, by rw [renR, e1, List.append_nil]; rfl⟩
theorem table_s {H : List Ob} {Q : CR → List Ob → Prop} (hq : ∀ vs J, Q (.ret (.map ksT vs)) (H ++ J)) : xCall p 148 [] H Q := by
  obtain ⟨⟨r, Hl⟩, h1, h2⟩ := Option.bind_eq_some_iff.1 tbl_k
  unfold tbl at h1
  obtain ⟨⟨r0, Hl0⟩, h3, h4⟩ := Option.bind_eq_some_iff.1 h1
  obtain ⟨vs, rfl⟩ : ∃ vs, r = .ret (.map ksT vs) := by
    have h2 : keysOf r = some ksT := h2
    unfold keysOf at h2
    split at h2
    · cases h2; exact ⟨_, rfl⟩
    · cases h2
  obtain ⟨J, vs', hd⟩ := doCall_map (H := H) (inl := p.inlY) rfl h3 h4 ksT_g
  exact ⟨200, _, _, hd, hq vs' J⟩
theorem ksT_no : findV .str (.str ⟨#[]⟩) ksT 0 = some none := by kernel_rfl
def isM (v : V) : Bool := match v with
  | .map ks _ => (match findV .str (.str ⟨#[]⟩) ks 0 with | some none => true | _ => false)
  | _ => false
theorem isM_ok {v : V} (h : isM v = true) : ∃ ks vs, v = .map ks vs ∧ findV .str (.str ⟨#[]⟩) ks 0 = some none := by
  unfold isM at h
  split at h
  · split at h
    · rename_i h2; exact ⟨_, _, rfl, h2⟩
    · cases h
  · cases h
theorem flow_none {k : Int} (hk : ¬ (1 ≤ k ∧ k ≤ 137)) (s : St) : Comes p 44 [stV s, .int .i64 k] (.tuple [nrm zS, .int .i64 0, .bool false]) := by
  have n := name_none hk
  refine Comes_of w44 rfl rfl k44 ?_ ?_ ?_ ?_
  · simp
  · simp
  · simp [zS, nrm, nrmL_eq]
  · simp -dsimp [w44, stV, ]
    refine table_s fun vs J => ?_
    simp -dsimp [call_by n]
    refine ⟨none, ksT_no, ?_⟩
    simp -dsimp [wFix_by, isInl]
    simp [zS, nrm, nrmL_eq]
theorem defs_none {k : Int} (hk : ¬ (1 ≤ k ∧ k ≤ 137)) (s : St) (x : Stp) : Comes p 45 [stV s, stpV x, .int .i64 k] (.tuple [nrm zS, .int .i64 0, .bool false]) := by
  have n := name_none hk
  obtain ⟨k1, v1, e1, q1⟩ := isM_ok (v := madeM 150) (by kernel_rfl)
  obtain ⟨k2, v2, e2, q2⟩ := isM_ok (v := madeM 151) (by kernel_rfl)
  have m1 := m150
  have m2 := m151
  rw [e1] at m1
  rw [e2] at m2
  refine Comes_of w45 rfl rfl k45 ?_ ?_ ?_ ?_
  · simp
  · simp
  · simp [zS, nrm, nrmL_eq]
  · simp -dsimp [w45, stV, stpV, call_by m1, call_by n]
    refine ⟨none, q1, ?_⟩
    simp -dsimp [call_by m2, call_by n]
    refine ⟨none, q2, ?_⟩
    simp -dsimp [wFix_by, isInl]
    simp [zS, nrm, nrmL_eq]
theorem own_none {k : Int} (hk : ¬ (1 ≤ k ∧ k ≤ 137)) : Comes p 46 [.int .i64 k] .nilfn := by
  have n := name_none hk
  obtain ⟨k1, v1, e1, q1⟩ := isM_ok (v := madeM 153) (by kernel_rfl)
  obtain ⟨k2, v2, e2, q2⟩ := isM_ok (v := madeM 154) (by kernel_rfl)
  obtain ⟨k3, v3, e3, q3⟩ := isM_ok (v := madeM 155) (by kernel_rfl)
  obtain ⟨k4, v4, e4, q4⟩ := isM_ok (v := madeM 156) (by kernel_rfl)
  have m1 := m153
  have m2 := m154
  have m3 := m155
  have m4 := m156
  rw [e1] at m1
  rw [e2] at m2
  rw [e3] at m3
  rw [e4] at m4
  refine Comes_of w46 rfl rfl k46 ?_ ?_ ?_ ?_
  · simp
  · simp
  · simp
  · have w0 : IntKind.i64.wrap 0 = 0 := Fz.w64 (by omega) (by omega)
    have w1 : IntKind.i64.wrap 1 = 1 := Fz.w64 (by omega) (by omega)
    have w2 : IntKind.i64.wrap 2 = 2 := Fz.w64 (by omega) (by omega)
    have w3 : IntKind.i64.wrap 3 = 3 := Fz.w64 (by omega) (by omega)
    have w4 : IntKind.i64.wrap 4 = 4 := Fz.w64 (by omega) (by omega)
    have cM : ∀ ks vs, cellsOf (V.map ks vs) = [V.map ks vs] := fun _ _ => rfl
    have iM : ∀ ks vs, isAny (V.map ks vs) = false := fun _ _ => rfl
    have sM : ∀ ks vs, storable (V.map ks vs) = true := fun _ _ => rfl
    simp -dsimp [w46, cM, iM, sM, call_by m1, call_by m2, call_by m3, call_by m4, fillV, splice, chunk]
    refine xL_one (by kernel_rfl) ?_
    simp -dsimp [w0, w1, w2, w3, w4, roundL, call_by n]
    refine ⟨none, q1, ?_⟩
    simp -dsimp [w0, w1, w2, w3, w4, roundL]
    refine xL_one (by kernel_rfl) ?_
    simp -dsimp [w0, w1, w2, w3, w4, roundL, call_by n]
    refine ⟨none, q2, ?_⟩
    simp -dsimp [w0, w1, w2, w3, w4, roundL]
    refine xL_one (by kernel_rfl) ?_
    simp -dsimp [w0, w1, w2, w3, w4, roundL, call_by n]
    refine ⟨none, q3, ?_⟩
    simp -dsimp [w0, w1, w2, w3, w4, roundL]
    refine xL_one (by kernel_rfl) ?_
    simp -dsimp [w0, w1, w2, w3, w4, roundL, call_by n]
    refine ⟨none, q4, ?_⟩
    simp -dsimp [w0, w1, w2, w3, w4, roundL]
    refine xL_one (by kernel_rfl) ?_
    simp -dsimp [w0, w1, w2, w3, w4, roundL, wFix_by, isInl]
def callM (x : Stp) (k : Int) (q : St × Int) : St × Int := jumpM k (backM x [⟨q.1.ip, true⟩] (gotM (cellE q.1.mem k) (mustM (decide (256 ≤ k)) (-9) q)))
theorem call_W {x : Stp} {w k : Int} {c0 : Bool} {q : St × Int} (hk : i64 k) (hl : q.1.ret.length ≤ 50000) (hm : by8 q.1.mem) (hs : q.1.mem.length ≤ 1000000) :
    ∃ c', Does p 47 (wk x w c0 q) [.int .i64 k] (.tuple []) (wk x w c' (callM x k q)) := by
  have m := must_W (x := x) (w := w) (c := c0) (q := q) (decide (256 ≤ k)) (-9)
  have cl := cell_s (m := q.1.mem) (i := k) hm hs hk
  have g := got_W (x := x) (w := w) (c := c0) (q := mustM (decide (256 ≤ k)) (-9) q) (cellN q.1.mem k) (cellE q.1.mem k)
  have jw := jump_W (x := x) (w := w) (c := backC x [⟨q.1.ip, true⟩] c0 (gotM (cellE q.1.mem k) (mustM (decide (256 ≤ k)) (-9) q))) (q := backM x [⟨q.1.ip, true⟩] (gotM (cellE q.1.mem k) (mustM (decide (256 ≤ k)) (-9) q))) k
  refine ⟨backC x [⟨q.1.ip, true⟩] c0 (gotM (cellE q.1.mem k) (mustM (decide (256 ≤ k)) (-9) q)), ?_⟩
  refine doesQ_of (by kernel_rfl) wk_g rfl rfl wk_g ?_
  refine WFun_of w47 rfl rfl k47 ?_
  simp -dsimp [w47]
  refine doesQ_go m rfl ?_
  simp -dsimp []
  refine ⟨by simp [wk], ?_⟩
  rw [show List.take 1 (wk x w c0 (mustM (decide (256 ≤ k)) (-9) q)) = [byV q.1.mem] from rfl]
  simp -dsimp [call_by cl]
  refine doesQ_go g rfl ?_
  simp -dsimp []
  refine ⟨by simp [wk], ?_⟩
  rw [show List.take 1 (List.drop 7 (wk x w c0 (gotM (cellE q.1.mem k) (mustM (decide (256 ≤ k)) (-9) q)))) = [.int .i64 q.1.ip] from rfl]
  simp -dsimp [fillV, splice, chunk]
  refine back1_O (i := 0) (j := 1) (q := gotM (cellE q.1.mem k) (mustM (decide (256 ≤ k)) (-9) q)) (fl := true) (a := q.1.ip) rfl rfl (by exact Nat.le_trans hl (by omega)) fun o => ?_
  simp -dsimp []
  refine doesQ_go jw rfl ?_
  simp -dsimp [callM]
theorem doC_W {s : St} {x : Stp} {k w : Int} (hn : ¬ (1 ≤ k ∧ k ≤ 137)) (hk : i64 k) (hl : s.ret.length ≤ 50000) (hm : by8 s.mem) (hs : s.mem.length ≤ 1000000) :
    Comes p 25 [stV s, stpV x, .int .i64 k, .int .i64 w] (.tuple [stV (resS (callM x k (s, 0))), .int .i64 (callM x k (s, 0)).2]) := by
  have ca := alu_none hn s.data x.depth
  have cf := flow_none hn s
  have cd := defs_none hn s x
  have co := own_none hn
  obtain ⟨c', hD⟩ := call_W (x := x) (w := w) (c0 := false) (q := (s, 0)) hk hl hm hs
  generalize callM x k (s, 0) = q at *
  refine Comes_of w25 rfl rfl k25 ?_ ?_ ?_ ?_
  · simp
  · simp
  · simp
  · simp only [stV, stpV] at cf cd
    simp -dsimp [w25, wFix_by, isInl, stV, stpV, zS, nrm, nrmL_eq, call_by ca, call_by cf, call_by cd, call_by co]
    have go : ∀ {Q : CR → List Ob → Prop}, Q (.ret (.tuple [])) (hpE s x c' q w) → xCall p 47 [.ptr 5 0, .int .i64 k] (hpE s x false (s, 0) w) Q := fun {Q} hq => doesQ_go hD (H := hpE s x false (s, 0) w) (i := 5) (gs := [.int .i64 k]) rfl hq
    refine go ?_
    simp -dsimp [hpE]
    refine doesQ_go ok_W rfl ?_
    obtain ⟨s', e⟩ := q
    by_cases he : e = 0
    · subst he
      simp -dsimp [hpE, wk_e]
      simp -dsimp [resS, wFix_by, isInl, stV]
      rfl
    · have e1 : resS (s', e) = z0 := if_neg he
      rw [e1]
      simp -dsimp [he]
      refine WDraw_see (R := [.dead, .dead, .dead, .dead, .dead, .live (wk x w c' (s', e))]) (by kernel_rfl) (by simp [hpE]) ?_
      rw [wk_e x w c' s' e]
      simp -dsimp [hpE, wFix_by, isInl]
      simp -dsimp [stV, z0, inV, byV, slosV, worsV, sposV]
end Fz.D
set_option maxRecDepth 100000
namespace Fz.D
open Go
end Fz.D
set_option maxRecDepth 100000
namespace Fz.D
open Go
end Fz.D
set_option maxRecDepth 100000
namespace Fz.D
open Go
theorem alu_EXIT (l : List Int) (d : Int) : Comes p 14 [.int .i64 1, inV l, .int .i64 d] (.tuple [inV [], .int .i64 0, .bool false]) :=
  Comes_gk (u := .tuple [.list [] true, .int .i64 0, .bool false]) (by kernel_rfl) (by simp [nrm, nrmL_eq, inV]) (by simp) (by simp) rfl (by rfl) (by simp)
theorem flow_EXIT (s : St) : Comes p 44 [stV s, .int .i64 1] (.tuple [nrm zS, .int .i64 0, .bool false]) :=
  Comes_gk (u := .tuple [zS, .int .i64 0, .bool false]) (by kernel_rfl) (by simp [nrm, nrmL_eq, zS]) (by simp) (by simp) rfl (by rfl) (by rfl)
theorem defs_EXIT (s : St) (x : Stp) : Comes p 45 [stV s, stpV x, .int .i64 1] (.tuple [nrm zS, .int .i64 0, .bool false]) :=
  Comes_gk (u := .tuple [zS, .int .i64 0, .bool false]) (by kernel_rfl) (by simp [nrm, nrmL_eq, zS]) (by simp) (by simp) rfl (by rfl) (by rfl)
theorem own_EXIT : Comes p 46 [.int .i64 1] (.fn (.func 263) [] []) := Comes_made (by kernel_rfl) rfl (by kernel_rfl) rfl rfl
end Fz.D
set_option maxRecDepth 100000
namespace Fz.D
open Go
theorem x_EXIT {s : St} {x : Stp} {w : Int} (h : lenOk 50000 (s, 0)) : Comes p 25 [stV s, stpV x, .int .i64 1, .int .i64 w] (.tuple [stV (resS (exitM (s, 0))), .int .i64 (exitM (s, 0)).2]) :=
  do_W (by decide) (alu_EXIT _ _) (flow_EXIT s) (defs_EXIT s x) own_EXIT (exit_W h)
end Fz.D
set_option maxRecDepth 100000
namespace Fz.D
open Go
def andI (a b : Int) : Int := IntKind.i64.wrap (((a % 2 ^ IntKind.i64.bits).toNat &&& (b % 2 ^ IntKind.i64.bits).toNat : Nat))
def orI (a b : Int) : Int := IntKind.i64.wrap (((a % 2 ^ IntKind.i64.bits).toNat ||| (b % 2 ^ IntKind.i64.bits).toNat : Nat))
def xorI (a b : Int) : Int := IntKind.i64.wrap (((a % 2 ^ IntKind.i64.bits).toNat ^^^ (b % 2 ^ IntKind.i64.bits).toNat : Nat))
def invI (a : Int) : Int := IntKind.i64.wrap (((-1 % 2 ^ IntKind.i64.bits : Int).toNat ^^^ (a % 2 ^ IntKind.i64.bits).toNat : Nat))
def flagI (c : Prop) [Decidable c] : Int := if c then -1 else 0
end Fz.D
set_option maxRecDepth 100000
namespace Fz.D
open Go
def cloOf : V → Option (FuncId × Nat)
  | .fn (.func g) [] [.ptr k 0] => some (g, k)
  | _ => none
def preJ (op : Int) (d dep : V) : Option (X × V × V × V × V × Option FuncId × Option Ob × Option Ob × Option Ob) := (runL (exec p 200) (aluPre.map toA) (env0 [.int .i64 op, d, dep]) []).map fun r =>
  (r.1, r.2.1 1, r.2.1 2, r.2.1 6, r.2.1 7, (cloOf (r.2.1 10)).map (·.1), r.2.2[0]?, r.2.2[1]?, (cloOf (r.2.1 10)).bind fun x => r.2.2[x.2]?)
end Fz.D
set_option maxRecDepth 100000
namespace Fz.D
open Go
def divQ (a b : Int) : Int := if b = -1 then IntKind.i64.wrap (-a) else if a.tmod b ≠ 0 ∧ ¬ (a.tmod b < 0 ↔ b < 0) then IntKind.i64.wrap (IntKind.i64.wrap (a.tdiv b) - 1) else IntKind.i64.wrap (a.tdiv b)
def divR (a b : Int) : Int := if b = -1 then 0 else if a.tmod b ≠ 0 ∧ ¬ (a.tmod b < 0 ↔ b < 0) then IntKind.i64.wrap (a.tmod b + b) else a.tmod b
end Fz.D
set_option maxRecDepth 100000
namespace Fz.D
open Go
end Fz.D
set_option maxRecDepth 100000
namespace Fz.D
open Go
end Fz.D
set_option maxRecDepth 100000
namespace Fz.D
open Go
theorem awakeX : Comes p 23 [] (.bool true) := by
  obtain ⟨H, h⟩ := isTrue_ok awake13
  exact Comes_gk (u := .bool true) (by rw [show acall p 1000 23 [] [] = _ from h]; rfl) rfl rfl rfl rfl rfl rfl
end Fz.D
set_option maxRecDepth 100000
namespace Fz.D
open Go
def fewX (s : St) (x : Stp) : Bool := fewB s && (decide ((x.source.size : Int) ≤ 200) && decide ((x.input.length : Int) ≤ 40))
theorem few12_s (s : St) (x : Stp) : Comes p 24 [stV s, stpV x] (.bool (fewX s x)) := by
  have c := few_s s
  rw [← stF s] at c
  simp only [stV.cells] at c
  refine Comes_of w24 rfl rfl k24 ?_ ?_ ?_ ?_
  · simp
  · simp
  · simp
  · cases h1 : fewB s with
    | false => rw [h1] at c; simp -dsimp [w24, wFix_by, isInl, call_by c, fewX, h1]
    | true =>
      rw [h1] at c
      by_cases c1 : (x.source.size : Int) ≤ 200 <;> by_cases c2 : (x.input.length : Int) ≤ 40 <;> simp -dsimp [w24, wFix_by, isInl, call_by c, fewX, h1, c1, c2]
end Fz.D
set_option maxRecDepth 100000
namespace Fz.D
open Go
theorem exit_call {s : St} {x : Stp} {k : Int} (hr : s.ret.length ≤ 40) (hd : s.data.length ≤ 40) :
    Comes p 25 [stV { s with ret := s.ret ++ [⟨s.ip, true⟩], ip := k }, stpV x, .int .i64 1, .int .i64 0] (.tuple [stV s, .int .i64 0]) := by
  have h := x_EXIT (s := { s with ret := s.ret ++ [⟨s.ip, true⟩], ip := k }) (x := x) (w := 0) ⟨by show s.data.length ≤ _; omega, by simp; omega⟩
  have e1 : backsM 1 (({ s with ret := s.ret ++ [⟨s.ip, true⟩], ip := k } : St), (0 : Int)) = ([s.ip], ({ s with ip := k }, 0)) := by
    unfold backsM
    simp
  have e : exitM (({ s with ret := s.ret ++ [⟨s.ip, true⟩], ip := k } : St), (0 : Int)) = (s, 0) := by
    unfold exitM
    rw [e1]
    rfl
  rw [e] at h
  exact h
theorem lawCalls {s : St} {x : Stp} {k : Int} (ts : StTy s) (hk : i64 k) : Comes p 12 [stV s, stpV x, .int .i64 k] (.bool true) := by
  have a := awakeX
  have c1 := few12_s s x
  have ci := is_s k
  refine Comes_of w12 rfl rfl k12 ?_ ?_ ?_ ?_
  · simp
  · simp
  · simp
  · cases hf1 : fewX s x with
    | false =>
      rw [hf1] at c1
      simp only [stV, stpV] at c1
      simp -dsimp [w12, wFix_by, isInl, stV, stpV, call_by a, call_by c1]
    | true =>
      rw [hf1] at c1
      have h1' := hf1
      unfold fewX at h1'
      simp only [Bool.and_eq_true, decide_eq_true_eq] at h1'
      obtain ⟨hf, hx1, hx2⟩ := h1'
      have hl := few_st hf
      obtain ⟨l1, l2, l3, l4, l5, l6, l7, l8⟩ := few_len hf
      by_cases hn : 1 ≤ k ∧ k ≤ 137
      · rw [decide_eq_true hn.1, decide_eq_true hn.2] at ci
        have ci : Comes p 28 [.int .i64 k] (.bool true) := ci
        simp only [stV, stpV] at c1
        simp -dsimp [w12, wFix_by, isInl, stV, stpV, call_by a, call_by c1, call_by ci]
      · have hnb : (decide (1 ≤ k) && decide (k ≤ 137)) = false := by
          rw [Bool.and_eq_false_iff, decide_eq_false_iff_not, decide_eq_false_iff_not]
          omega
        rw [hnb] at ci
        have D := doC_W (s := s) (x := x) (w := 0) hn hk (by omega) ts.mem (by omega)
        have cl := cell_s (m := s.mem) (i := k) ts.mem (by omega) hk
        have hz : stV z0 = .agg [.list [] false, .list [] false, .list [] false, .list [] false, .list [] false, .list [] false, .list [] false, .int .i64 0, .int .i64 0, .int .i64 0, .int .i64 0, .int .i64 0, .int .i64 0, .bool false, .bool false] := rfl
        by_cases h2 : k < 256
        · have e : callM x k (s, 0) = (s, -9) := by
            have h3 : ¬ 256 ≤ k := by omega
            unfold callM jumpM backM gotM mustM
            simp [h3]
          rw [e] at D
          have r : resS (s, (-9 : Int)) = z0 := if_neg (show ¬ (-9 : Int) = 0 by decide)
          rw [r, hz] at D
          simp only [stV, stpV] at c1 D
          simp -dsimp [w12, wFix_by, isInl, stV, stpV, call_by a, call_by c1, call_by ci, call_by D, call_by cl, h2]
        · have h3 : 256 ≤ k := by omega
          by_cases hc : cellE s.mem k = 0
          · rw [hc] at cl
            by_cases hd : (s.ret.length : Int) + 1 ≤ x.depth
            · have hd' : ¬ x.depth ≤ (s.ret.length : Int) := by omega
              have e : callM x k (s, 0) = ({ s with ret := s.ret ++ [⟨s.ip, true⟩], ip := k }, 0) := by
                unfold callM jumpM backM gotM mustM
                simp [h3, hc, hd]
              rw [e] at D
              have D : Comes p 25 [stV s, stpV x, .int .i64 k, .int .i64 0] (.tuple [stV { s with ret := s.ret ++ [⟨s.ip, true⟩], ip := k }, .int .i64 0]) := D
              have E := exit_call (s := s) (x := x) (k := k) l3 l2
              have sm := same_self hl ts.mem ts.out
              have w1 : IntKind.i64.wrap ((s.ret.length : Int) + 1 - 1) = (s.ret.length : Int) := by rw [Fz.w64 (by omega) (by omega)]; omega
              have w2 : IntKind.i64.wrap (s.ret.length : Int) = (s.ret.length : Int) := Fz.w64 (by omega) (by omega)
              have le : eqLeaves [V.int .i64 s.ip, V.bool true] [V.int .i64 s.ip, V.bool true] [(0, .int), (1, .bool)] = some true := by
                have := slo_leaves ⟨s.ip, true⟩ ⟨s.ip, true⟩
                simpa [sloQ] using this
              simp only [stV, stpV] at c1 D E sm
              simp -dsimp [w12, wFix_by, isInl, stV, stpV, call_by a, call_by c1, call_by ci, call_by D, call_by cl, h2, hd', call_by E, call_by sm, quiet_by sm, w1, w2, le]
            · have hd' : x.depth ≤ (s.ret.length : Int) := by omega
              have e : callM x k (s, 0) = (s, -5) := by
                unfold callM jumpM backM gotM mustM
                simp [h3, hc, hd]
              rw [e] at D
              have r : resS (s, (-5 : Int)) = z0 := if_neg (show ¬ (-5 : Int) = 0 by decide)
              rw [r, hz] at D
              simp only [stV, stpV] at c1 D
              simp -dsimp [w12, wFix_by, isInl, stV, stpV, call_by a, call_by c1, call_by ci, call_by D, call_by cl, h2, hd']
          · have e : callM x k (s, 0) = (s, cellE s.mem k) := by
              unfold callM jumpM backM gotM mustM
              simp [h3, hc]
            rw [e] at D
            have r : resS (s, cellE s.mem k) = z0 := if_neg hc
            rw [r, hz] at D
            simp only [stV, stpV] at c1 D
            simp -dsimp [w12, wFix_by, isInl, stV, stpV, call_by a, call_by c1, call_by ci, call_by D, call_by cl, h2, hc]
end Fz.D
