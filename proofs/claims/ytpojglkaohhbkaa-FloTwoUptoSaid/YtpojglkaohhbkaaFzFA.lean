/- The functions' code. -/
import Derived.Test.YtpojglkaohhbkaaFzAI
import Derived.Test.YtpojglkaohhbkaaProg
set_option maxRecDepth 100000
namespace Fz.F
open Go Go.Proofs
-- nostos/nostoslaw02.FloTwo
def w3 : WF := { nt := 38, results := [(6, none)], code :=
(.seq (.reg [ao 6 (.mov (.c (.bool false)))])
(.seq (.reg [ao 12 (.call 8 []),
mv 7 12])
(.seq (.reg [mv 14 0,
mv 15 1,
mv 16 2,
ao 17 (.call 9 [(.t 14), (.t 15), (.t 16)]),
mv 13 17,
ao 18 (.extract 0 (.t 13)),
ao 19 (.extract 1 (.t 13)),
mv 8 18,
mv 9 19])
(.seq (.reg [mv 21 0,
mv 22 1,
mv 23 2,
ao 24 (.call 10 [(.t 21), (.t 22), (.t 23)]),
mv 20 24,
ao 25 (.extract 0 (.t 20)),
ao 26 (.extract 1 (.t 20)),
mv 10 25,
mv 11 26])
(.seq (.reg [mv 27 7,
mv 28 27,
ag 29 (.mov (.t 8)) 28 true,
ag 30 (.mov (.t 10)) 28 true,
ag 31 (.bin .eql .no (.t 29) (.t 30)) 28 true,
ao 32 (.pick (.t 28) (.t 31) (.c (.bool false))),
mv 33 32,
ag 34 (.mov (.t 9)) 33 true,
ag 35 (.mov (.t 11)) 33 true,
ag 36 (.bin .eql .bool (.t 34) (.t 35)) 33 true,
ao 37 (.pick (.t 33) (.t 36) (.c (.bool false))),
mv 6 37])
.ret))))) }
-- nostos/nostoslaw02.FloOne
def w4 : WF := { nt := 67, results := [(4, none)], code :=
(.seq (.reg [ao 4 (.mov (.c (.bool false)))])
(.seq (.reg [ao 12 (.call 8 []),
mv 5 12])
(.seq (.reg [mv 14 0,
mv 15 1,
ao 16 (.call 11 [(.t 14), (.t 15)]),
mv 13 16,
ao 17 (.extract 0 (.t 13)),
ao 18 (.extract 1 (.t 13)),
mv 6 17,
mv 7 18])
(.seq (.reg [mv 20 0,
mv 21 1,
ao 22 (.call 12 [(.t 20), (.t 21)]),
mv 19 22,
ao 23 (.extract 0 (.t 19)),
ao 24 (.extract 1 (.t 19)),
mv 8 23,
mv 9 24])
(.seq (.reg [mv 25 1,
ao 26 (.call 13 [(.c (.int .u8 102)), (.t 25)]),
mv 10 26])
(.seq (.reg [mv 27 1,
ao 28 (.call 14 [(.t 27)]),
ao 29 (.un .not (.t 28)),
mv 30 29,
ag 31 (.mov (.t 10)) 30 true,
ag 32 (.bin .eql .no (.t 31) (.c (.int .i64 9221120237041090560))) 30 true,
ao 33 (.pick (.t 30) (.t 32) (.c (.bool false))),
mv 34 33,
ag 35 (.mov (.t 1)) 34 false,
ag 36 (.mov (.t 10)) 34 false,
ag 37 (.call 15 [(.t 35), (.t 36)]) 34 false,
ag 38 (.un .not (.t 37)) 34 false,
ag 39 (.mov (.t 38)) 34 false,
ag 40 (.mov (.t 10)) 39 true,
ag 41 (.call 13 [(.c (.int .u8 102)), (.t 40)]) 39 true,
ag 42 (.mov (.t 10)) 39 true,
ag 43 (.bin .eql .no (.t 41) (.t 42)) 39 true,
ag 44 (.pick (.t 39) (.t 43) (.c (.bool false))) 34 false,
ag 45 (.mov (.t 44)) 34 false,
ag 46 (.mov (.t 10)) 45 true,
ag 47 (.call 16 [(.c (.int .u8 43)), (.t 46), (.c (.int .i64 4607182418800017408))]) 45 true,
ag 48 (.mov (.t 1)) 45 true,
ag 49 (.call 15 [(.t 47), (.t 48)]) 45 true,
ag 50 (.un .not (.t 49)) 45 true,
ag 51 (.pick (.t 45) (.t 50) (.c (.bool false))) 34 false,
ao 52 (.pick (.t 34) (.c (.bool true)) (.t 51)),
mv 11 52])
(.seq (.reg [mv 53 5,
mv 54 53,
ag 55 (.mov (.t 6)) 54 true,
ag 56 (.mov (.t 8)) 54 true,
ag 57 (.bin .eql .no (.t 55) (.t 56)) 54 true,
ao 58 (.pick (.t 54) (.t 57) (.c (.bool false))),
mv 59 58,
ag 60 (.mov (.t 7)) 59 true,
ag 61 (.mov (.t 9)) 59 true,
ag 62 (.bin .eql .bool (.t 60) (.t 61)) 59 true,
ao 63 (.pick (.t 59) (.t 62) (.c (.bool false))),
mv 64 63,
ag 65 (.mov (.t 11)) 64 true,
ao 66 (.pick (.t 64) (.t 65) (.c (.bool false))),
mv 4 66])
.ret))))))) }
-- nostos/nostoslaw02.FloCompares
def w5 : WF := { nt := 62, results := [(4, none)], code :=
(.seq (.reg [ao 4 (.mov (.c (.bool false)))])
(.seq (.reg [ao 8 (.call 8 []),
mv 5 8])
(.seq (.reg [ao 6 (.mov (.c (.int .i64 0)))])
(.seq (.seq (.reg [mv 9 0,
mv 10 1,
ao 11 (.call 15 [(.t 9), (.t 10)])])
(.cond (.t 11)
(.reg [mv 12 6,
ao 13 (.bin .add .no (.t 12) (.c (.int .i64 1))),
mv 6 13])
.skip))
(.seq (.seq (.reg [mv 14 1,
mv 15 0,
ao 16 (.call 15 [(.t 14), (.t 15)])])
(.cond (.t 16)
(.reg [mv 17 6,
ao 18 (.bin .add .no (.t 17) (.c (.int .i64 1))),
mv 6 18])
.skip))
(.seq (.seq (.reg [mv 19 0,
mv 20 1,
ao 21 (.call 17 [(.t 19), (.t 20)])])
(.cond (.t 21)
(.reg [mv 22 6,
ao 23 (.bin .add .no (.t 22) (.c (.int .i64 1))),
mv 6 23])
.skip))
(.seq (.reg [mv 24 0,
ao 25 (.call 14 [(.t 24)]),
mv 26 25,
ag 27 (.mov (.t 1)) 26 true,
ag 28 (.call 14 [(.t 27)]) 26 true,
ao 29 (.pick (.t 26) (.t 28) (.c (.bool false))),
mv 7 29])
(.seq (.reg [mv 30 5,
mv 31 30,
ag 32 (.mov (.t 0)) 31 true,
ag 33 (.mov (.t 1)) 31 true,
ag 34 (.call 15 [(.t 32), (.t 33)]) 31 true,
ag 35 (.mov (.t 0)) 31 true,
ag 36 (.mov (.t 1)) 31 true,
ag 37 (.call 18 [(.t 35), (.t 36)]) 31 true,
ag 38 (.bin .eql .bool (.t 34) (.t 37)) 31 true,
ao 39 (.pick (.t 31) (.t 38) (.c (.bool false))),
mv 40 39,
ag 41 (.mov (.t 0)) 40 true,
ag 42 (.mov (.t 1)) 40 true,
ag 43 (.call 17 [(.t 41), (.t 42)]) 40 true,
ag 44 (.mov (.t 0)) 40 true,
ag 45 (.mov (.t 1)) 40 true,
ag 46 (.call 19 [(.t 44), (.t 45)]) 40 true,
ag 47 (.bin .eql .bool (.t 43) (.t 46)) 40 true,
ao 48 (.pick (.t 40) (.t 47) (.c (.bool false))),
mv 49 48,
ag 50 (.mov (.t 6)) 49 true,
ag 51 (.bin .eql .no (.t 50) (.c (.int .i64 1))) 49 true,
ag 52 (.mov (.t 7)) 49 true,
ag 53 (.bin .eql .bool (.t 51) (.t 52)) 49 true,
ao 54 (.pick (.t 49) (.t 53) (.c (.bool false))),
mv 55 54,
ag 56 (.mov (.t 6)) 55 true,
ag 57 (.bin .eql .no (.t 56) (.c (.int .i64 0))) 55 true,
ag 58 (.mov (.t 7)) 55 true,
ag 59 (.un .not (.t 58)) 55 true,
ag 60 (.bin .eql .bool (.t 57) (.t 59)) 55 true,
ao 61 (.pick (.t 55) (.t 60) (.c (.bool false))),
mv 4 61])
.ret)))))))) }
-- nostos/nostoslaw02.FloTurns
def w6 : WF := { nt := 143, results := [(4, none)], code :=
(.seq (.reg [ao 4 (.mov (.c (.bool false)))])
(.seq (.reg [ao 9 (.call 8 []),
mv 5 9])
(.seq (.seq (.reg [mv 10 0,
ao 11 (.call 14 [(.t 10)]),
ao 12 (.un .not (.t 11)),
mv 13 12,
ag 14 (.mov (.t 1)) 13 false,
ag 15 (.call 14 [(.t 14)]) 13 false,
ag 16 (.un .not (.t 15)) 13 false,
ao 17 (.pick (.t 13) (.c (.bool true)) (.t 16))])
(.cond (.t 17)
(.seq (.reg [mv 18 5,
mv 19 18,
ag 20 (.mov (.t 0)) 19 true,
ag 21 (.mov (.t 1)) 19 true,
ag 22 (.call 16 [(.c (.int .u8 43)), (.t 20), (.t 21)]) 19 true,
ag 23 (.bin .eql .no (.t 22) (.c (.int .i64 9221120237041090560))) 19 true,
ao 24 (.pick (.t 19) (.t 23) (.c (.bool false))),
mv 25 24,
ag 26 (.mov (.t 0)) 25 true,
ag 27 (.mov (.t 1)) 25 true,
ag 28 (.call 16 [(.c (.int .u8 45)), (.t 26), (.t 27)]) 25 true,
ag 29 (.bin .eql .no (.t 28) (.c (.int .i64 9221120237041090560))) 25 true,
ao 30 (.pick (.t 25) (.t 29) (.c (.bool false))),
mv 31 30,
ag 32 (.mov (.t 0)) 31 true,
ag 33 (.mov (.t 1)) 31 true,
ag 34 (.call 16 [(.c (.int .u8 42)), (.t 32), (.t 33)]) 31 true,
ag 35 (.bin .eql .no (.t 34) (.c (.int .i64 9221120237041090560))) 31 true,
ao 36 (.pick (.t 31) (.t 35) (.c (.bool false))),
mv 37 36,
ag 38 (.mov (.t 0)) 37 true,
ag 39 (.mov (.t 1)) 37 true,
ag 40 (.call 16 [(.c (.int .u8 47)), (.t 38), (.t 39)]) 37 true,
ag 41 (.bin .eql .no (.t 40) (.c (.int .i64 9221120237041090560))) 37 true,
ao 42 (.pick (.t 37) (.t 41) (.c (.bool false))),
mv 43 42,
ag 44 (.mov (.t 0)) 43 true,
ag 45 (.mov (.t 1)) 43 true,
ag 46 (.call 16 [(.c (.int .u8 109)), (.t 44), (.t 45)]) 43 true,
ag 47 (.bin .eql .no (.t 46) (.c (.int .i64 9221120237041090560))) 43 true,
ao 48 (.pick (.t 43) (.t 47) (.c (.bool false))),
mv 49 48,
ag 50 (.mov (.t 0)) 49 true,
ag 51 (.mov (.t 1)) 49 true,
ag 52 (.call 16 [(.c (.int .u8 77)), (.t 50), (.t 51)]) 49 true,
ag 53 (.bin .eql .no (.t 52) (.c (.int .i64 9221120237041090560))) 49 true,
ao 54 (.pick (.t 49) (.t 53) (.c (.bool false))),
mv 4 54])
.ret)
.skip))
(.seq (.reg [mv 55 0,
mv 56 1,
ao 57 (.call 16 [(.c (.int .u8 43)), (.t 55), (.t 56)]),
mv 58 1,
mv 59 0,
ao 60 (.call 16 [(.c (.int .u8 43)), (.t 58), (.t 59)]),
ao 61 (.bin .eql .no (.t 57) (.t 60)),
mv 62 61,
ag 63 (.mov (.t 0)) 62 true,
ag 64 (.mov (.t 1)) 62 true,
ag 65 (.call 16 [(.c (.int .u8 42)), (.t 63), (.t 64)]) 62 true,
ag 66 (.mov (.t 1)) 62 true,
ag 67 (.mov (.t 0)) 62 true,
ag 68 (.call 16 [(.c (.int .u8 42)), (.t 66), (.t 67)]) 62 true,
ag 69 (.bin .eql .no (.t 65) (.t 68)) 62 true,
ao 70 (.pick (.t 62) (.t 69) (.c (.bool false))),
mv 71 70,
ag 72 (.mov (.t 0)) 71 true,
ag 73 (.mov (.t 1)) 71 true,
ag 74 (.call 16 [(.c (.int .u8 109)), (.t 72), (.t 73)]) 71 true,
ag 75 (.mov (.t 1)) 71 true,
ag 76 (.mov (.t 0)) 71 true,
ag 77 (.call 16 [(.c (.int .u8 109)), (.t 75), (.t 76)]) 71 true,
ag 78 (.bin .eql .no (.t 74) (.t 77)) 71 true,
ao 79 (.pick (.t 71) (.t 78) (.c (.bool false))),
mv 80 79,
ag 81 (.mov (.t 0)) 80 true,
ag 82 (.mov (.t 1)) 80 true,
ag 83 (.call 16 [(.c (.int .u8 77)), (.t 81), (.t 82)]) 80 true,
ag 84 (.mov (.t 1)) 80 true,
ag 85 (.mov (.t 0)) 80 true,
ag 86 (.call 16 [(.c (.int .u8 77)), (.t 84), (.t 85)]) 80 true,
ag 87 (.bin .eql .no (.t 83) (.t 86)) 80 true,
ao 88 (.pick (.t 80) (.t 87) (.c (.bool false))),
mv 6 88])
(.seq (.reg [mv 89 0,
mv 90 1,
ao 91 (.call 16 [(.c (.int .u8 45)), (.t 89), (.t 90)]),
mv 92 0,
mv 93 1,
ao 94 (.call 13 [(.c (.int .u8 110)), (.t 93)]),
ao 95 (.call 16 [(.c (.int .u8 43)), (.t 92), (.t 94)]),
ao 96 (.bin .eql .no (.t 91) (.t 95)),
mv 7 96])
(.seq (.reg [mv 97 0,
mv 98 1,
ao 99 (.call 16 [(.c (.int .u8 109)), (.t 97), (.t 98)]),
mv 8 99])
(.seq (.reg [mv 100 5,
mv 101 100,
ag 102 (.mov (.t 6)) 101 true,
ao 103 (.pick (.t 101) (.t 102) (.c (.bool false))),
mv 104 103,
ag 105 (.mov (.t 7)) 104 true,
ao 106 (.pick (.t 104) (.t 105) (.c (.bool false))),
mv 107 106,
ag 108 (.mov (.t 0)) 107 true,
ag 109 (.call 13 [(.c (.int .u8 110)), (.t 108)]) 107 true,
ag 110 (.call 13 [(.c (.int .u8 110)), (.t 109)]) 107 true,
ag 111 (.mov (.t 0)) 107 true,
ag 112 (.bin .eql .no (.t 110) (.t 111)) 107 true,
ao 113 (.pick (.t 107) (.t 112) (.c (.bool false))),
mv 114 113,
ag 115 (.mov (.t 8)) 114 true,
ag 116 (.mov (.t 0)) 114 true,
ag 117 (.bin .eql .no (.t 115) (.t 116)) 114 true,
ag 118 (.mov (.t 117)) 114 true,
ag 119 (.mov (.t 8)) 118 false,
ag 120 (.mov (.t 1)) 118 false,
ag 121 (.bin .eql .no (.t 119) (.t 120)) 118 false,
ag 122 (.pick (.t 118) (.c (.bool true)) (.t 121)) 114 true,
ao 123 (.pick (.t 114) (.t 122) (.c (.bool false))),
mv 124 123,
ag 125 (.mov (.t 0)) 124 true,
ag 126 (.mov (.t 8)) 124 true,
ag 127 (.call 15 [(.t 125), (.t 126)]) 124 true,
ag 128 (.un .not (.t 127)) 124 true,
ao 129 (.pick (.t 124) (.t 128) (.c (.bool false))),
mv 130 129,
ag 131 (.mov (.t 1)) 130 true,
ag 132 (.mov (.t 8)) 130 true,
ag 133 (.call 15 [(.t 131), (.t 132)]) 130 true,
ag 134 (.un .not (.t 133)) 130 true,
ao 135 (.pick (.t 130) (.t 134) (.c (.bool false))),
mv 136 135,
ag 137 (.mov (.t 0)) 136 true,
ag 138 (.call 13 [(.c (.int .u8 97)), (.t 137)]) 136 true,
ag 139 (.mov (.t 0)) 136 true,
ag 140 (.call 15 [(.t 138), (.t 139)]) 136 true,
ag 141 (.un .not (.t 140)) 136 true,
ao 142 (.pick (.t 136) (.t 141) (.c (.bool false))),
mv 4 142])
.ret))))))) }
-- nostos/nostoslaw02.FloCells
def w7 : WF := { nt := 73, results := [(4, none)], code :=
(.seq (.reg [ao 4 (.mov (.c (.bool false)))])
(.seq (.reg [ao 13 (.call 8 []),
mv 5 13])
(.seq (.reg [mv 15 1,
ao 16 (.call 20 [(.t 15)]),
mv 14 16,
ao 17 (.extract 0 (.t 14)),
ao 18 (.extract 1 (.t 14)),
mv 6 17,
mv 7 18])
(.seq (.reg [mv 20 1,
ao 21 (.call 21 [(.t 20)]),
mv 19 21,
ao 22 (.extract 0 (.t 19)),
ao 23 (.extract 1 (.t 19)),
mv 8 22,
mv 9 23])
(.seq (.reg [mv 25 0,
ao 26 (.call 22 [(.t 25)]),
ao 27 (.call 20 [(.t 26)]),
mv 24 27,
ao 28 (.extract 0 (.t 24)),
ao 29 (.extract 1 (.t 24)),
mv 10 28,
mv 11 29])
(.seq (.reg [mv 30 0,
ao 31 (.bin .geq .no (.t 30) (.c (.int .i64 (-9007199254740992)))),
mv 32 31,
ag 33 (.mov (.t 0)) 32 true,
ag 34 (.bin .leq .no (.t 33) (.c (.int .i64 9007199254740992))) 32 true,
ao 35 (.pick (.t 32) (.t 34) (.c (.bool false))),
mv 12 35])
(.seq (.reg [mv 36 5,
mv 37 36,
ag 38 (.mov (.t 0)) 37 true,
ag 39 (.call 22 [(.t 38)]) 37 true,
ag 40 (.mov (.t 0)) 37 true,
ag 41 (.call 23 [(.t 40)]) 37 true,
ag 42 (.bin .eql .no (.t 39) (.t 41)) 37 true,
ao 43 (.pick (.t 37) (.t 42) (.c (.bool false))),
mv 44 43,
ag 45 (.mov (.t 6)) 44 true,
ag 46 (.mov (.t 8)) 44 true,
ag 47 (.bin .eql .no (.t 45) (.t 46)) 44 true,
ao 48 (.pick (.t 44) (.t 47) (.c (.bool false))),
mv 49 48,
ag 50 (.mov (.t 7)) 49 true,
ag 51 (.mov (.t 9)) 49 true,
ag 52 (.bin .eql .bool (.t 50) (.t 51)) 49 true,
ao 53 (.pick (.t 49) (.t 52) (.c (.bool false))),
mv 54 53,
ag 55 (.mov (.t 12)) 54 true,
ag 56 (.un .not (.t 55)) 54 true,
ag 57 (.mov (.t 56)) 54 true,
ag 58 (.mov (.t 11)) 57 false,
ag 59 (.mov (.t 58)) 57 false,
ag 60 (.mov (.t 10)) 59 true,
ag 61 (.mov (.t 0)) 59 true,
ag 62 (.bin .eql .no (.t 60) (.t 61)) 59 true,
ag 63 (.pick (.t 59) (.t 62) (.c (.bool false))) 57 false,
ag 64 (.pick (.t 57) (.c (.bool true)) (.t 63)) 54 true,
ao 65 (.pick (.t 54) (.t 64) (.c (.bool false))),
mv 66 65,
ag 67 (.mov (.t 11)) 66 true,
ag 68 (.mov (.t 67)) 66 true,
ag 69 (.mov (.t 0)) 68 false,
ag 70 (.bin .gtr .no (.t 69) (.c (.int .i64 4611686018427387904))) 68 false,
ag 71 (.pick (.t 68) (.c (.bool true)) (.t 70)) 66 true,
ao 72 (.pick (.t 66) (.t 71) (.c (.bool false))),
mv 4 72])
.ret))))))) }
-- nostos/nostoslaw02.awake
def w8 : WF := { nt := 49, results := [(0, none)], code :=
(.seq (.reg [ao 0 (.mov (.c (.bool false)))])
(.seq (.reg [ao 8 (.call 9 [(.c (.int .u8 47)), (.c (.int .i64 4607182418800017408)), (.c (.int .i64 (-9223372036854775808)))]),
mv 7 8,
ao 9 (.extract 0 (.t 7)),
ao 10 (.extract 1 (.t 7)),
mv 1 9,
mv 2 10])
(.seq (.reg [ao 12 (.call 9 [(.c (.int .u8 109)), (.c (.int .i64 0)), (.c (.int .i64 (-9223372036854775808)))]),
mv 11 12,
ao 13 (.extract 0 (.t 11)),
ao 14 (.extract 1 (.t 11)),
mv 3 13,
mv 4 14])
(.seq (.reg [ao 16 (.call 11 [(.c (.int .u8 110)), (.c (.int .i64 4607182418800017408))]),
mv 15 16,
ao 17 (.extract 0 (.t 15)),
ao 18 (.extract 1 (.t 15)),
mv 5 17,
mv 6 18])
(.seq (.reg [mv 19 1,
ao 20 (.bin .eql .no (.t 19) (.c (.int .i64 (-4503599627370496)))),
mv 21 20,
ag 22 (.mov (.t 2)) 21 true,
ao 23 (.pick (.t 21) (.t 22) (.c (.bool false))),
mv 24 23,
ag 25 (.mov (.t 3)) 24 true,
ag 26 (.bin .eql .no (.t 25) (.c (.int .i64 (-9223372036854775808)))) 24 true,
ao 27 (.pick (.t 24) (.t 26) (.c (.bool false))),
mv 28 27,
ag 29 (.mov (.t 4)) 28 true,
ao 30 (.pick (.t 28) (.t 29) (.c (.bool false))),
mv 31 30,
ag 32 (.mov (.t 5)) 31 true,
ag 33 (.bin .eql .no (.t 32) (.c (.int .i64 (-4616189618054758400)))) 31 true,
ao 34 (.pick (.t 31) (.t 33) (.c (.bool false))),
mv 35 34,
ag 36 (.mov (.t 6)) 35 true,
ao 37 (.pick (.t 35) (.t 36) (.c (.bool false))),
mv 38 37,
ag 39 (.mov (.t 5)) 38 true,
ag 40 (.call 15 [(.t 39), (.c (.int .i64 4607182418800017408))]) 38 true,
ao 41 (.pick (.t 38) (.t 40) (.c (.bool false))),
mv 42 41,
ag 43 (.call 17 [(.c (.int .i64 0)), (.c (.int .i64 (-9223372036854775808)))]) 42 true,
ao 44 (.pick (.t 42) (.t 43) (.c (.bool false))),
mv 45 44,
ag 46 (.call 22 [(.c (.int .i64 1))]) 45 true,
ag 47 (.bin .eql .no (.t 46) (.c (.int .i64 4607182418800017408))) 45 true,
ao 48 (.pick (.t 45) (.t 47) (.c (.bool false))),
mv 0 48])
.ret))))) }
-- nostos/flo.Two
def w9 : WF := { nt := 35, results := [(6, none), (7, none)], code :=
(.seq (.reg [ao 6 (.mov (.c (.int .i64 0))),
ao 7 (.mov (.c (.bool false)))])
(.seq (.reg [ao 11 (.call 24 []),
mv 12 0,
ao 13 (.rd (.lookup .int .nilfn false) [(.t 11), (.t 12)]),
mv 8 13])
(.seq (.reg [mv 14 1,
ao 15 (.call 25 [(.t 14)]),
mv 16 2,
ao 17 (.call 25 [(.t 16)]),
mv 9 15,
mv 10 17])
(.seq (.block 0 (.seq (.reg [mv 19 8,
ao 20 (.bin .eql .func (.t 19) (.c .nilfn)),
mv 18 20])
(.cond (.t 18)
(.seq (.reg [ao 6 (.mov (.c (.int .i64 0))),
ao 7 (.mov (.c (.bool false)))])
.ret)
(.seq (.reg [mv 22 9,
mv 23 9,
ao 24 (.bin .neq .no (.t 22) (.t 23)),
mv 25 24,
ag 26 (.mov (.t 10)) 25 false,
ag 27 (.mov (.t 10)) 25 false,
ag 28 (.bin .neq .no (.t 26) (.t 27)) 25 false,
ao 29 (.pick (.t 25) (.c (.bool true)) (.t 28)),
mv 21 29])
(.cond (.t 21)
(.seq (.reg [ao 6 (.mov (.c (.int .i64 9221120237041090560))),
ao 7 (.mov (.c (.bool true)))])
.ret)
.skip)))))
(.seq (.reg [mv 30 8,
mv 31 9,
mv 32 10,
ao 33 (.callv (.t 30) [(.t 31), (.t 32)]),
ao 34 (.call 26 [(.t 33)]),
mv 6 34,
ao 7 (.mov (.c (.bool true)))])
.ret))))) }
-- nostos/nostosref02.Two
def w10 : WF := { nt := 82, results := [(6, none), (7, none)], code :=
(.seq (.reg [ao 6 (.mov (.c (.int .i64 0))),
ao 7 (.mov (.c (.bool false)))])
(.seq (.reg [mv 11 0,
ao 12 (.bin .eql .no (.t 11) (.c (.int .u8 43))),
mv 13 12,
ag 14 (.mov (.t 0)) 13 false,
ag 15 (.bin .eql .no (.t 14) (.c (.int .u8 45))) 13 false,
ao 16 (.pick (.t 13) (.c (.bool true)) (.t 15)),
mv 17 16,
ag 18 (.mov (.t 0)) 17 false,
ag 19 (.bin .eql .no (.t 18) (.c (.int .u8 42))) 17 false,
ao 20 (.pick (.t 17) (.c (.bool true)) (.t 19)),
mv 21 20,
ag 22 (.mov (.t 0)) 21 false,
ag 23 (.bin .eql .no (.t 22) (.c (.int .u8 47))) 21 false,
ao 24 (.pick (.t 21) (.c (.bool true)) (.t 23)),
mv 25 24,
ag 26 (.mov (.t 0)) 25 false,
ag 27 (.bin .eql .no (.t 26) (.c (.int .u8 109))) 25 false,
ao 28 (.pick (.t 25) (.c (.bool true)) (.t 27)),
mv 29 28,
ag 30 (.mov (.t 0)) 29 false,
ag 31 (.bin .eql .no (.t 30) (.c (.int .u8 77))) 29 false,
ao 32 (.pick (.t 29) (.c (.bool true)) (.t 31)),
mv 8 32])
(.seq (.seq (.reg [mv 33 8,
ao 34 (.un .not (.t 33))])
(.cond (.t 34)
(.seq (.reg [ao 6 (.mov (.c (.int .i64 0))),
ao 7 (.mov (.c (.bool false)))])
.ret)
.skip))
(.seq (.seq (.reg [mv 35 1,
ao 36 (.call 14 [(.t 35)]),
ao 37 (.un .not (.t 36)),
mv 38 37,
ag 39 (.mov (.t 2)) 38 false,
ag 40 (.call 14 [(.t 39)]) 38 false,
ag 41 (.un .not (.t 40)) 38 false,
ao 42 (.pick (.t 38) (.c (.bool true)) (.t 41))])
(.cond (.t 42)
(.seq (.reg [ao 6 (.mov (.c (.int .i64 9221120237041090560))),
ao 7 (.mov (.c (.bool true)))])
.ret)
.skip))
(.seq (.reg [mv 43 1,
ao 44 (.conv (.int .u64) (.t 43)),
ao 45 (.call 27 [(.t 44)]),
mv 9 45])
(.seq (.reg [mv 46 2,
ao 47 (.conv (.int .u64) (.t 46)),
ao 48 (.call 27 [(.t 47)]),
mv 10 48])
(.seq (.seq (.reg [mv 49 0])
(.block 0 (.seq (.reg [ao 51 (.bin .eql .no (.t 49) (.c (.int .u8 43))),
mv 50 51])
(.cond (.t 50)
(.seq (.reg [mv 52 9,
mv 53 10,
ao 54 (.bin .add .no (.t 52) (.t 53)),
ao 55 (.call 28 [(.t 54)]),
mv 6 55,
ao 7 (.mov (.c (.bool true)))])
.ret)
(.seq (.reg [ao 57 (.bin .eql .no (.t 49) (.c (.int .u8 45))),
mv 56 57])
(.cond (.t 56)
(.seq (.reg [mv 58 9,
mv 59 10,
ao 60 (.bin .sub .no (.t 58) (.t 59)),
ao 61 (.call 28 [(.t 60)]),
mv 6 61,
ao 7 (.mov (.c (.bool true)))])
.ret)
(.seq (.reg [ao 63 (.bin .eql .no (.t 49) (.c (.int .u8 42))),
mv 62 63])
(.cond (.t 62)
(.seq (.reg [mv 64 9,
mv 65 10,
ao 66 (.bin .mul .no (.t 64) (.t 65)),
ao 67 (.call 28 [(.t 66)]),
mv 6 67,
ao 7 (.mov (.c (.bool true)))])
.ret)
(.seq (.reg [ao 69 (.bin .eql .no (.t 49) (.c (.int .u8 47))),
mv 68 69])
(.cond (.t 68)
(.seq (.reg [mv 70 9,
mv 71 10,
ao 72 (.bin .quo .no (.t 70) (.t 71)),
ao 73 (.call 28 [(.t 72)]),
mv 6 73,
ao 7 (.mov (.c (.bool true)))])
.ret)
(.seq (.reg [ao 75 (.bin .eql .no (.t 49) (.c (.int .u8 109))),
mv 74 75])
(.cond (.t 74)
(.seq (.reg [mv 76 1,
mv 77 2,
ao 78 (.call 29 [(.t 76), (.t 77)]),
mv 6 78,
ao 7 (.mov (.c (.bool true)))])
.ret)
.skip))))))))))))
(.seq (.reg [mv 79 1,
mv 80 2,
ao 81 (.call 30 [(.t 79), (.t 80)]),
mv 6 81,
ao 7 (.mov (.c (.bool true)))])
.ret)))))))) }
-- nostos/flo.One
def w11 : WF := { nt := 25, results := [(4, none), (5, none)], code :=
(.seq (.reg [ao 4 (.mov (.c (.int .i64 0))),
ao 5 (.mov (.c (.bool false)))])
(.seq (.reg [ao 8 (.mem .makeMap []),
an (.mem (.mapPut .int) [(.t 8), (.c (.int .u8 110)), (.c (.fn (.func 31) [] []))]),
an (.mem (.mapPut .int) [(.t 8), (.c (.int .u8 97)), (.c (.fn (.func 32) [] []))]),
an (.mem (.mapPut .int) [(.t 8), (.c (.int .u8 115)), (.c (.fn (.func 33) [] []))]),
an (.mem (.mapPut .int) [(.t 8), (.c (.int .u8 102)), (.c (.fn (.func 34) [] []))]),
mv 9 8,
mv 10 0,
ao 11 (.rd (.lookup .int .nilfn false) [(.t 9), (.t 10)]),
mv 6 11])
(.seq (.reg [mv 12 1,
ao 13 (.call 25 [(.t 12)]),
mv 7 13])
(.seq (.block 0 (.seq (.reg [mv 15 6,
ao 16 (.bin .eql .func (.t 15) (.c .nilfn)),
mv 14 16])
(.cond (.t 14)
(.seq (.reg [ao 4 (.mov (.c (.int .i64 0))),
ao 5 (.mov (.c (.bool false)))])
.ret)
(.seq (.reg [mv 18 7,
mv 19 7,
ao 20 (.bin .neq .no (.t 18) (.t 19)),
mv 17 20])
(.cond (.t 17)
(.seq (.reg [ao 4 (.mov (.c (.int .i64 9221120237041090560))),
ao 5 (.mov (.c (.bool true)))])
.ret)
.skip)))))
(.seq (.reg [mv 21 6,
mv 22 7,
ao 23 (.callv (.t 21) [(.t 22)]),
ao 24 (.call 26 [(.t 23)]),
mv 4 24,
ao 5 (.mov (.c (.bool true)))])
.ret))))) }
-- nostos/nostosref02.One
def w12 : WF := { nt := 48, results := [(4, none), (5, none)], code :=
(.seq (.reg [ao 4 (.mov (.c (.int .i64 0))),
ao 5 (.mov (.c (.bool false)))])
(.seq (.seq (.reg [mv 7 0,
ao 8 (.bin .neq .no (.t 7) (.c (.int .u8 110))),
mv 9 8,
ag 10 (.mov (.t 0)) 9 true,
ag 11 (.bin .neq .no (.t 10) (.c (.int .u8 97))) 9 true,
ao 12 (.pick (.t 9) (.t 11) (.c (.bool false))),
mv 13 12,
ag 14 (.mov (.t 0)) 13 true,
ag 15 (.bin .neq .no (.t 14) (.c (.int .u8 115))) 13 true,
ao 16 (.pick (.t 13) (.t 15) (.c (.bool false))),
mv 17 16,
ag 18 (.mov (.t 0)) 17 true,
ag 19 (.bin .neq .no (.t 18) (.c (.int .u8 102))) 17 true,
ao 20 (.pick (.t 17) (.t 19) (.c (.bool false)))])
(.cond (.t 20)
(.seq (.reg [ao 4 (.mov (.c (.int .i64 0))),
ao 5 (.mov (.c (.bool false)))])
.ret)
.skip))
(.seq (.seq (.reg [mv 21 1,
ao 22 (.call 14 [(.t 21)]),
ao 23 (.un .not (.t 22))])
(.cond (.t 23)
(.seq (.reg [ao 4 (.mov (.c (.int .i64 9221120237041090560))),
ao 5 (.mov (.c (.bool true)))])
.ret)
.skip))
(.seq (.reg [mv 24 1,
ao 25 (.conv (.int .u64) (.t 24)),
ao 26 (.call 27 [(.t 25)]),
mv 6 26])
(.seq (.seq (.reg [mv 27 0])
(.block 0 (.seq (.reg [ao 29 (.bin .eql .no (.t 27) (.c (.int .u8 110))),
mv 28 29])
(.cond (.t 28)
(.seq (.reg [mv 30 1,
ao 31 (.conv (.int .u64) (.t 30)),
ao 32 (.bin .xor .no (.t 31) (.c (.int .u64 9223372036854775808))),
ao 33 (.conv (.int .i64) (.t 32)),
mv 4 33,
ao 5 (.mov (.c (.bool true)))])
.ret)
(.seq (.reg [ao 35 (.bin .eql .no (.t 27) (.c (.int .u8 97))),
mv 34 35])
(.cond (.t 34)
(.seq (.reg [mv 36 1,
ao 37 (.conv (.int .u64) (.t 36)),
ao 38 (.bin .and .no (.t 37) (.c (.int .u64 9223372036854775807))),
ao 39 (.conv (.int .i64) (.t 38)),
mv 4 39,
ao 5 (.mov (.c (.bool true)))])
.ret)
(.seq (.reg [ao 41 (.bin .eql .no (.t 27) (.c (.int .u8 115))),
mv 40 41])
(.cond (.t 40)
(.seq (.reg [mv 42 6,
ao 43 (.call 33 [(.t 42)]),
ao 44 (.call 28 [(.t 43)]),
mv 4 44,
ao 5 (.mov (.c (.bool true)))])
.ret)
.skip))))))))
(.seq (.reg [mv 45 6,
ao 46 (.call 34 [(.t 45)]),
ao 47 (.call 28 [(.t 46)]),
mv 4 47,
ao 5 (.mov (.c (.bool true)))])
.ret)))))) }
-- nostos/nostoslaw02.one1
def w13 : WF := { nt := 14, results := [(4, none)], code :=
(.seq (.reg [ao 4 (.mov (.c (.int .i64 0)))])
(.seq (.reg [mv 8 0,
mv 9 1,
ao 10 (.call 11 [(.t 8), (.t 9)]),
mv 7 10,
ao 11 (.extract 0 (.t 7)),
ao 12 (.extract 1 (.t 7)),
mv 5 11,
mv 6 12])
(.seq (.reg [mv 13 5,
mv 4 13])
.ret))) }
-- nostos/nostosref02.Num
def w14 : WF := { nt := 10, results := [(2, none)], code :=
(.seq (.reg [ao 2 (.mov (.c (.bool false)))])
(.seq (.reg [mv 4 0,
ao 5 (.conv (.int .u64) (.t 4)),
ao 6 (.call 27 [(.t 5)]),
mv 3 6])
(.seq (.reg [mv 7 3,
mv 8 3,
ao 9 (.bin .eql .no (.t 7) (.t 8)),
mv 2 9])
.ret))) }
-- nostos/flo.Less
def w15 : WF := { nt := 10, results := [(4, none)], code :=
(.seq (.reg [ao 4 (.mov (.c (.bool false)))])
(.seq (.reg [mv 5 0,
ao 6 (.call 25 [(.t 5)]),
mv 7 1,
ao 8 (.call 25 [(.t 7)]),
ao 9 (.bin .lss .no (.t 6) (.t 8)),
mv 4 9])
.ret)) }
-- nostos/nostoslaw02.two
def w16 : WF := { nt := 17, results := [(6, none)], code :=
(.seq (.reg [ao 6 (.mov (.c (.int .i64 0)))])
(.seq (.reg [mv 10 0,
mv 11 1,
mv 12 2,
ao 13 (.call 9 [(.t 10), (.t 11), (.t 12)]),
mv 9 13,
ao 14 (.extract 0 (.t 9)),
ao 15 (.extract 1 (.t 9)),
mv 7 14,
mv 8 15])
(.seq (.reg [mv 16 7,
mv 6 16])
.ret))) }
-- nostos/flo.Same
def w17 : WF := { nt := 10, results := [(4, none)], code :=
(.seq (.reg [ao 4 (.mov (.c (.bool false)))])
(.seq (.reg [mv 5 0,
ao 6 (.call 25 [(.t 5)]),
mv 7 1,
ao 8 (.call 25 [(.t 7)]),
ao 9 (.bin .eql .no (.t 6) (.t 8)),
mv 4 9])
.ret)) }
-- nostos/nostosref02.Less
def w18 : WF := { nt := 12, results := [(4, none)], code :=
(.seq (.reg [ao 4 (.mov (.c (.bool false)))])
(.seq (.reg [mv 5 0,
ao 6 (.conv (.int .u64) (.t 5)),
ao 7 (.call 27 [(.t 6)]),
mv 8 1,
ao 9 (.conv (.int .u64) (.t 8)),
ao 10 (.call 27 [(.t 9)]),
ao 11 (.bin .lss .no (.t 7) (.t 10)),
mv 4 11])
.ret)) }
-- nostos/nostosref02.Same
def w19 : WF := { nt := 12, results := [(4, none)], code :=
(.seq (.reg [ao 4 (.mov (.c (.bool false)))])
(.seq (.reg [mv 5 0,
ao 6 (.conv (.int .u64) (.t 5)),
ao 7 (.call 27 [(.t 6)]),
mv 8 1,
ao 9 (.conv (.int .u64) (.t 8)),
ao 10 (.call 27 [(.t 9)]),
ao 11 (.bin .eql .no (.t 7) (.t 10)),
mv 4 11])
.ret)) }
-- nostos/flo.Take
def w20 : WF := { nt := 16, results := [(2, none), (3, none)], code :=
(.seq (.reg [ao 2 (.mov (.c (.int .i64 0))),
ao 3 (.mov (.c (.bool false)))])
(.seq (.reg [mv 5 0,
ao 6 (.call 25 [(.t 5)]),
mv 4 6])
(.seq (.seq (.reg [mv 7 4,
ao 8 (.bin .geq .no (.t 7) (.c (.float .f64 14114281232179134464))),
mv 9 8,
ag 10 (.mov (.t 4)) 9 true,
ag 11 (.bin .lss .no (.t 10) (.c (.float .f64 4890909195324358656))) 9 true,
ao 12 (.pick (.t 9) (.t 11) (.c (.bool false))),
ao 13 (.un .not (.t 12))])
(.cond (.t 13)
(.seq (.reg [ao 2 (.mov (.c (.int .i64 0))),
ao 3 (.mov (.c (.bool false)))])
.ret)
.skip))
(.seq (.reg [mv 14 4,
ao 15 (.pur (.f2i .i64) [(.t 14)]),
mv 2 15,
ao 3 (.mov (.c (.bool true)))])
.ret)))) }
-- nostos/nostosref02.Take
def w21 : WF := { nt := 22, results := [(2, none), (3, none)], code :=
(.seq (.reg [ao 2 (.mov (.c (.int .i64 0))),
ao 3 (.mov (.c (.bool false)))])
(.seq (.reg [mv 5 0,
ao 6 (.conv (.int .u64) (.t 5)),
ao 7 (.call 27 [(.t 6)]),
mv 4 7])
(.seq (.seq (.reg [mv 8 4,
mv 9 4,
ao 10 (.bin .neq .no (.t 8) (.t 9)),
mv 11 10,
ag 12 (.mov (.t 4)) 11 false,
ag 13 (.bin .lss .no (.t 12) (.c (.float .f64 14114281232179134464))) 11 false,
ao 14 (.pick (.t 11) (.c (.bool true)) (.t 13)),
mv 15 14,
ag 16 (.mov (.t 4)) 15 false,
ag 17 (.bin .geq .no (.t 16) (.c (.float .f64 4890909195324358656))) 15 false,
ao 18 (.pick (.t 15) (.c (.bool true)) (.t 17))])
(.cond (.t 18)
(.seq (.reg [ao 2 (.mov (.c (.int .i64 0))),
ao 3 (.mov (.c (.bool false)))])
.ret)
.skip))
(.seq (.reg [mv 19 4,
ao 20 (.call 35 [(.t 19)]),
ao 21 (.pur (.f2i .i64) [(.t 20)]),
mv 2 21,
ao 3 (.mov (.c (.bool true)))])
.ret)))) }
-- nostos/flo.Put
def w22 : WF := { nt := 6, results := [(2, none)], code :=
(.seq (.reg [ao 2 (.mov (.c (.int .i64 0)))])
(.seq (.reg [mv 3 0,
ao 4 (.pur (.i2f .f64) [(.t 3)]),
ao 5 (.call 26 [(.t 4)]),
mv 2 5])
.ret)) }
-- nostos/nostosref02.Put
def w23 : WF := { nt := 6, results := [(2, none)], code :=
(.seq (.reg [ao 2 (.mov (.c (.int .i64 0)))])
(.seq (.reg [mv 3 0,
ao 4 (.pur (.i2f .f64) [(.t 3)]),
ao 5 (.call 28 [(.t 4)]),
mv 2 5])
.ret)) }
-- nostos/flo.twos
def w24 : WF := { nt := 3, results := [(0, none)], code :=
(.seq (.reg [ao 0 (.mov (.c .nilmap))])
(.seq (.reg [ao 1 (.mem .makeMap []),
an (.mem (.mapPut .int) [(.t 1), (.c (.int .u8 43)), (.c (.fn (.func 36) [] []))]),
an (.mem (.mapPut .int) [(.t 1), (.c (.int .u8 45)), (.c (.fn (.func 37) [] []))]),
an (.mem (.mapPut .int) [(.t 1), (.c (.int .u8 42)), (.c (.fn (.func 38) [] []))]),
an (.mem (.mapPut .int) [(.t 1), (.c (.int .u8 47)), (.c (.fn (.func 39) [] []))]),
an (.mem (.mapPut .int) [(.t 1), (.c (.int .u8 109)), (.c (.fn (.func 40) [] []))]),
an (.mem (.mapPut .int) [(.t 1), (.c (.int .u8 77)), (.c (.fn (.func 41) [] []))]),
mv 2 1,
mv 0 2])
.ret)) }
-- nostos/flo.float
def w25 : WF := { nt := 6, results := [(2, none)], code :=
(.seq (.reg [ao 2 (.mov (.c (.float .f64 0)))])
(.seq (.reg [mv 3 0,
ao 4 (.conv (.int .u64) (.t 3)),
ao 5 (.call 27 [(.t 4)]),
mv 2 5])
.ret)) }
-- nostos/flo.bits
def w26 : WF := { nt := 8, results := [(2, none)], code :=
(.seq (.reg [ao 2 (.mov (.c (.int .i64 0)))])
(.seq (.seq (.reg [mv 3 0,
ao 4 (.call 42 [(.t 3)])])
(.cond (.t 4)
(.seq (.reg [ao 2 (.mov (.c (.int .i64 9221120237041090560)))])
.ret)
.skip))
(.seq (.reg [mv 5 0,
ao 6 (.call 43 [(.t 5)]),
ao 7 (.conv (.int .i64) (.t 6)),
mv 2 7])
.ret))) }
-- nostos/nostosref02.cell
def w28 : WF := { nt := 9, results := [(2, none)], code :=
(.seq (.reg [ao 2 (.mov (.c (.int .i64 0)))])
(.seq (.seq (.reg [mv 3 0,
mv 4 0,
ao 5 (.bin .neq .no (.t 3) (.t 4))])
(.cond (.t 5)
(.seq (.reg [ao 2 (.mov (.c (.int .i64 9221120237041090560)))])
.ret)
.skip))
(.seq (.reg [mv 6 0,
ao 7 (.call 43 [(.t 6)]),
ao 8 (.conv (.int .i64) (.t 7)),
mv 2 8])
.ret))) }
-- nostos/nostosref02.least
def w29 : WF := { nt := 25, results := [(4, none)], code :=
(.seq (.reg [ao 4 (.mov (.c (.int .i64 0)))])
(.seq (.reg [mv 7 0,
ao 8 (.conv (.int .u64) (.t 7)),
ao 9 (.call 27 [(.t 8)]),
mv 5 9])
(.seq (.reg [mv 10 1,
ao 11 (.conv (.int .u64) (.t 10)),
ao 12 (.call 27 [(.t 11)]),
mv 6 12])
(.seq (.seq (.reg [mv 13 5,
mv 14 6,
ao 15 (.bin .lss .no (.t 13) (.t 14))])
(.cond (.t 15)
(.seq (.reg [mv 16 0,
mv 4 16])
.ret)
.skip))
(.seq (.seq (.reg [mv 17 5,
mv 18 6,
ao 19 (.bin .gtr .no (.t 17) (.t 18))])
(.cond (.t 19)
(.seq (.reg [mv 20 1,
mv 4 20])
.ret)
.skip))
(.seq (.seq (.reg [mv 21 0,
ao 22 (.call 44 [(.t 21)])])
(.cond (.t 22)
(.seq (.reg [mv 23 0,
mv 4 23])
.ret)
.skip))
(.seq (.reg [mv 24 1,
mv 4 24])
.ret))))))) }
-- nostos/nostosref02.greatest
def w30 : WF := { nt := 12, results := [(4, none)], code :=
(.seq (.reg [ao 4 (.mov (.c (.int .i64 0)))])
(.seq (.seq (.reg [mv 5 0,
mv 6 1,
ao 7 (.call 29 [(.t 5), (.t 6)]),
mv 8 0,
ao 9 (.bin .eql .no (.t 7) (.t 8))])
(.cond (.t 9)
(.seq (.reg [mv 10 1,
mv 4 10])
.ret)
.skip))
(.seq (.reg [mv 11 0,
mv 4 11])
.ret))) }
-- nostos/flo.One$1
def w31 : WF := { nt := 5, results := [(2, none)], code :=
(.seq (.reg [ao 2 (.mov (.c (.float .f64 0)))])
(.seq (.reg [mv 3 0,
ao 4 (.un .neg (.t 3)),
mv 2 4])
.ret)) }
-- math.Abs
def w32 : WF := { nt := 7, results := [(2, none)], code :=
(.seq (.reg [ao 2 (.mov (.c (.float .f64 0)))])
(.seq (.reg [mv 3 0,
ao 4 (.call 43 [(.t 3)]),
ao 5 (.bin .andNot .no (.t 4) (.c (.int .u64 9223372036854775808))),
ao 6 (.call 27 [(.t 5)]),
mv 2 6])
.ret)) }
-- math.Sqrt
def w33 : WF := { nt := 5, results := [(2, none)], code :=
(.seq (.reg [ao 2 (.mov (.c (.float .f64 0)))])
(.seq (.reg [mv 3 0,
ao 4 (.call 45 [(.t 3)]),
mv 2 4])
.ret)) }
-- math.Floor
def w34 : WF := { nt := 7, results := [(2, none)], code :=
(.seq (.reg [ao 2 (.mov (.c (.float .f64 0)))])
(.seq (.cond (.c (.bool true))
(.seq (.reg [mv 3 0,
ao 4 (.call 46 [(.t 3)]),
mv 2 4])
.ret)
.skip)
(.seq (.reg [mv 5 0,
ao 6 (.call 47 [(.t 5)]),
mv 2 6])
.ret))) }
-- math.Trunc
def w35 : WF := { nt := 7, results := [(2, none)], code :=
(.seq (.reg [ao 2 (.mov (.c (.float .f64 0)))])
(.seq (.cond (.c (.bool true))
(.seq (.reg [mv 3 0,
ao 4 (.call 48 [(.t 3)]),
mv 2 4])
.ret)
.skip)
(.seq (.reg [mv 5 0,
ao 6 (.call 49 [(.t 5)]),
mv 2 6])
.ret))) }
-- nostos/flo.twos$1
def w36 : WF := { nt := 8, results := [(4, none)], code :=
(.seq (.reg [ao 4 (.mov (.c (.float .f64 0)))])
(.seq (.reg [mv 5 0,
mv 6 1,
ao 7 (.bin .add .no (.t 5) (.t 6)),
mv 4 7])
.ret)) }
-- nostos/flo.twos$2
def w37 : WF := { nt := 8, results := [(4, none)], code :=
(.seq (.reg [ao 4 (.mov (.c (.float .f64 0)))])
(.seq (.reg [mv 5 0,
mv 6 1,
ao 7 (.bin .sub .no (.t 5) (.t 6)),
mv 4 7])
.ret)) }
-- nostos/flo.twos$3
def w38 : WF := { nt := 8, results := [(4, none)], code :=
(.seq (.reg [ao 4 (.mov (.c (.float .f64 0)))])
(.seq (.reg [mv 5 0,
mv 6 1,
ao 7 (.bin .mul .no (.t 5) (.t 6)),
mv 4 7])
.ret)) }
-- nostos/flo.twos$4
def w39 : WF := { nt := 8, results := [(4, none)], code :=
(.seq (.reg [ao 4 (.mov (.c (.float .f64 0)))])
(.seq (.reg [mv 5 0,
mv 6 1,
ao 7 (.bin .quo .no (.t 5) (.t 6)),
mv 4 7])
.ret)) }
-- nostos/flo.least
def w40 : WF := { nt := 19, results := [(4, none)], code :=
(.seq (.reg [ao 4 (.mov (.c (.float .f64 0)))])
(.seq (.seq (.reg [mv 5 0,
mv 6 1,
ao 7 (.bin .lss .no (.t 5) (.t 6)),
mv 8 7,
ag 9 (.mov (.t 0)) 8 false,
ag 10 (.mov (.t 1)) 8 false,
ag 11 (.bin .eql .no (.t 9) (.t 10)) 8 false,
ag 12 (.mov (.t 11)) 8 false,
ag 13 (.mov (.t 0)) 12 true,
ag 14 (.call 50 [(.t 13)]) 12 true,
ag 15 (.pick (.t 12) (.t 14) (.c (.bool false))) 8 false,
ao 16 (.pick (.t 8) (.c (.bool true)) (.t 15))])
(.cond (.t 16)
(.seq (.reg [mv 17 0,
mv 4 17])
.ret)
.skip))
(.seq (.reg [mv 18 1,
mv 4 18])
.ret))) }
-- nostos/flo.twos$5
def w41 : WF := { nt := 11, results := [(4, none)], code :=
(.seq (.reg [ao 4 (.mov (.c (.float .f64 0)))])
(.seq (.reg [mv 5 0,
ao 6 (.un .neg (.t 5)),
mv 7 1,
ao 8 (.un .neg (.t 7)),
ao 9 (.call 40 [(.t 6), (.t 8)]),
ao 10 (.un .neg (.t 9)),
mv 4 10])
.ret)) }
-- math.IsNaN
def w42 : WF := { nt := 6, results := [(2, none)], code :=
(.seq (.reg [ao 2 (.mov (.c (.bool false)))])
(.seq (.reg [mv 3 0,
mv 4 0,
ao 5 (.bin .neq .no (.t 3) (.t 4)),
mv 2 5])
.ret)) }
-- nostos/nostosref02.minus
def w44 : WF := { nt := 5, results := [(2, none)], code :=
(.seq (.reg [ao 2 (.mov (.c (.bool false)))])
(.seq (.reg [mv 3 0,
ao 4 (.bin .lss .no (.t 3) (.c (.int .i64 0))),
mv 2 4])
.ret)) }
-- math.Signbit
def w50 : WF := { nt := 7, results := [(2, none)], code :=
(.seq (.reg [ao 2 (.mov (.c (.bool false)))])
(.seq (.reg [mv 3 0,
ao 4 (.call 43 [(.t 3)]),
ao 5 (.conv (.int .i64) (.t 4)),
ao 6 (.bin .lss .no (.t 5) (.c (.int .i64 0))),
mv 2 6])
.ret)) }

def tab : List (Nat × AFun) := [(3, w3.toA), (4, w4.toA), (5, w5.toA), (6, w6.toA), (7, w7.toA), (8, w8.toA), (9, w9.toA), (10, w10.toA), (11, w11.toA), (12, w12.toA), (13, w13.toA), (14, w14.toA), (15, w15.toA), (16, w16.toA), (17, w17.toA), (18, w18.toA), (19, w19.toA), (20, w20.toA), (21, w21.toA), (22, w22.toA), (23, w23.toA), (24, w24.toA), (25, w25.toA), (26, w26.toA), (28, w28.toA), (29, w29.toA), (30, w30.toA), (31, w31.toA), (32, w32.toA), (33, w33.toA), (34, w34.toA), (35, w35.toA), (36, w36.toA), (37, w37.toA), (38, w38.toA), (39, w39.toA), (40, w40.toA), (41, w41.toA), (42, w42.toA), (44, w44.toA), (50, w50.toA)]
theorem tab_ok : ∀ x ∈ tab, cFun Try.prog x.1 = some x.2.erase := by
  intro x hx
  simp only [tab, List.mem_cons, List.not_mem_nil, or_false] at hx
  rcases hx with rfl | rfl | rfl | rfl | rfl | rfl | rfl | rfl | rfl | rfl | rfl | rfl | rfl | rfl | rfl | rfl | rfl | rfl | rfl | rfl | rfl | rfl | rfl | rfl | rfl | rfl | rfl | rfl | rfl | rfl | rfl | rfl | rfl | rfl | rfl | rfl | rfl | rfl | rfl | rfl | rfl
  · kernel_rfl
  · kernel_rfl
  · kernel_rfl
  · kernel_rfl
  · kernel_rfl
  · kernel_rfl
  · kernel_rfl
  · kernel_rfl
  · kernel_rfl
  · kernel_rfl
  · kernel_rfl
  · kernel_rfl
  · kernel_rfl
  · kernel_rfl
  · kernel_rfl
  · kernel_rfl
  · kernel_rfl
  · kernel_rfl
  · kernel_rfl
  · kernel_rfl
  · kernel_rfl
  · kernel_rfl
  · kernel_rfl
  · kernel_rfl
  · kernel_rfl
  · kernel_rfl
  · kernel_rfl
  · kernel_rfl
  · kernel_rfl
  · kernel_rfl
  · kernel_rfl
  · kernel_rfl
  · kernel_rfl
  · kernel_rfl
  · kernel_rfl
  · kernel_rfl
  · kernel_rfl
  · kernel_rfl
  · kernel_rfl
  · kernel_rfl
  · kernel_rfl
theorem k3 : okW w3.code = true := by kernel_rfl
theorem k4 : okW w4.code = true := by kernel_rfl
theorem k5 : okW w5.code = true := by kernel_rfl
theorem k6 : okW w6.code = true := by kernel_rfl
theorem k7 : okW w7.code = true := by kernel_rfl
theorem k8 : okW w8.code = true := by kernel_rfl
theorem k9 : okW w9.code = true := by kernel_rfl
theorem k10 : okW w10.code = true := by kernel_rfl
theorem k11 : okW w11.code = true := by kernel_rfl
theorem k12 : okW w12.code = true := by kernel_rfl
theorem k13 : okW w13.code = true := by kernel_rfl
theorem k14 : okW w14.code = true := by kernel_rfl
theorem k15 : okW w15.code = true := by kernel_rfl
theorem k16 : okW w16.code = true := by kernel_rfl
theorem k17 : okW w17.code = true := by kernel_rfl
theorem k18 : okW w18.code = true := by kernel_rfl
theorem k19 : okW w19.code = true := by kernel_rfl
theorem k20 : okW w20.code = true := by kernel_rfl
theorem k21 : okW w21.code = true := by kernel_rfl
theorem k22 : okW w22.code = true := by kernel_rfl
theorem k23 : okW w23.code = true := by kernel_rfl
theorem k24 : okW w24.code = true := by kernel_rfl
theorem k25 : okW w25.code = true := by kernel_rfl
theorem k26 : okW w26.code = true := by kernel_rfl
theorem k28 : okW w28.code = true := by kernel_rfl
theorem k29 : okW w29.code = true := by kernel_rfl
theorem k30 : okW w30.code = true := by kernel_rfl
theorem k31 : okW w31.code = true := by kernel_rfl
theorem k32 : okW w32.code = true := by kernel_rfl
theorem k33 : okW w33.code = true := by kernel_rfl
theorem k34 : okW w34.code = true := by kernel_rfl
theorem k35 : okW w35.code = true := by kernel_rfl
theorem k36 : okW w36.code = true := by kernel_rfl
theorem k37 : okW w37.code = true := by kernel_rfl
theorem k38 : okW w38.code = true := by kernel_rfl
theorem k39 : okW w39.code = true := by kernel_rfl
theorem k40 : okW w40.code = true := by kernel_rfl
theorem k41 : okW w41.code = true := by kernel_rfl
theorem k42 : okW w42.code = true := by kernel_rfl
theorem k44 : okW w44.code = true := by kernel_rfl
theorem k50 : okW w50.code = true := by kernel_rfl
def lk : List (Nat × AFun) → FuncId → Option AFun
  | [], _ => none
  | (i, a) :: r, f => if f = i then some a else lk r f
theorem lk_mem : ∀ (t : List (Nat × AFun)) (f : FuncId) (a : AFun), lk t f = some a → (f, a) ∈ t
  | [], _, _, h => by cases h
  | (i, b) :: r, f, a, h => by
    unfold lk at h
    split at h
    · rename_i e; cases h; subst e; exact List.mem_cons_self ..
    · exact List.mem_cons_of_mem _ (lk_mem r f a h)
end Fz.F
