/- The functions' code. -/
import Derived.Test.YtophcnbabhigmaaFzAD
import Derived.Test.YtophcnbabhigmaaProg
set_option maxRecDepth 100000
namespace Fz.H
open Go Go.Proofs
-- nostos/nostoslaw20.HistoryRuns
def w3 : WF := { nt := 38, results := [(6, none)], code :=
 (.seq (.reg [⟨(some 6), .mov (.c (.bool false)), none, [], false⟩])
 (.seq (.reg [⟨(some 10), .call 7 [], none, [], false⟩,
    ⟨(some 7), .mov (.t 10), none, [0, 0, 0], false⟩])
 (.seq (.seq (.reg [⟨(some 11), .mov (.t 0), none, [], false⟩,
     ⟨(some 12), .mov (.t 1), none, [], false⟩,
     ⟨(some 13), .mov (.t 2), none, [], false⟩,
     ⟨(some 14), .call 8 [(.t 11), (.t 12), (.t 13)], none, [0, 1, 2], false⟩,
     ⟨(some 15), .un .not (.t 14), none, [3], false⟩])
  (.cond (.t 15)
   (.seq (.reg [⟨(some 16), .mov (.t 7), none, [], false⟩,
      ⟨(some 6), .mov (.t 16), none, [0, 0], false⟩])
   .ret)
   .skip))
 (.seq (.reg [⟨(some 17), .mov (.t 0), none, [], false⟩,
    ⟨(some 18), .mov (.t 1), none, [], false⟩,
    ⟨(some 19), .mov (.t 2), none, [], false⟩,
    ⟨(some 20), .call 9 [(.t 17), (.t 18), (.t 19)], none, [0, 1, 2], false⟩,
    ⟨(some 8), .alloc [(.int .i64 0), (.int .i64 0), (.int .i64 0), (.int .i64 0), (.list [] true), (.list [] true)], none, [], true⟩,
    ⟨none, .store 6 (.t 8) (.t 20), none, [4, 3, 3, 0, 1, 2, 3, 4], true⟩])
 (.seq (.reg [⟨(some 21), .mov (.t 0), none, [], false⟩,
    ⟨(some 22), .mov (.t 1), none, [], false⟩,
    ⟨(some 23), .mov (.t 2), none, [], false⟩,
    ⟨(some 24), .call 10 [(.t 21), (.t 22), (.t 23)], none, [0, 1, 2], false⟩,
    ⟨(some 9), .alloc [(.int .i64 0), (.int .i64 0), (.int .i64 0), (.int .i64 0), (.list [] true), (.list [] true)], none, [], true⟩,
    ⟨none, .store 6 (.t 9) (.t 24), none, [4, 3, 3, 0, 1, 2, 3, 4], true⟩])
 (.seq (.calm [⟨(some 25), .mov (.t 7), none, [], false⟩,
    ⟨(some 26), .mov (.t 25), none, [0], false⟩,
    ⟨(some 27), .load true 6 (.t 8), some (26, true), [1], false⟩,
    ⟨(some 28), .load true 6 (.t 9), some (26, true), [1], false⟩,
    ⟨(some 29), .call 11 [(.t 27), (.t 28)], some (26, true), [2, 3, 1, 1], false⟩,
    ⟨(some 30), .pick (.t 26) (.t 29) (.c (.bool false)), none, [1, 4], false⟩,
    ⟨(some 31), .mov (.t 30), none, [5, 4], false⟩,
    ⟨(some 32), .load true 6 (.t 8), some (31, true), [6], false⟩,
    ⟨(some 33), .call 12 [(.t 32)], some (31, true), [7, 6, 6], false⟩,
    ⟨(some 34), .load true 6 (.t 9), some (31, true), [6], false⟩,
    ⟨(some 35), .call 13 [(.t 34)], some (31, true), [9, 8, 6], false⟩,
    ⟨(some 36), .bin .eql .no (.t 33) (.t 35), some (31, true), [8, 10, 6], false⟩,
    ⟨(some 37), .pick (.t 31) (.t 36) (.c (.bool false)), none, [6, 11], false⟩,
    ⟨(some 6), .mov (.t 37), none, [12, 10, 0, 1, 2, 3, 4, 5, 6, 7, 8, 9, 10, 11, 12], false⟩])
 .ret)))))) }
-- nostos/nostoslaw20.HistoryBound
def w4 : WF := { nt := 81, results := [(6, none)], code :=
 (.seq (.reg [⟨(some 6), .mov (.c (.bool false)), none, [], false⟩])
 (.seq (.reg [⟨(some 12), .call 7 [], none, [], false⟩,
    ⟨(some 7), .mov (.t 12), none, [0, 0, 0], false⟩])
 (.seq (.seq (.reg [⟨(some 13), .mov (.t 0), none, [], false⟩,
     ⟨(some 14), .mov (.t 1), none, [], false⟩,
     ⟨(some 15), .mov (.t 2), none, [], false⟩,
     ⟨(some 16), .call 8 [(.t 13), (.t 14), (.t 15)], none, [0, 1, 2], false⟩,
     ⟨(some 17), .un .not (.t 16), none, [3], false⟩])
  (.cond (.t 17)
   (.seq (.reg [⟨(some 18), .mov (.t 7), none, [], false⟩,
      ⟨(some 6), .mov (.t 18), none, [0, 0], false⟩])
   .ret)
   .skip))
 (.seq (.reg [⟨(some 8), .mov (.c (.int .i64 0)), none, [], false⟩])
 (.seq (.reg [⟨(some 9), .mov (.c (.int .i64 0)), none, [], false⟩])
 (.seq (.seq (.reg [⟨(some 10), .mov (.c (.int .i64 0)), none, [], false⟩])
  (.block 0 (.loop (.seq (.seq (.reg [⟨(some 19), .mov (.t 10), none, [], false⟩,
        ⟨(some 20), .mov (.t 2), none, [], false⟩,
        ⟨(some 21), .len (.t 20), none, [1], false⟩,
        ⟨(some 22), .bin .leq .no (.t 19) (.t 21), none, [0, 2], false⟩])
     (.cond (.t 22)
      .skip
      (.exit 0)))
    (.seq (.block 1 (.seq (.reg [⟨(some 25), .mov (.t 0), none, [], false⟩,
         ⟨(some 26), .mov (.t 1), none, [], false⟩,
         ⟨(some 27), .mov (.t 2), none, [], false⟩,
         ⟨(some 28), .mov (.t 10), none, [], false⟩,
         ⟨(some 29), .slice (.sl 2) (.t 27) none (some (.t 28)) none, none, [2, 3], false⟩,
         ⟨(some 30), .call 9 [(.t 25), (.t 26), (.t 29)], none, [0, 1, 4], false⟩,
         ⟨(some 11), .alloc [(.int .i64 0), (.int .i64 0), (.int .i64 0), (.int .i64 0), (.list [] true), (.list [] true)], none, [], true⟩,
         ⟨none, .store 6 (.t 11) (.t 30), none, [6, 5, 5, 0, 1, 2, 3, 4, 5, 6], true⟩])
      (.seq (.seq (.reg [⟨(some 31), .mov (.t 10), none, [], false⟩,
          ⟨(some 32), .bin .gtr .no (.t 31) (.c (.int .i64 0)), none, [0], false⟩,
          ⟨(some 33), .mov (.t 32), none, [1], false⟩,
          ⟨(some 34), .mov (.t 2), some (33, true), [2], false⟩,
          ⟨(some 35), .mov (.t 10), some (33, true), [2], false⟩,
          ⟨(some 36), .bin .sub .no (.t 35) (.c (.int .i64 1)), some (33, true), [4, 2], false⟩,
          ⟨(some 37), .indexSl 2 (.t 34) (.t 36), some (33, true), [3, 5, 2], false⟩,
          ⟨(some 38), .fieldAddr 0 (.t 37), some (33, true), [6, 2], false⟩,
          ⟨(some 39), .load false 1 (.t 38), some (33, true), [7, 2], false⟩,
          ⟨(some 40), .un .not (.t 39), some (33, true), [8, 2], false⟩,
          ⟨(some 41), .pick (.t 33) (.t 40) (.c (.bool false)), none, [2, 9], false⟩])
       (.cond (.t 41)
        (.reg [⟨(some 42), .mov (.t 9), none, [], false⟩,
          ⟨(some 43), .bin .add .no (.t 42) (.c (.int .i64 1)), none, [0], false⟩,
          ⟨(some 9), .mov (.t 43), none, [1, 0, 1], false⟩])
        .skip))
      (.seq (.seq (.reg [⟨(some 44), .load true 6 (.t 11), none, [], false⟩,
          ⟨(some 45), .call 12 [(.t 44)], none, [0], false⟩,
          ⟨(some 46), .mov (.t 0), none, [], false⟩,
          ⟨(some 47), .bin .gtr .no (.t 45) (.t 46), none, [1, 2], false⟩,
          ⟨(some 48), .mov (.t 47), none, [3, 1], false⟩,
          ⟨(some 49), .fieldAddr 2 (.t 11), some (48, false), [4], false⟩,
          ⟨(some 50), .load false 1 (.t 49), some (48, false), [5, 4], false⟩,
          ⟨(some 51), .mov (.t 8), some (48, false), [4], false⟩,
          ⟨(some 52), .bin .lss .no (.t 50) (.t 51), some (48, false), [6, 7, 4], false⟩,
          ⟨(some 53), .pick (.t 48) (.c (.bool true)) (.t 52), none, [4, 8], false⟩,
          ⟨(some 54), .mov (.t 53), none, [9, 4], false⟩,
          ⟨(some 55), .fieldAddr 2 (.t 11), some (54, false), [10], false⟩,
          ⟨(some 56), .load false 1 (.t 55), some (54, false), [11, 10], false⟩,
          ⟨(some 57), .fieldAddr 3 (.t 11), some (54, false), [10], false⟩,
          ⟨(some 58), .load false 1 (.t 57), some (54, false), [13, 10], false⟩,
          ⟨(some 59), .bin .gtr .no (.t 56) (.t 58), some (54, false), [12, 14, 10], false⟩,
          ⟨(some 60), .pick (.t 54) (.c (.bool true)) (.t 59), none, [10, 15], false⟩,
          ⟨(some 61), .mov (.t 60), none, [16, 10], false⟩,
          ⟨(some 62), .fieldAddr 3 (.t 11), some (61, false), [17], false⟩,
          ⟨(some 63), .load false 1 (.t 62), some (61, false), [18, 17], false⟩,
          ⟨(some 64), .mov (.t 9), some (61, false), [17], false⟩,
          ⟨(some 65), .bin .neq .no (.t 63) (.t 64), some (61, false), [19, 20, 17], false⟩,
          ⟨(some 66), .pick (.t 61) (.c (.bool true)) (.t 65), none, [17, 21], false⟩,
          ⟨(some 67), .mov (.t 66), none, [22, 17], false⟩,
          ⟨(some 68), .fieldAddr 4 (.t 11), some (67, false), [23], false⟩,
          ⟨(some 69), .load false 1 (.t 68), some (67, false), [24, 23], false⟩,
          ⟨(some 70), .len (.t 69), some (67, false), [25, 23], false⟩,
          ⟨(some 71), .fieldAddr 3 (.t 11), some (67, false), [23], false⟩,
          ⟨(some 72), .load false 1 (.t 71), some (67, false), [27, 23], false⟩,
          ⟨(some 73), .fieldAddr 2 (.t 11), some (67, false), [23], false⟩,
          ⟨(some 74), .load false 1 (.t 73), some (67, false), [29, 23], false⟩,
          ⟨(some 75), .bin .sub .no (.t 72) (.t 74), some (67, false), [28, 30, 23], false⟩,
          ⟨(some 76), .bin .neq .no (.t 70) (.t 75), some (67, false), [26, 31, 23], false⟩,
          ⟨(some 77), .pick (.t 67) (.c (.bool true)) (.t 76), none, [23, 32], false⟩])
       (.cond (.t 77)
        (.seq (.reg [⟨(some 6), .mov (.c (.bool false)), none, [], false⟩])
        .ret)
        .skip))
      (.reg [⟨(some 78), .fieldAddr 2 (.t 11), none, [], false⟩,
        ⟨(some 79), .load false 1 (.t 78), none, [0], false⟩,
        ⟨(some 8), .mov (.t 79), none, [1, 0, 1], false⟩])))))
    (.reg [⟨(some 23), .mov (.t 10), none, [], false⟩,
      ⟨(some 24), .bin .add .no (.t 23) (.c (.int .i64 1)), none, [0], false⟩,
      ⟨(some 10), .mov (.t 24), none, [1, 0, 1], false⟩]))))))
 (.seq (.reg [⟨(some 80), .mov (.t 7), none, [], false⟩,
    ⟨(some 6), .mov (.t 80), none, [0, 0], false⟩])
 .ret))))))) }
-- nostos/nostoslaw20.HistoryKeeps
def w5 : WF := { nt := 80, results := [(6, none)], code :=
 (.seq (.reg [⟨(some 4), .box (.t 1), none, [], true⟩,
    ⟨(some 6), .mov (.c (.bool false)), none, [], false⟩])
 (.seq (.reg [⟨(some 14), .call 7 [], none, [], false⟩,
    ⟨(some 7), .mov (.t 14), none, [0, 0, 0], false⟩])
 (.seq (.seq (.reg [⟨(some 15), .mov (.t 0), none, [], false⟩,
     ⟨(some 16), .mov (.t 2), none, [], false⟩,
     ⟨(some 17), .call 8 [(.c (.int .i64 0)), (.t 15), (.t 16)], none, [0, 1], false⟩,
     ⟨(some 18), .un .not (.t 17), none, [2], false⟩])
  (.cond (.t 18)
   (.seq (.reg [⟨(some 19), .mov (.t 7), none, [], false⟩,
      ⟨(some 6), .mov (.t 19), none, [0, 0], false⟩])
   .ret)
   .skip))
 (.seq (.reg [⟨(some 20), .indexPA 2 1 (.t 4) (.c (.int .i64 0)), none, [], false⟩,
    ⟨(some 21), .load false 1 (.t 20), none, [0], false⟩,
    ⟨(some 22), .conv (.int .i64) (.t 21), none, [1], false⟩,
    ⟨(some 23), .bin .rem .no (.t 22) (.c (.int .i64 20)), none, [2], false⟩,
    ⟨(some 8), .mov (.t 23), none, [3, 0, 1, 2, 3], false⟩])
 (.seq (.reg [⟨(some 9), .mov (.c (.int .i64 0)), none, [], false⟩])
 (.seq (.reg [⟨(some 10), .mov (.c (.int .i64 0)), none, [], false⟩])
 (.seq (.seq (.reg [⟨(some 11), .mov (.c (.int .i64 0)), none, [], false⟩])
  (.block 0 (.loop (.seq (.seq (.reg [⟨(some 24), .mov (.t 11), none, [], false⟩,
        ⟨(some 25), .mov (.t 2), none, [], false⟩,
        ⟨(some 26), .len (.t 25), none, [1], false⟩,
        ⟨(some 27), .bin .lss .no (.t 24) (.t 26), none, [0, 2], false⟩])
     (.cond (.t 27)
      .skip
      (.exit 0)))
    (.seq (.block 1 (.seq (.reg [⟨(some 30), .mov (.t 2), none, [], false⟩,
         ⟨(some 31), .mov (.t 11), none, [], false⟩,
         ⟨(some 32), .indexSl 2 (.t 30) (.t 31), none, [0, 1], false⟩,
         ⟨(some 33), .fieldAddr 0 (.t 32), none, [2], false⟩,
         ⟨(some 34), .load false 1 (.t 33), none, [3], false⟩])
      (.cond (.t 34)
       (.reg [⟨(some 35), .mov (.t 10), none, [], false⟩,
         ⟨(some 36), .mov (.t 2), none, [], false⟩,
         ⟨(some 37), .mov (.t 11), none, [], false⟩,
         ⟨(some 38), .indexSl 2 (.t 36) (.t 37), none, [1, 2], false⟩,
         ⟨(some 39), .fieldAddr 1 (.t 38), none, [3], false⟩,
         ⟨(some 40), .load false 1 (.t 39), none, [4], false⟩,
         ⟨(some 41), .conv (.int .i64) (.t 40), none, [5], false⟩,
         ⟨(some 42), .max [(.t 35), (.t 41)], none, [0, 6], false⟩,
         ⟨(some 10), .mov (.t 42), none, [7, 0, 1, 2, 3, 4, 5, 6, 7], false⟩])
       (.reg [⟨(some 43), .mov (.t 9), none, [], false⟩,
         ⟨(some 44), .mov (.t 2), none, [], false⟩,
         ⟨(some 45), .mov (.t 11), none, [], false⟩,
         ⟨(some 46), .indexSl 2 (.t 44) (.t 45), none, [1, 2], false⟩,
         ⟨(some 47), .fieldAddr 1 (.t 46), none, [3], false⟩,
         ⟨(some 48), .load false 1 (.t 47), none, [4], false⟩,
         ⟨(some 49), .conv (.int .i64) (.t 48), none, [5], false⟩,
         ⟨(some 50), .max [(.t 43), (.t 49)], none, [0, 6], false⟩,
         ⟨(some 9), .mov (.t 50), none, [7, 0, 1, 2, 3, 4, 5, 6, 7], false⟩]))))
    (.reg [⟨(some 28), .mov (.t 11), none, [], false⟩,
      ⟨(some 29), .bin .add .no (.t 28) (.c (.int .i64 1)), none, [0], false⟩,
      ⟨(some 11), .mov (.t 29), none, [1, 0, 1], false⟩]))))))
 (.seq (.calm [⟨(some 51), .mov (.t 8), none, [], false⟩,
    ⟨(some 52), .mov (.t 9), none, [], false⟩,
    ⟨(some 53), .bin .mul .no (.t 51) (.t 52), none, [0, 1], false⟩,
    ⟨(some 54), .mov (.t 8), none, [], false⟩,
    ⟨(some 55), .mov (.t 0), none, [], false⟩,
    ⟨(some 56), .bin .quo .no (.t 54) (.t 55), none, [3, 4], false⟩,
    ⟨(some 57), .bin .add .no (.t 56) (.c (.int .i64 1)), none, [5], false⟩,
    ⟨(some 58), .mov (.t 10), none, [], false⟩,
    ⟨(some 59), .bin .mul .no (.t 57) (.t 58), none, [6, 7], false⟩,
    ⟨(some 60), .bin .add .no (.t 53) (.t 59), none, [2, 8], false⟩,
    ⟨(some 61), .indexPA 2 1 (.t 4) (.c (.int .i64 1)), none, [], false⟩,
    ⟨(some 62), .load false 1 (.t 61), none, [10], false⟩,
    ⟨(some 63), .conv (.int .i64) (.t 62), none, [11], false⟩,
    ⟨(some 64), .bin .add .no (.t 60) (.t 63), none, [9, 12], false⟩,
    ⟨(some 12), .mov (.t 64), none, [13, 0, 1, 2, 3, 4, 5, 6, 7, 8, 9, 10, 11, 12, 13], false⟩])
 (.seq (.reg [⟨(some 65), .mov (.t 12), none, [], false⟩,
    ⟨(some 66), .mov (.t 0), none, [], false⟩,
    ⟨(some 67), .mov (.t 2), none, [], false⟩,
    ⟨(some 68), .call 9 [(.t 65), (.t 66), (.t 67)], none, [0, 1, 2], false⟩,
    ⟨(some 13), .alloc [(.int .i64 0), (.int .i64 0), (.int .i64 0), (.int .i64 0), (.list [] true), (.list [] true)], none, [], true⟩,
    ⟨none, .store 6 (.t 13) (.t 68), none, [4, 3, 3, 0, 1, 2, 3, 4], true⟩])
 (.seq (.reg [⟨(some 69), .mov (.t 7), none, [], false⟩,
    ⟨(some 70), .mov (.t 69), none, [0], false⟩,
    ⟨(some 71), .fieldAddr 2 (.t 13), some (70, true), [1], false⟩,
    ⟨(some 72), .load false 1 (.t 71), some (70, true), [2, 1], false⟩,
    ⟨(some 73), .fieldAddr 3 (.t 13), some (70, true), [1], false⟩,
    ⟨(some 74), .load false 1 (.t 73), some (70, true), [4, 1], false⟩,
    ⟨(some 75), .mov (.t 8), some (70, true), [1], false⟩,
    ⟨(some 76), .bin .sub .no (.t 74) (.t 75), some (70, true), [5, 6, 1], false⟩,
    ⟨(some 77), .max [(.t 76), (.c (.int .i64 0))], some (70, true), [7, 1], false⟩,
    ⟨(some 78), .bin .leq .no (.t 72) (.t 77), some (70, true), [3, 8, 1], false⟩,
    ⟨(some 79), .pick (.t 70) (.t 78) (.c (.bool false)), none, [1, 9], false⟩,
    ⟨(some 6), .mov (.t 79), none, [10, 1, 0, 1, 2, 3, 4, 5, 6, 7, 8, 9, 10], false⟩])
 .ret)))))))))) }
-- nostos/nostoslaw20.HistoryRecs
def w6 : WF := { nt := 161, results := [(6, none)], code :=
 (.seq (.reg [⟨(some 3), .box (.t 0), none, [], true⟩,
    ⟨(some 4), .box (.t 1), none, [], true⟩,
    ⟨(some 6), .mov (.c (.bool false)), none, [], false⟩])
 (.seq (.reg [⟨(some 26), .call 7 [], none, [], false⟩,
    ⟨(some 7), .mov (.t 26), none, [0, 0, 0], false⟩])
 (.seq (.reg [⟨(some 27), .indexPA 2 1 (.t 3) (.c (.int .i64 0)), none, [], false⟩,
    ⟨(some 28), .load false 1 (.t 27), none, [0], false⟩,
    ⟨(some 8), .mov (.t 28), none, [1, 0, 1], false⟩])
 (.seq (.reg [⟨(some 29), .indexPA 2 1 (.t 3) (.c (.int .i64 1)), none, [], false⟩,
    ⟨(some 30), .load false 1 (.t 29), none, [0], false⟩,
    ⟨(some 9), .mov (.t 30), none, [1, 0, 1], false⟩])
 (.seq (.seq (.reg [⟨(some 31), .mov (.t 8), none, [], false⟩,
     ⟨(some 32), .mov (.t 9), none, [], false⟩,
     ⟨(some 33), .mov (.t 2), none, [], false⟩,
     ⟨(some 34), .call 8 [(.t 31), (.t 32), (.t 33)], none, [0, 1, 2], false⟩,
     ⟨(some 35), .un .not (.t 34), none, [3], false⟩])
  (.cond (.t 35)
   (.seq (.reg [⟨(some 36), .mov (.t 7), none, [], false⟩,
      ⟨(some 6), .mov (.t 36), none, [0, 0], false⟩])
   .ret)
   .skip))
 (.seq (.reg [⟨(some 37), .mov (.t 8), none, [], false⟩,
    ⟨(some 38), .mov (.t 9), none, [], false⟩,
    ⟨(some 39), .mov (.t 2), none, [], false⟩,
    ⟨(some 40), .call 9 [(.t 37), (.t 38), (.t 39)], none, [0, 1, 2], false⟩,
    ⟨(some 10), .alloc [(.int .i64 0), (.int .i64 0), (.int .i64 0), (.int .i64 0), (.list [] true), (.list [] true)], none, [], true⟩,
    ⟨none, .store 6 (.t 10) (.t 40), none, [4, 3, 3, 0, 1, 2, 3, 4], true⟩])
 (.seq (.reg [⟨(some 41), .mov (.t 8), none, [], false⟩,
    ⟨(some 42), .mov (.t 9), none, [], false⟩,
    ⟨(some 43), .mov (.t 2), none, [], false⟩,
    ⟨(some 44), .call 10 [(.t 41), (.t 42), (.t 43)], none, [0, 1, 2], false⟩,
    ⟨(some 11), .alloc [(.int .i64 0), (.int .i64 0), (.int .i64 0), (.int .i64 0), (.list [] true), (.list [] true)], none, [], true⟩,
    ⟨none, .store 6 (.t 11) (.t 44), none, [4, 3, 3, 0, 1, 2, 3, 4], true⟩])
 (.seq (.reg [⟨(some 12), .mov (.c (.int .i64 0)), none, [], false⟩])
 (.seq (.seq (.reg [⟨(some 13), .mov (.c (.int .i64 0)), none, [], false⟩])
  (.block 0 (.loop (.seq (.seq (.reg [⟨(some 45), .mov (.t 13), none, [], false⟩,
        ⟨(some 46), .mov (.t 2), none, [], false⟩,
        ⟨(some 47), .len (.t 46), none, [1], false⟩,
        ⟨(some 48), .bin .lss .no (.t 45) (.t 47), none, [0, 2], false⟩])
     (.cond (.t 48)
      .skip
      (.exit 0)))
    (.seq (.block 1 (.seq (.seq (.reg [⟨(some 51), .mov (.t 2), none, [], false⟩,
          ⟨(some 52), .mov (.t 13), none, [], false⟩,
          ⟨(some 53), .indexSl 2 (.t 51) (.t 52), none, [0, 1], false⟩,
          ⟨(some 54), .fieldAddr 0 (.t 53), none, [2], false⟩,
          ⟨(some 55), .load false 1 (.t 54), none, [3], false⟩])
       (.cond (.t 55)
        (.exit 1)
        .skip))
      (.seq (.reg [⟨(some 57), .load true 6 (.t 10), none, [], false⟩,
         ⟨(some 58), .mov (.t 12), none, [], false⟩,
         ⟨(some 59), .call 14 [(.t 57), (.t 58)], none, [0, 1], false⟩,
         ⟨(some 56), .mov (.t 59), none, [2], false⟩,
         ⟨(some 60), .extract 0 (.t 56), none, [3], false⟩,
         ⟨(some 61), .extract 1 (.t 56), none, [3], false⟩,
         ⟨(some 14), .mov (.t 60), none, [4, 2, 0, 1, 2, 3, 4], false⟩,
         ⟨(some 15), .mov (.t 61), none, [5, 6, 0, 1, 2, 3, 4, 5, 6], false⟩])
      (.seq (.reg [⟨(some 62), .mov (.t 12), none, [], false⟩,
         ⟨(some 63), .fieldAddr 2 (.t 10), none, [], false⟩,
         ⟨(some 64), .load false 1 (.t 63), none, [1], false⟩,
         ⟨(some 65), .bin .geq .no (.t 62) (.t 64), none, [0, 2], false⟩,
         ⟨(some 16), .mov (.t 65), none, [3, 0, 1, 2, 3], false⟩])
      (.seq (.seq (.calm [⟨(some 66), .mov (.t 16), none, [], false⟩,
          ⟨(some 67), .mov (.t 66), none, [0], false⟩,
          ⟨(some 68), .mov (.t 15), some (67, true), [1], false⟩,
          ⟨(some 69), .bin .neq .no (.t 68) (.c (.int .i64 0)), some (67, true), [2, 1], false⟩,
          ⟨(some 70), .mov (.t 69), some (67, true), [3, 1, 1], false⟩,
          ⟨(some 71), .mov (.t 14), some (70, false), [4], false⟩,
          ⟨(some 72), .conv .b2s (.t 71), some (70, false), [5, 4], false⟩,
          ⟨(some 73), .mov (.t 2), some (70, false), [4], false⟩,
          ⟨(some 74), .mov (.t 13), some (70, false), [4], false⟩,
          ⟨(some 75), .indexSl 2 (.t 73) (.t 74), some (70, false), [7, 8, 4], false⟩,
          ⟨(some 76), .load true 2 (.t 75), some (70, false), [9, 4], false⟩,
          ⟨(some 77), .mov (.t 13), some (70, false), [4], false⟩,
          ⟨(some 78), .call 15 [(.t 76), (.t 77)], some (70, false), [10, 11, 4, 4], false⟩,
          ⟨(some 79), .conv .b2s (.t 78), some (70, false), [12, 4], false⟩,
          ⟨(some 80), .bin .neq .no (.t 72) (.t 79), some (70, false), [6, 13, 4], false⟩,
          ⟨(some 81), .pick (.t 70) (.c (.bool true)) (.t 80), some (67, true), [4, 14, 1], false⟩,
          ⟨(some 82), .pick (.t 67) (.t 81) (.c (.bool false)), none, [1, 15], false⟩,
          ⟨(some 83), .mov (.t 82), none, [16, 12], false⟩,
          ⟨(some 84), .mov (.t 16), some (83, false), [17], false⟩,
          ⟨(some 85), .un .not (.t 84), some (83, false), [18, 17], false⟩,
          ⟨(some 86), .mov (.t 85), some (83, false), [19, 17, 17], false⟩,
          ⟨(some 87), .mov (.t 15), some (86, true), [20], false⟩,
          ⟨(some 88), .bin .neq .no (.t 87) (.c (.int .i64 4)), some (86, true), [21, 20], false⟩,
          ⟨(some 89), .pick (.t 86) (.t 88) (.c (.bool false)), some (83, false), [20, 22, 17], false⟩,
          ⟨(some 90), .pick (.t 83) (.c (.bool true)) (.t 89), none, [17, 23], false⟩])
       (.cond (.t 90)
        (.seq (.reg [⟨(some 6), .mov (.c (.bool false)), none, [], false⟩])
        .ret)
        .skip))
      (.reg [⟨(some 91), .mov (.t 12), none, [], false⟩,
        ⟨(some 92), .bin .add .no (.t 91) (.c (.int .i64 1)), none, [0], false⟩,
        ⟨(some 12), .mov (.t 92), none, [1, 0, 1], false⟩]))))))
    (.reg [⟨(some 49), .mov (.t 13), none, [], false⟩,
      ⟨(some 50), .bin .add .no (.t 49) (.c (.int .i64 1)), none, [0], false⟩,
      ⟨(some 13), .mov (.t 50), none, [1, 0, 1], false⟩]))))))
 (.seq (.seq (.reg [⟨(some 17), .mov (.c (.int .i64 0)), none, [], false⟩])
  (.block 2 (.loop (.seq (.seq (.reg [⟨(some 93), .mov (.t 17), none, [], false⟩,
        ⟨(some 94), .bin .lss .no (.t 93) (.c (.int .i64 3)), none, [0], false⟩])
     (.cond (.t 94)
      .skip
      (.exit 2)))
    (.seq (.block 3 (.seq (.calm [⟨(some 98), .load true 6 (.t 10), none, [], false⟩,
         ⟨(some 99), .mov (.t 17), none, [], false⟩,
         ⟨(some 100), .indexPA 3 1 (.t 4) (.t 99), none, [1], false⟩,
         ⟨(some 101), .load false 1 (.t 100), none, [2], false⟩,
         ⟨(some 102), .call 14 [(.t 98), (.t 101)], none, [0, 3], false⟩,
         ⟨(some 97), .mov (.t 102), none, [4], false⟩,
         ⟨(some 103), .extract 0 (.t 97), none, [5], false⟩,
         ⟨(some 104), .extract 1 (.t 97), none, [5], false⟩,
         ⟨(some 18), .mov (.t 103), none, [6, 4, 0, 1, 2, 3, 4, 5, 6], false⟩,
         ⟨(some 19), .mov (.t 104), none, [7, 8, 0, 1, 2, 3, 4, 5, 6, 7, 8], false⟩])
      (.seq (.calm [⟨(some 106), .load true 6 (.t 11), none, [], false⟩,
         ⟨(some 107), .mov (.t 17), none, [], false⟩,
         ⟨(some 108), .indexPA 3 1 (.t 4) (.t 107), none, [1], false⟩,
         ⟨(some 109), .load false 1 (.t 108), none, [2], false⟩,
         ⟨(some 110), .call 16 [(.t 106), (.t 109)], none, [0, 3], false⟩,
         ⟨(some 105), .mov (.t 110), none, [4], false⟩,
         ⟨(some 111), .extract 0 (.t 105), none, [5], false⟩,
         ⟨(some 112), .extract 1 (.t 105), none, [5], false⟩,
         ⟨(some 20), .mov (.t 111), none, [6, 4, 0, 1, 2, 3, 4, 5, 6], false⟩,
         ⟨(some 21), .mov (.t 112), none, [7, 8, 0, 1, 2, 3, 4, 5, 6, 7, 8], false⟩])
      (.seq (.calm [⟨(some 114), .load true 6 (.t 10), none, [], false⟩,
         ⟨(some 115), .mov (.t 17), none, [], false⟩,
         ⟨(some 116), .indexPA 3 1 (.t 4) (.t 115), none, [1], false⟩,
         ⟨(some 117), .load false 1 (.t 116), none, [2], false⟩,
         ⟨(some 118), .call 17 [(.t 114), (.t 117)], none, [0, 3], false⟩,
         ⟨(some 113), .mov (.t 118), none, [4], false⟩,
         ⟨(some 119), .extract 0 (.t 113), none, [5], false⟩,
         ⟨(some 120), .extract 1 (.t 113), none, [5], false⟩,
         ⟨(some 22), .alloc [(.int .i64 0), (.list [] true)], none, [], true⟩,
         ⟨none, .store 2 (.t 22) (.t 119), none, [8, 6, 4, 0, 1, 2, 3, 4, 5, 6, 8], true⟩,
         ⟨(some 23), .mov (.t 120), none, [7, 9, 0, 1, 2, 3, 4, 5, 6, 7, 8, 9], false⟩])
      (.seq (.calm [⟨(some 122), .load true 6 (.t 11), none, [], false⟩,
         ⟨(some 123), .mov (.t 17), none, [], false⟩,
         ⟨(some 124), .indexPA 3 1 (.t 4) (.t 123), none, [1], false⟩,
         ⟨(some 125), .load false 1 (.t 124), none, [2], false⟩,
         ⟨(some 126), .call 18 [(.t 122), (.t 125)], none, [0, 3], false⟩,
         ⟨(some 121), .mov (.t 126), none, [4], false⟩,
         ⟨(some 127), .extract 0 (.t 121), none, [5], false⟩,
         ⟨(some 128), .extract 1 (.t 121), none, [5], false⟩,
         ⟨(some 24), .alloc [(.int .i64 0), (.list [] true)], none, [], true⟩,
         ⟨none, .store 2 (.t 24) (.t 127), none, [8, 6, 4, 0, 1, 2, 3, 4, 5, 6, 8], true⟩,
         ⟨(some 25), .mov (.t 128), none, [7, 9, 0, 1, 2, 3, 4, 5, 6, 7, 8, 9], false⟩])
      (.seq (.reg [⟨(some 129), .mov (.t 18), none, [], false⟩,
         ⟨(some 130), .conv .b2s (.t 129), none, [0], false⟩,
         ⟨(some 131), .mov (.t 20), none, [], false⟩,
         ⟨(some 132), .conv .b2s (.t 131), none, [2], false⟩,
         ⟨(some 133), .bin .neq .no (.t 130) (.t 132), none, [1, 3], false⟩,
         ⟨(some 134), .mov (.t 133), none, [4], false⟩,
         ⟨(some 135), .mov (.t 19), some (134, false), [5], false⟩,
         ⟨(some 136), .mov (.t 21), some (134, false), [5], false⟩,
         ⟨(some 137), .bin .neq .no (.t 135) (.t 136), some (134, false), [6, 7, 5], false⟩,
         ⟨(some 138), .pick (.t 134) (.c (.bool true)) (.t 137), none, [5, 8], false⟩,
         ⟨(some 139), .mov (.t 138), none, [9, 5], false⟩,
         ⟨(some 140), .mov (.t 23), some (139, false), [10], false⟩,
         ⟨(some 141), .mov (.t 25), some (139, false), [10], false⟩,
         ⟨(some 142), .bin .neq .bool (.t 140) (.t 141), some (139, false), [11, 12, 10], false⟩,
         ⟨(some 143), .pick (.t 139) (.c (.bool true)) (.t 142), none, [10, 13], false⟩,
         ⟨(some 144), .mov (.t 143), none, [14, 10], false⟩,
         ⟨(some 145), .fieldAddr 0 (.t 22), some (144, false), [15], false⟩,
         ⟨(some 146), .load false 1 (.t 145), some (144, false), [16, 15], false⟩,
         ⟨(some 147), .fieldAddr 0 (.t 24), some (144, false), [15], false⟩,
         ⟨(some 148), .load false 1 (.t 147), some (144, false), [18, 15], false⟩,
         ⟨(some 149), .bin .neq .no (.t 146) (.t 148), some (144, false), [17, 19, 15], false⟩,
         ⟨(some 150), .pick (.t 144) (.c (.bool true)) (.t 149), none, [15, 20], false⟩,
         ⟨(some 151), .mov (.t 150), none, [21, 15], false⟩,
         ⟨(some 152), .fieldAddr 1 (.t 22), some (151, false), [22], false⟩,
         ⟨(some 153), .load false 1 (.t 152), some (151, false), [23, 22], false⟩,
         ⟨(some 154), .conv .b2s (.t 153), some (151, false), [24, 22], false⟩,
         ⟨(some 155), .fieldAddr 1 (.t 24), some (151, false), [22], false⟩,
         ⟨(some 156), .load false 1 (.t 155), some (151, false), [26, 22], false⟩,
         ⟨(some 157), .conv .b2s (.t 156), some (151, false), [27, 22], false⟩,
         ⟨(some 158), .bin .neq .no (.t 154) (.t 157), some (151, false), [25, 28, 22], false⟩,
         ⟨(some 159), .pick (.t 151) (.c (.bool true)) (.t 158), none, [22, 29], false⟩])
      (.cond (.t 159)
       (.seq (.reg [⟨(some 6), .mov (.c (.bool false)), none, [], false⟩])
       .ret)
       .skip)))))))
    (.reg [⟨(some 95), .mov (.t 17), none, [], false⟩,
      ⟨(some 96), .bin .add .no (.t 95) (.c (.int .i64 1)), none, [0], false⟩,
      ⟨(some 17), .mov (.t 96), none, [1, 0, 1], false⟩]))))))
 (.seq (.reg [⟨(some 160), .mov (.t 7), none, [], false⟩,
    ⟨(some 6), .mov (.t 160), none, [0, 0], false⟩])
 .ret))))))))))) }
-- nostos/nostoslaw20.awake
def w7 : WF := { nt := 69, results := [(0, none)], code :=
 (.seq (.reg [⟨(some 0), .mov (.c (.bool false)), none, [], false⟩])
 (.seq (.reg [⟨(some 11), .call 19 [(.c (.int .i64 5)), (.c (.int .i64 1))], none, [], false⟩,
    ⟨(some 10), .mov (.t 11), none, [0], false⟩,
    ⟨(some 12), .extract 0 (.t 10), none, [1], false⟩,
    ⟨(some 13), .extract 1 (.t 10), none, [1], false⟩,
    ⟨(some 1), .alloc [(.int .i64 0), (.int .i64 0), (.int .i64 0), (.int .i64 0), (.list [] true), (.list [] true)], none, [], true⟩,
    ⟨none, .store 6 (.t 1) (.t 12), none, [4, 2, 0, 0, 1, 2, 4], true⟩,
    ⟨(some 2), .mov (.t 13), none, [3, 5, 0, 1, 2, 3, 4, 5], false⟩])
 (.seq (.reg [⟨(some 15), .call 19 [(.c (.int .i64 (-1))), (.c (.int .i64 1))], none, [], false⟩,
    ⟨(some 14), .mov (.t 15), none, [0], false⟩,
    ⟨(some 16), .extract 0 (.t 14), none, [1], false⟩,
    ⟨(some 17), .extract 1 (.t 14), none, [1], false⟩,
    ⟨(some 3), .alloc [(.int .i64 0), (.int .i64 0), (.int .i64 0), (.int .i64 0), (.list [] true), (.list [] true)], none, [], true⟩,
    ⟨none, .store 6 (.t 3) (.t 16), none, [4, 2, 0, 0, 1, 2, 4], true⟩,
    ⟨(some 4), .mov (.t 17), none, [3, 5, 0, 1, 2, 3, 4, 5], false⟩])
 (.seq (.seq (.reg [⟨(some 5), .mov (.c (.int .i64 0)), none, [], false⟩])
  (.block 0 (.loop (.seq (.seq (.reg [⟨(some 18), .mov (.t 5), none, [], false⟩,
        ⟨(some 19), .bin .lss .no (.t 18) (.c (.int .i64 3)), none, [0], false⟩])
     (.cond (.t 19)
      .skip
      (.exit 0)))
    (.seq (.block 1 (.reg [⟨(some 22), .load true 6 (.t 1), none, [], false⟩,
        ⟨(some 23), .buildSlice 1 2 [(.int .u8 0)] [(0, 1, (.c (.int .u8 1))), (1, 1, (.c (.int .u8 2)))], none, [], true⟩,
        ⟨(some 24), .call 20 [(.t 22), (.t 23)], none, [0, 1], false⟩,
        ⟨none, .store 6 (.t 1) (.t 24), none, [2, 2, 0, 1, 2], true⟩]))
    (.reg [⟨(some 20), .mov (.t 5), none, [], false⟩,
      ⟨(some 21), .bin .add .no (.t 20) (.c (.int .i64 1)), none, [0], false⟩,
      ⟨(some 5), .mov (.t 21), none, [1, 0, 1], false⟩]))))))
 (.seq (.reg [⟨(some 26), .load true 6 (.t 1), none, [], false⟩,
    ⟨(some 27), .call 14 [(.t 26), (.c (.int .i64 1))], none, [0], false⟩,
    ⟨(some 25), .mov (.t 27), none, [1], false⟩,
    ⟨(some 28), .extract 0 (.t 25), none, [2], false⟩,
    ⟨(some 29), .extract 1 (.t 25), none, [2], false⟩,
    ⟨(some 6), .mov (.t 28), none, [3, 1, 0, 1, 2, 3], false⟩,
    ⟨(some 7), .mov (.t 29), none, [4, 5, 0, 1, 2, 3, 4, 5], false⟩])
 (.seq (.reg [⟨(some 31), .load true 6 (.t 1), none, [], false⟩,
    ⟨(some 32), .call 14 [(.t 31), (.c (.int .i64 0))], none, [0], false⟩,
    ⟨(some 30), .mov (.t 32), none, [1], false⟩,
    ⟨(some 33), .extract 0 (.t 30), none, [2], false⟩,
    ⟨(some 34), .extract 1 (.t 30), none, [2], false⟩,
    ⟨(some 8), .mov (.t 33), none, [3, 1, 0, 1, 2, 3], false⟩,
    ⟨(some 9), .mov (.t 34), none, [4, 5, 0, 1, 2, 3, 4, 5], false⟩])
 (.seq (.reg [⟨(some 35), .mov (.t 2), none, [], false⟩,
    ⟨(some 36), .bin .eql .no (.t 35) (.c (.int .i64 0)), none, [0], false⟩,
    ⟨(some 37), .mov (.t 36), none, [1], false⟩,
    ⟨(some 38), .mov (.t 4), some (37, true), [2], false⟩,
    ⟨(some 39), .bin .eql .no (.t 38) (.c (.int .i64 1)), some (37, true), [3, 2], false⟩,
    ⟨(some 40), .pick (.t 37) (.t 39) (.c (.bool false)), none, [2, 4], false⟩,
    ⟨(some 41), .mov (.t 40), none, [5, 2], false⟩,
    ⟨(some 42), .fieldAddr 2 (.t 1), some (41, true), [6], false⟩,
    ⟨(some 43), .load false 1 (.t 42), some (41, true), [7, 6], false⟩,
    ⟨(some 44), .bin .eql .no (.t 43) (.c (.int .i64 1)), some (41, true), [8, 6], false⟩,
    ⟨(some 45), .pick (.t 41) (.t 44) (.c (.bool false)), none, [6, 9], false⟩,
    ⟨(some 46), .mov (.t 45), none, [10, 6], false⟩,
    ⟨(some 47), .fieldAddr 3 (.t 1), some (46, true), [11], false⟩,
    ⟨(some 48), .load false 1 (.t 47), some (46, true), [12, 11], false⟩,
    ⟨(some 49), .bin .eql .no (.t 48) (.c (.int .i64 3)), some (46, true), [13, 11], false⟩,
    ⟨(some 50), .pick (.t 46) (.t 49) (.c (.bool false)), none, [11, 14], false⟩,
    ⟨(some 51), .mov (.t 50), none, [15, 11], false⟩,
    ⟨(some 52), .load true 6 (.t 1), some (51, true), [16], false⟩,
    ⟨(some 53), .call 12 [(.t 52)], some (51, true), [17, 16, 16], false⟩,
    ⟨(some 54), .bin .eql .no (.t 53) (.c (.int .i64 4)), some (51, true), [18, 16], false⟩,
    ⟨(some 55), .pick (.t 51) (.t 54) (.c (.bool false)), none, [16, 19], false⟩,
    ⟨(some 56), .mov (.t 55), none, [20, 18], false⟩,
    ⟨(some 57), .mov (.t 7), some (56, true), [21], false⟩,
    ⟨(some 58), .bin .eql .no (.t 57) (.c (.int .i64 0)), some (56, true), [22, 21], false⟩,
    ⟨(some 59), .pick (.t 56) (.t 58) (.c (.bool false)), none, [21, 23], false⟩,
    ⟨(some 60), .mov (.t 59), none, [24, 21], false⟩,
    ⟨(some 61), .mov (.t 6), some (60, true), [25], false⟩,
    ⟨(some 62), .len (.t 61), some (60, true), [26, 25], false⟩,
    ⟨(some 63), .bin .eql .no (.t 62) (.c (.int .i64 2)), some (60, true), [27, 25], false⟩,
    ⟨(some 64), .pick (.t 60) (.t 63) (.c (.bool false)), none, [25, 28], false⟩,
    ⟨(some 65), .mov (.t 64), none, [29, 25], false⟩,
    ⟨(some 66), .mov (.t 9), some (65, true), [30], false⟩,
    ⟨(some 67), .bin .eql .no (.t 66) (.c (.int .i64 4)), some (65, true), [31, 30], false⟩,
    ⟨(some 68), .pick (.t 65) (.t 67) (.c (.bool false)), none, [30, 32], false⟩,
    ⟨(some 0), .mov (.t 68), none, [33, 30, 0, 1, 2, 3, 4, 5, 6, 7, 8, 9, 10, 11, 12, 13, 14, 15, 16, 17, 18, 19, 20, 21, 22, 23, 24, 25, 26, 27, 28, 29, 30, 31, 32, 33], false⟩])
 .ret))))))) }
-- nostos/nostoslaw20.may
def w8 : WF := { nt := 22, results := [(6, none)], code :=
 (.seq (.reg [⟨(some 6), .mov (.c (.bool false)), none, [], false⟩])
 (.seq (.reg [⟨(some 10), .mov (.t 0), none, [], false⟩,
    ⟨(some 11), .mov (.t 1), none, [], false⟩,
    ⟨(some 12), .call 21 [(.t 10), (.t 11)], none, [0, 1], false⟩,
    ⟨(some 9), .mov (.t 12), none, [2], false⟩,
    ⟨(some 13), .extract 0 (.t 9), none, [3], false⟩,
    ⟨(some 14), .extract 1 (.t 9), none, [3], false⟩,
    ⟨(some 7), .alloc [(.int .i64 0), (.int .i64 0), (.int .i64 0), (.int .i64 0), (.list [] true), (.list [] true)], none, [], true⟩,
    ⟨none, .store 6 (.t 7) (.t 13), none, [6, 4, 2, 0, 1, 2, 3, 4, 6], true⟩,
    ⟨(some 8), .mov (.t 14), none, [5, 7, 0, 1, 2, 3, 4, 5, 6, 7], false⟩])
 (.seq (.reg [⟨(some 15), .mov (.t 8), none, [], false⟩,
    ⟨(some 16), .bin .eql .no (.t 15) (.c (.int .i64 0)), none, [0], false⟩,
    ⟨(some 17), .mov (.t 16), none, [1], false⟩,
    ⟨(some 18), .mov (.t 2), some (17, true), [2], false⟩,
    ⟨(some 19), .len (.t 18), some (17, true), [3, 2], false⟩,
    ⟨(some 20), .bin .leq .no (.t 19) (.c (.int .i64 40)), some (17, true), [4, 2], false⟩,
    ⟨(some 21), .pick (.t 17) (.t 20) (.c (.bool false)), none, [2, 5], false⟩,
    ⟨(some 6), .mov (.t 21), none, [6, 2, 0, 1, 2, 3, 4, 5, 6], false⟩])
 .ret))) }
-- nostos/nostoslaw20.run
def w9 : WF := { nt := 44, results := [(6, some (true, 6))], code :=
 (.seq (.reg [⟨(some 6), .alloc [(.int .i64 0), (.int .i64 0), (.int .i64 0), (.int .i64 0), (.list [] true), (.list [] true)], none, [], true⟩])
 (.seq (.reg [⟨(some 11), .mov (.t 0), none, [], false⟩,
    ⟨(some 12), .mov (.t 1), none, [], false⟩,
    ⟨(some 13), .call 19 [(.t 11), (.t 12)], none, [0, 1], false⟩,
    ⟨(some 10), .mov (.t 13), none, [2], false⟩,
    ⟨(some 14), .extract 0 (.t 10), none, [3], false⟩,
    ⟨(some 15), .extract 1 (.t 10), none, [3], false⟩,
    ⟨(some 7), .alloc [(.int .i64 0), (.int .i64 0), (.int .i64 0), (.int .i64 0), (.list [] true), (.list [] true)], none, [], true⟩,
    ⟨none, .store 6 (.t 7) (.t 14), none, [6, 4, 2, 0, 1, 2, 3, 4, 6], true⟩,
    ⟨(some 8), .mov (.t 15), none, [5, 7, 0, 1, 2, 3, 4, 5, 6, 7], false⟩])
 (.seq (.seq (.reg [⟨(some 9), .mov (.c (.int .i64 0)), none, [], false⟩])
  (.block 0 (.loop (.seq (.seq (.reg [⟨(some 16), .mov (.t 9), none, [], false⟩,
        ⟨(some 17), .mov (.t 2), none, [], false⟩,
        ⟨(some 18), .len (.t 17), none, [1], false⟩,
        ⟨(some 19), .bin .lss .no (.t 16) (.t 18), none, [0, 2], false⟩])
     (.cond (.t 19)
      .skip
      (.exit 0)))
    (.seq (.block 1 (.seq (.reg [⟨(some 22), .mov (.t 2), none, [], false⟩,
         ⟨(some 23), .mov (.t 9), none, [], false⟩,
         ⟨(some 24), .indexSl 2 (.t 22) (.t 23), none, [0, 1], false⟩,
         ⟨(some 25), .fieldAddr 0 (.t 24), none, [2], false⟩,
         ⟨(some 26), .load false 1 (.t 25), none, [3], false⟩])
      (.cond (.t 26)
       (.calm [⟨(some 27), .load true 6 (.t 7), none, [], false⟩,
         ⟨(some 28), .mov (.t 2), none, [], false⟩,
         ⟨(some 29), .mov (.t 9), none, [], false⟩,
         ⟨(some 30), .indexSl 2 (.t 28) (.t 29), none, [1, 2], false⟩,
         ⟨(some 31), .load true 2 (.t 30), none, [3], false⟩,
         ⟨(some 32), .mov (.t 9), none, [], false⟩,
         ⟨(some 33), .call 15 [(.t 31), (.t 32)], none, [4, 5], false⟩,
         ⟨(some 34), .call 22 [(.t 27), (.t 33)], none, [0, 6, 6], false⟩,
         ⟨none, .store 6 (.t 7) (.t 34), none, [7, 7, 0, 1, 2, 3, 4, 5, 6, 7], true⟩])
       (.calm [⟨(some 35), .load true 6 (.t 7), none, [], false⟩,
         ⟨(some 36), .mov (.t 2), none, [], false⟩,
         ⟨(some 37), .mov (.t 9), none, [], false⟩,
         ⟨(some 38), .indexSl 2 (.t 36) (.t 37), none, [1, 2], false⟩,
         ⟨(some 39), .load true 2 (.t 38), none, [3], false⟩,
         ⟨(some 40), .mov (.t 9), none, [], false⟩,
         ⟨(some 41), .call 15 [(.t 39), (.t 40)], none, [4, 5], false⟩,
         ⟨(some 42), .call 20 [(.t 35), (.t 41)], none, [0, 6, 6], false⟩,
         ⟨none, .store 6 (.t 7) (.t 42), none, [7, 7, 0, 1, 2, 3, 4, 5, 6, 7], true⟩]))))
    (.reg [⟨(some 20), .mov (.t 9), none, [], false⟩,
      ⟨(some 21), .bin .add .no (.t 20) (.c (.int .i64 1)), none, [0], false⟩,
      ⟨(some 9), .mov (.t 21), none, [1, 0, 1], false⟩]))))))
 (.seq (.reg [⟨(some 43), .load true 6 (.t 7), none, [], false⟩,
    ⟨none, .store 6 (.t 6) (.t 43), none, [0, 0], true⟩])
 .ret)))) }
-- nostos/nostosref20.Run
def w10 : WF := { nt := 44, results := [(6, some (true, 6))], code :=
 (.seq (.reg [⟨(some 6), .alloc [(.int .i64 0), (.int .i64 0), (.int .i64 0), (.int .i64 0), (.list [] true), (.list [] true)], none, [], true⟩])
 (.seq (.reg [⟨(some 11), .mov (.t 0), none, [], false⟩,
    ⟨(some 12), .mov (.t 1), none, [], false⟩,
    ⟨(some 13), .call 21 [(.t 11), (.t 12)], none, [0, 1], false⟩,
    ⟨(some 10), .mov (.t 13), none, [2], false⟩,
    ⟨(some 14), .extract 0 (.t 10), none, [3], false⟩,
    ⟨(some 15), .extract 1 (.t 10), none, [3], false⟩,
    ⟨(some 7), .alloc [(.int .i64 0), (.int .i64 0), (.int .i64 0), (.int .i64 0), (.list [] true), (.list [] true)], none, [], true⟩,
    ⟨none, .store 6 (.t 7) (.t 14), none, [6, 4, 2, 0, 1, 2, 3, 4, 6], true⟩,
    ⟨(some 8), .mov (.t 15), none, [5, 7, 0, 1, 2, 3, 4, 5, 6, 7], false⟩])
 (.seq (.seq (.reg [⟨(some 9), .mov (.c (.int .i64 0)), none, [], false⟩])
  (.block 0 (.loop (.seq (.seq (.reg [⟨(some 16), .mov (.t 9), none, [], false⟩,
        ⟨(some 17), .mov (.t 2), none, [], false⟩,
        ⟨(some 18), .len (.t 17), none, [1], false⟩,
        ⟨(some 19), .bin .lss .no (.t 16) (.t 18), none, [0, 2], false⟩])
     (.cond (.t 19)
      .skip
      (.exit 0)))
    (.seq (.block 1 (.seq (.reg [⟨(some 22), .mov (.t 2), none, [], false⟩,
         ⟨(some 23), .mov (.t 9), none, [], false⟩,
         ⟨(some 24), .indexSl 2 (.t 22) (.t 23), none, [0, 1], false⟩,
         ⟨(some 25), .fieldAddr 0 (.t 24), none, [2], false⟩,
         ⟨(some 26), .load false 1 (.t 25), none, [3], false⟩])
      (.cond (.t 26)
       (.calm [⟨(some 27), .load true 6 (.t 7), none, [], false⟩,
         ⟨(some 28), .mov (.t 2), none, [], false⟩,
         ⟨(some 29), .mov (.t 9), none, [], false⟩,
         ⟨(some 30), .indexSl 2 (.t 28) (.t 29), none, [1, 2], false⟩,
         ⟨(some 31), .load true 2 (.t 30), none, [3], false⟩,
         ⟨(some 32), .mov (.t 9), none, [], false⟩,
         ⟨(some 33), .call 15 [(.t 31), (.t 32)], none, [4, 5], false⟩,
         ⟨(some 34), .call 23 [(.t 27), (.t 33)], none, [0, 6, 6], false⟩,
         ⟨none, .store 6 (.t 7) (.t 34), none, [7, 7, 0, 1, 2, 3, 4, 5, 6, 7], true⟩])
       (.calm [⟨(some 35), .load true 6 (.t 7), none, [], false⟩,
         ⟨(some 36), .mov (.t 2), none, [], false⟩,
         ⟨(some 37), .mov (.t 9), none, [], false⟩,
         ⟨(some 38), .indexSl 2 (.t 36) (.t 37), none, [1, 2], false⟩,
         ⟨(some 39), .load true 2 (.t 38), none, [3], false⟩,
         ⟨(some 40), .mov (.t 9), none, [], false⟩,
         ⟨(some 41), .call 15 [(.t 39), (.t 40)], none, [4, 5], false⟩,
         ⟨(some 42), .call 24 [(.t 35), (.t 41)], none, [0, 6, 6], false⟩,
         ⟨none, .store 6 (.t 7) (.t 42), none, [7, 7, 0, 1, 2, 3, 4, 5, 6, 7], true⟩]))))
    (.reg [⟨(some 20), .mov (.t 9), none, [], false⟩,
      ⟨(some 21), .bin .add .no (.t 20) (.c (.int .i64 1)), none, [0], false⟩,
      ⟨(some 9), .mov (.t 21), none, [1, 0, 1], false⟩]))))))
 (.seq (.reg [⟨(some 43), .load true 6 (.t 7), none, [], false⟩,
    ⟨none, .store 6 (.t 6) (.t 43), none, [0, 0], true⟩])
 .ret)))) }
-- nostos/nostoslaw20.same
def w11 : WF := { nt := 108, results := [(4, none)], code :=
 (.seq (.reg [⟨(some 2), .box (.t 0), none, [], true⟩,
    ⟨(some 3), .box (.t 1), none, [], true⟩,
    ⟨(some 4), .mov (.c (.bool false)), none, [], false⟩])
 (.seq (.seq (.reg [⟨(some 7), .fieldAddr 0 (.t 2), none, [], false⟩,
     ⟨(some 8), .load false 1 (.t 7), none, [0], false⟩,
     ⟨(some 9), .fieldAddr 0 (.t 3), none, [], false⟩,
     ⟨(some 10), .load false 1 (.t 9), none, [2], false⟩,
     ⟨(some 11), .bin .neq .no (.t 8) (.t 10), none, [1, 3], false⟩,
     ⟨(some 12), .mov (.t 11), none, [4], false⟩,
     ⟨(some 13), .fieldAddr 1 (.t 2), some (12, false), [5], false⟩,
     ⟨(some 14), .load false 1 (.t 13), some (12, false), [6, 5], false⟩,
     ⟨(some 15), .fieldAddr 1 (.t 3), some (12, false), [5], false⟩,
     ⟨(some 16), .load false 1 (.t 15), some (12, false), [8, 5], false⟩,
     ⟨(some 17), .bin .neq .no (.t 14) (.t 16), some (12, false), [7, 9, 5], false⟩,
     ⟨(some 18), .pick (.t 12) (.c (.bool true)) (.t 17), none, [5, 10], false⟩,
     ⟨(some 19), .mov (.t 18), none, [11, 5], false⟩,
     ⟨(some 20), .fieldAddr 2 (.t 2), some (19, false), [12], false⟩,
     ⟨(some 21), .load false 1 (.t 20), some (19, false), [13, 12], false⟩,
     ⟨(some 22), .fieldAddr 2 (.t 3), some (19, false), [12], false⟩,
     ⟨(some 23), .load false 1 (.t 22), some (19, false), [15, 12], false⟩,
     ⟨(some 24), .bin .neq .no (.t 21) (.t 23), some (19, false), [14, 16, 12], false⟩,
     ⟨(some 25), .pick (.t 19) (.c (.bool true)) (.t 24), none, [12, 17], false⟩,
     ⟨(some 26), .mov (.t 25), none, [18, 12], false⟩,
     ⟨(some 27), .fieldAddr 3 (.t 2), some (26, false), [19], false⟩,
     ⟨(some 28), .load false 1 (.t 27), some (26, false), [20, 19], false⟩,
     ⟨(some 29), .fieldAddr 3 (.t 3), some (26, false), [19], false⟩,
     ⟨(some 30), .load false 1 (.t 29), some (26, false), [22, 19], false⟩,
     ⟨(some 31), .bin .neq .no (.t 28) (.t 30), some (26, false), [21, 23, 19], false⟩,
     ⟨(some 32), .pick (.t 26) (.c (.bool true)) (.t 31), none, [19, 24], false⟩,
     ⟨(some 33), .mov (.t 32), none, [25, 19], false⟩,
     ⟨(some 34), .fieldAddr 4 (.t 2), some (33, false), [26], false⟩,
     ⟨(some 35), .load false 1 (.t 34), some (33, false), [27, 26], false⟩,
     ⟨(some 36), .len (.t 35), some (33, false), [28, 26], false⟩,
     ⟨(some 37), .fieldAddr 4 (.t 3), some (33, false), [26], false⟩,
     ⟨(some 38), .load false 1 (.t 37), some (33, false), [30, 26], false⟩,
     ⟨(some 39), .len (.t 38), some (33, false), [31, 26], false⟩,
     ⟨(some 40), .bin .neq .no (.t 36) (.t 39), some (33, false), [29, 32, 26], false⟩,
     ⟨(some 41), .pick (.t 33) (.c (.bool true)) (.t 40), none, [26, 33], false⟩,
     ⟨(some 42), .mov (.t 41), none, [34, 26], false⟩,
     ⟨(some 43), .fieldAddr 5 (.t 2), some (42, false), [35], false⟩,
     ⟨(some 44), .load false 1 (.t 43), some (42, false), [36, 35], false⟩,
     ⟨(some 45), .len (.t 44), some (42, false), [37, 35], false⟩,
     ⟨(some 46), .fieldAddr 5 (.t 3), some (42, false), [35], false⟩,
     ⟨(some 47), .load false 1 (.t 46), some (42, false), [39, 35], false⟩,
     ⟨(some 48), .len (.t 47), some (42, false), [40, 35], false⟩,
     ⟨(some 49), .bin .neq .no (.t 45) (.t 48), some (42, false), [38, 41, 35], false⟩,
     ⟨(some 50), .pick (.t 42) (.c (.bool true)) (.t 49), none, [35, 42], false⟩])
  (.cond (.t 50)
   (.seq (.reg [⟨(some 4), .mov (.c (.bool false)), none, [], false⟩])
   .ret)
   .skip))
 (.seq (.seq (.reg [⟨(some 5), .mov (.c (.int .i64 0)), none, [], false⟩])
  (.block 0 (.loop (.seq (.seq (.reg [⟨(some 51), .mov (.t 5), none, [], false⟩,
        ⟨(some 52), .fieldAddr 4 (.t 2), none, [], false⟩,
        ⟨(some 53), .load false 1 (.t 52), none, [1], false⟩,
        ⟨(some 54), .len (.t 53), none, [2], false⟩,
        ⟨(some 55), .bin .lss .no (.t 51) (.t 54), none, [0, 3], false⟩])
     (.cond (.t 55)
      .skip
      (.exit 0)))
    (.seq (.block 1 (.seq (.calm [⟨(some 58), .fieldAddr 4 (.t 2), none, [], false⟩,
         ⟨(some 59), .load false 1 (.t 58), none, [0], false⟩,
         ⟨(some 60), .mov (.t 5), none, [], false⟩,
         ⟨(some 61), .indexSl 1 (.t 59) (.t 60), none, [1, 2], false⟩,
         ⟨(some 62), .load false 1 (.t 61), none, [3], false⟩,
         ⟨(some 63), .conv .b2s (.t 62), none, [4], false⟩,
         ⟨(some 64), .fieldAddr 4 (.t 3), none, [], false⟩,
         ⟨(some 65), .load false 1 (.t 64), none, [6], false⟩,
         ⟨(some 66), .mov (.t 5), none, [], false⟩,
         ⟨(some 67), .indexSl 1 (.t 65) (.t 66), none, [7, 8], false⟩,
         ⟨(some 68), .load false 1 (.t 67), none, [9], false⟩,
         ⟨(some 69), .conv .b2s (.t 68), none, [10], false⟩,
         ⟨(some 70), .bin .neq .no (.t 63) (.t 69), none, [5, 11], false⟩])
      (.cond (.t 70)
       (.seq (.reg [⟨(some 4), .mov (.c (.bool false)), none, [], false⟩])
       .ret)
       .skip)))
    (.reg [⟨(some 56), .mov (.t 5), none, [], false⟩,
      ⟨(some 57), .bin .add .no (.t 56) (.c (.int .i64 1)), none, [0], false⟩,
      ⟨(some 5), .mov (.t 57), none, [1, 0, 1], false⟩]))))))
 (.seq (.seq (.reg [⟨(some 6), .mov (.c (.int .i64 0)), none, [], false⟩])
  (.block 2 (.loop (.seq (.seq (.reg [⟨(some 71), .mov (.t 6), none, [], false⟩,
        ⟨(some 72), .fieldAddr 5 (.t 2), none, [], false⟩,
        ⟨(some 73), .load false 1 (.t 72), none, [1], false⟩,
        ⟨(some 74), .len (.t 73), none, [2], false⟩,
        ⟨(some 75), .bin .lss .no (.t 71) (.t 74), none, [0, 3], false⟩])
     (.cond (.t 75)
      .skip
      (.exit 2)))
    (.seq (.block 3 (.seq (.calm [⟨(some 78), .fieldAddr 5 (.t 2), none, [], false⟩,
         ⟨(some 79), .load false 1 (.t 78), none, [0], false⟩,
         ⟨(some 80), .mov (.t 6), none, [], false⟩,
         ⟨(some 81), .indexSl 2 (.t 79) (.t 80), none, [1, 2], false⟩,
         ⟨(some 82), .fieldAddr 0 (.t 81), none, [3], false⟩,
         ⟨(some 83), .load false 1 (.t 82), none, [4], false⟩,
         ⟨(some 84), .fieldAddr 5 (.t 3), none, [], false⟩,
         ⟨(some 85), .load false 1 (.t 84), none, [6], false⟩,
         ⟨(some 86), .mov (.t 6), none, [], false⟩,
         ⟨(some 87), .indexSl 2 (.t 85) (.t 86), none, [7, 8], false⟩,
         ⟨(some 88), .fieldAddr 0 (.t 87), none, [9], false⟩,
         ⟨(some 89), .load false 1 (.t 88), none, [10], false⟩,
         ⟨(some 90), .bin .neq .no (.t 83) (.t 89), none, [5, 11], false⟩,
         ⟨(some 91), .mov (.t 90), none, [12], false⟩,
         ⟨(some 92), .fieldAddr 5 (.t 2), some (91, false), [13], false⟩,
         ⟨(some 93), .load false 1 (.t 92), some (91, false), [14, 13], false⟩,
         ⟨(some 94), .mov (.t 6), some (91, false), [13], false⟩,
         ⟨(some 95), .indexSl 2 (.t 93) (.t 94), some (91, false), [15, 16, 13], false⟩,
         ⟨(some 96), .fieldAddr 1 (.t 95), some (91, false), [17, 13], false⟩,
         ⟨(some 97), .load false 1 (.t 96), some (91, false), [18, 13], false⟩,
         ⟨(some 98), .conv .b2s (.t 97), some (91, false), [19, 13], false⟩,
         ⟨(some 99), .fieldAddr 5 (.t 3), some (91, false), [13], false⟩,
         ⟨(some 100), .load false 1 (.t 99), some (91, false), [21, 13], false⟩,
         ⟨(some 101), .mov (.t 6), some (91, false), [13], false⟩,
         ⟨(some 102), .indexSl 2 (.t 100) (.t 101), some (91, false), [22, 23, 13], false⟩,
         ⟨(some 103), .fieldAddr 1 (.t 102), some (91, false), [24, 13], false⟩,
         ⟨(some 104), .load false 1 (.t 103), some (91, false), [25, 13], false⟩,
         ⟨(some 105), .conv .b2s (.t 104), some (91, false), [26, 13], false⟩,
         ⟨(some 106), .bin .neq .no (.t 98) (.t 105), some (91, false), [20, 27, 13], false⟩,
         ⟨(some 107), .pick (.t 91) (.c (.bool true)) (.t 106), none, [13, 28], false⟩])
      (.cond (.t 107)
       (.seq (.reg [⟨(some 4), .mov (.c (.bool false)), none, [], false⟩])
       .ret)
       .skip)))
    (.reg [⟨(some 76), .mov (.t 6), none, [], false⟩,
      ⟨(some 77), .bin .add .no (.t 76) (.c (.int .i64 1)), none, [0], false⟩,
      ⟨(some 6), .mov (.t 77), none, [1, 0, 1], false⟩]))))))
 (.seq (.reg [⟨(some 4), .mov (.c (.bool true)), none, [], false⟩])
 .ret))))) }
-- nostos/history.Size
def w12 : WF := { nt := 10, results := [(2, none)], code :=
 (.seq (.reg [⟨(some 1), .box (.t 0), none, [], true⟩,
    ⟨(some 2), .mov (.c (.int .i64 0)), none, [], false⟩])
 (.seq (.same [⟨(some 3), .fieldAddr 4 (.t 1), none, [], false⟩,
    ⟨(some 4), .load false 1 (.t 3), none, [0], false⟩,
    ⟨(some 5), .call 25 [(.t 4), (.c (.fn (.func 26) [] []))], none, [1], true⟩,
    ⟨(some 6), .fieldAddr 5 (.t 1), none, [], false⟩,
    ⟨(some 7), .load false 1 (.t 6), none, [3], false⟩,
    ⟨(some 8), .call 27 [(.t 7), (.c (.fn (.func 28) [] []))], none, [4, 2], true⟩,
    ⟨(some 9), .bin .add .no (.t 5) (.t 8), none, [2, 5], false⟩,
    ⟨(some 2), .mov (.t 9), none, [6, 5, 0, 1, 2, 3, 4, 5, 6], false⟩])
 .ret)) }
-- nostos/nostosref20.Size
def w13 : WF := { nt := 38, results := [(2, none)], code :=
 (.seq (.reg [⟨(some 1), .box (.t 0), none, [], true⟩,
    ⟨(some 2), .mov (.c (.int .i64 0)), none, [], false⟩])
 (.seq (.reg [⟨(some 3), .mov (.c (.int .i64 0)), none, [], false⟩])
 (.seq (.seq (.reg [⟨(some 4), .mov (.c (.int .i64 0)), none, [], false⟩])
  (.block 0 (.loop (.seq (.seq (.reg [⟨(some 6), .mov (.t 4), none, [], false⟩,
        ⟨(some 7), .fieldAddr 4 (.t 1), none, [], false⟩,
        ⟨(some 8), .load false 1 (.t 7), none, [1], false⟩,
        ⟨(some 9), .len (.t 8), none, [2], false⟩,
        ⟨(some 10), .bin .lss .no (.t 6) (.t 9), none, [0, 3], false⟩])
     (.cond (.t 10)
      .skip
      (.exit 0)))
    (.seq (.block 1 (.reg [⟨(some 13), .mov (.t 3), none, [], false⟩,
        ⟨(some 14), .fieldAddr 4 (.t 1), none, [], false⟩,
        ⟨(some 15), .load false 1 (.t 14), none, [1], false⟩,
        ⟨(some 16), .mov (.t 4), none, [], false⟩,
        ⟨(some 17), .indexSl 1 (.t 15) (.t 16), none, [2, 3], false⟩,
        ⟨(some 18), .load false 1 (.t 17), none, [4], false⟩,
        ⟨(some 19), .len (.t 18), none, [5], false⟩,
        ⟨(some 20), .bin .add .no (.t 13) (.t 19), none, [0, 6], false⟩,
        ⟨(some 3), .mov (.t 20), none, [7, 0, 1, 2, 3, 4, 5, 6, 7], false⟩]))
    (.reg [⟨(some 11), .mov (.t 4), none, [], false⟩,
      ⟨(some 12), .bin .add .no (.t 11) (.c (.int .i64 1)), none, [0], false⟩,
      ⟨(some 4), .mov (.t 12), none, [1, 0, 1], false⟩]))))))
 (.seq (.seq (.reg [⟨(some 5), .mov (.c (.int .i64 0)), none, [], false⟩])
  (.block 2 (.loop (.seq (.seq (.reg [⟨(some 21), .mov (.t 5), none, [], false⟩,
        ⟨(some 22), .fieldAddr 5 (.t 1), none, [], false⟩,
        ⟨(some 23), .load false 1 (.t 22), none, [1], false⟩,
        ⟨(some 24), .len (.t 23), none, [2], false⟩,
        ⟨(some 25), .bin .lss .no (.t 21) (.t 24), none, [0, 3], false⟩])
     (.cond (.t 25)
      .skip
      (.exit 2)))
    (.seq (.block 3 (.reg [⟨(some 28), .mov (.t 3), none, [], false⟩,
        ⟨(some 29), .fieldAddr 5 (.t 1), none, [], false⟩,
        ⟨(some 30), .load false 1 (.t 29), none, [1], false⟩,
        ⟨(some 31), .mov (.t 5), none, [], false⟩,
        ⟨(some 32), .indexSl 2 (.t 30) (.t 31), none, [2, 3], false⟩,
        ⟨(some 33), .fieldAddr 1 (.t 32), none, [4], false⟩,
        ⟨(some 34), .load false 1 (.t 33), none, [5], false⟩,
        ⟨(some 35), .len (.t 34), none, [6], false⟩,
        ⟨(some 36), .bin .add .no (.t 28) (.t 35), none, [0, 7], false⟩,
        ⟨(some 3), .mov (.t 36), none, [8, 0, 1, 2, 3, 4, 5, 6, 7, 8], false⟩]))
    (.reg [⟨(some 26), .mov (.t 5), none, [], false⟩,
      ⟨(some 27), .bin .add .no (.t 26) (.c (.int .i64 1)), none, [0], false⟩,
      ⟨(some 5), .mov (.t 27), none, [1, 0, 1], false⟩]))))))
 (.seq (.reg [⟨(some 37), .mov (.t 3), none, [], false⟩,
    ⟨(some 2), .mov (.t 37), none, [0, 0], false⟩])
 .ret))))) }
-- nostos/history.Rec
def w14 : WF := { nt := 24, results := [(4, none), (5, none)], code :=
 (.seq (.reg [⟨(some 2), .box (.t 0), none, [], true⟩,
    ⟨(some 4), .mov (.c (.list [] true)), none, [], false⟩,
    ⟨(some 5), .mov (.c (.int .i64 0)), none, [1], false⟩])
 (.seq (.block 0 (.seq (.reg [⟨(some 7), .mov (.t 1), none, [], false⟩,
      ⟨(some 8), .fieldAddr 2 (.t 2), none, [], false⟩,
      ⟨(some 9), .load false 1 (.t 8), none, [1], false⟩,
      ⟨(some 10), .bin .lss .no (.t 7) (.t 9), none, [0, 2], false⟩,
      ⟨(some 6), .mov (.t 10), none, [3], false⟩])
   (.cond (.t 6)
    (.seq (.reg [⟨(some 4), .mov (.c (.list [] true)), none, [], false⟩,
       ⟨(some 5), .mov (.c (.int .i64 4)), none, [0, 0], false⟩])
    .ret)
    (.seq (.reg [⟨(some 12), .mov (.t 1), none, [], false⟩,
       ⟨(some 13), .fieldAddr 3 (.t 2), none, [], false⟩,
       ⟨(some 14), .load false 1 (.t 13), none, [1], false⟩,
       ⟨(some 15), .bin .geq .no (.t 12) (.t 14), none, [0, 2], false⟩,
       ⟨(some 11), .mov (.t 15), none, [3], false⟩])
    (.cond (.t 11)
     (.seq (.reg [⟨(some 4), .mov (.c (.list [] true)), none, [], false⟩,
        ⟨(some 5), .mov (.c (.int .i64 1)), none, [0, 0], false⟩])
     .ret)
     .skip)))))
 (.seq (.reg [⟨(some 16), .fieldAddr 4 (.t 2), none, [], false⟩,
    ⟨(some 17), .load false 1 (.t 16), none, [0], false⟩,
    ⟨(some 18), .mov (.t 1), none, [], false⟩,
    ⟨(some 19), .fieldAddr 2 (.t 2), none, [], false⟩,
    ⟨(some 20), .load false 1 (.t 19), none, [3], false⟩,
    ⟨(some 21), .bin .sub .no (.t 18) (.t 20), none, [2, 4], false⟩,
    ⟨(some 22), .indexSl 1 (.t 17) (.t 21), none, [1, 5], false⟩,
    ⟨(some 23), .load false 1 (.t 22), none, [6], false⟩,
    ⟨(some 4), .mov (.t 23), none, [7, 0, 1, 2, 3, 4, 5, 6, 7], false⟩,
    ⟨(some 5), .mov (.c (.int .i64 0)), none, [8, 0, 1, 2, 3, 4, 5, 6, 7, 8], false⟩])
 .ret))) }
-- nostos/nostosref20.Bytes
def w15 : WF := { nt := 23, results := [(4, none)], code :=
 (.seq (.reg [⟨(some 2), .box (.t 0), none, [], true⟩,
    ⟨(some 4), .mov (.c (.list [] true)), none, [], false⟩])
 (.seq (.reg [⟨(some 7), .fieldAddr 1 (.t 2), none, [], false⟩,
    ⟨(some 8), .load false 1 (.t 7), none, [0], false⟩,
    ⟨(some 9), .conv (.int .i64) (.t 8), none, [1], false⟩,
    ⟨(some 10), .makeSlice 1 1 [(.int .u8 0)] (.t 9) (.t 9), none, [2, 2], true⟩,
    ⟨(some 5), .mov (.t 10), none, [3, 0, 1, 2, 3], false⟩])
 (.seq (.seq (.reg [⟨(some 6), .mov (.c (.int .i64 0)), none, [], false⟩])
  (.block 0 (.loop (.seq (.seq (.reg [⟨(some 11), .mov (.t 6), none, [], false⟩,
        ⟨(some 12), .mov (.t 5), none, [], false⟩,
        ⟨(some 13), .len (.t 12), none, [1], false⟩,
        ⟨(some 14), .bin .lss .no (.t 11) (.t 13), none, [0, 2], false⟩])
     (.cond (.t 14)
      .skip
      (.exit 0)))
    (.seq (.block 1 (.reg [⟨(some 17), .mov (.t 5), none, [], false⟩,
        ⟨(some 18), .mov (.t 6), none, [], false⟩,
        ⟨(some 19), .mov (.t 1), none, [], false⟩,
        ⟨(some 20), .conv (.int .u8) (.t 19), none, [2], false⟩,
        ⟨(some 21), .indexSl 1 (.t 17) (.t 18), none, [0, 1, 0, 1, 2, 3], false⟩,
        ⟨none, .store 1 (.t 21) (.t 20), none, [4, 3, 0, 1, 2, 3], true⟩]))
    (.reg [⟨(some 15), .mov (.t 6), none, [], false⟩,
      ⟨(some 16), .bin .add .no (.t 15) (.c (.int .i64 1)), none, [0], false⟩,
      ⟨(some 6), .mov (.t 16), none, [1, 0, 1], false⟩]))))))
 (.seq (.reg [⟨(some 22), .mov (.t 5), none, [], false⟩,
    ⟨(some 4), .mov (.t 22), none, [0, 0], false⟩])
 .ret)))) }
-- nostos/nostosref20.Rec
def w16 : WF := { nt := 22, results := [(4, none), (5, none)], code :=
 (.seq (.reg [⟨(some 2), .box (.t 0), none, [], true⟩,
    ⟨(some 4), .mov (.c (.list [] true)), none, [], false⟩,
    ⟨(some 5), .mov (.c (.int .i64 0)), none, [1], false⟩])
 (.seq (.seq (.reg [⟨(some 6), .mov (.t 1), none, [], false⟩,
     ⟨(some 7), .fieldAddr 2 (.t 2), none, [], false⟩,
     ⟨(some 8), .load false 1 (.t 7), none, [1], false⟩,
     ⟨(some 9), .bin .lss .no (.t 6) (.t 8), none, [0, 2], false⟩])
  (.cond (.t 9)
   (.seq (.reg [⟨(some 4), .mov (.c (.list [] true)), none, [], false⟩,
      ⟨(some 5), .mov (.c (.int .i64 4)), none, [0, 0], false⟩])
   .ret)
   .skip))
 (.seq (.seq (.reg [⟨(some 10), .mov (.t 1), none, [], false⟩,
     ⟨(some 11), .fieldAddr 3 (.t 2), none, [], false⟩,
     ⟨(some 12), .load false 1 (.t 11), none, [1], false⟩,
     ⟨(some 13), .bin .geq .no (.t 10) (.t 12), none, [0, 2], false⟩])
  (.cond (.t 13)
   (.seq (.reg [⟨(some 4), .mov (.c (.list [] true)), none, [], false⟩,
      ⟨(some 5), .mov (.c (.int .i64 1)), none, [0, 0], false⟩])
   .ret)
   .skip))
 (.seq (.reg [⟨(some 14), .fieldAddr 4 (.t 2), none, [], false⟩,
    ⟨(some 15), .load false 1 (.t 14), none, [0], false⟩,
    ⟨(some 16), .mov (.t 1), none, [], false⟩,
    ⟨(some 17), .fieldAddr 2 (.t 2), none, [], false⟩,
    ⟨(some 18), .load false 1 (.t 17), none, [3], false⟩,
    ⟨(some 19), .bin .sub .no (.t 16) (.t 18), none, [2, 4], false⟩,
    ⟨(some 20), .indexSl 1 (.t 15) (.t 19), none, [1, 5], false⟩,
    ⟨(some 21), .load false 1 (.t 20), none, [6], false⟩,
    ⟨(some 4), .mov (.t 21), none, [7, 0, 1, 2, 3, 4, 5, 6, 7], false⟩,
    ⟨(some 5), .mov (.c (.int .i64 0)), none, [8, 0, 1, 2, 3, 4, 5, 6, 7, 8], false⟩])
 .ret)))) }
-- nostos/history.Near
def w17 : WF := { nt := 29, results := [(4, some (true, 2)), (5, none)], code :=
 (.seq (.reg [⟨(some 2), .box (.t 0), none, [], true⟩,
    ⟨(some 4), .alloc [(.int .i64 0), (.list [] true)], none, [], true⟩,
    ⟨(some 5), .mov (.c (.bool false)), none, [], false⟩])
 (.seq (.seq (.reg [⟨(some 7), .fieldAddr 5 (.t 2), none, [], false⟩,
     ⟨(some 8), .load false 1 (.t 7), none, [0], false⟩,
     ⟨(some 9), .len (.t 8), none, [1], false⟩,
     ⟨(some 10), .bin .sub .no (.t 9) (.c (.int .i64 1)), none, [2], false⟩,
     ⟨(some 6), .mov (.t 10), none, [3, 0, 1, 2, 3], false⟩])
  (.block 0 (.loop (.seq (.seq (.reg [⟨(some 11), .mov (.t 6), none, [], false⟩,
        ⟨(some 12), .bin .geq .no (.t 11) (.c (.int .i64 0)), none, [0], false⟩])
     (.cond (.t 12)
      .skip
      (.exit 0)))
    (.seq (.block 1 (.seq (.reg [⟨(some 15), .fieldAddr 5 (.t 2), none, [], false⟩,
         ⟨(some 16), .load false 1 (.t 15), none, [0], false⟩,
         ⟨(some 17), .mov (.t 6), none, [], false⟩,
         ⟨(some 18), .indexSl 2 (.t 16) (.t 17), none, [1, 2], false⟩,
         ⟨(some 19), .fieldAddr 0 (.t 18), none, [3], false⟩,
         ⟨(some 20), .load false 1 (.t 19), none, [4], false⟩,
         ⟨(some 21), .mov (.t 1), none, [], false⟩,
         ⟨(some 22), .bin .leq .no (.t 20) (.t 21), none, [5, 6], false⟩])
      (.cond (.t 22)
       (.seq (.reg [⟨(some 23), .fieldAddr 5 (.t 2), none, [], false⟩,
          ⟨(some 24), .load false 1 (.t 23), none, [0], false⟩,
          ⟨(some 25), .mov (.t 6), none, [], false⟩,
          ⟨(some 26), .indexSl 2 (.t 24) (.t 25), none, [1, 2], false⟩,
          ⟨(some 27), .load true 2 (.t 26), none, [3], false⟩,
          ⟨none, .store 2 (.t 4) (.t 27), none, [4, 0, 1, 2, 3, 4], true⟩,
          ⟨(some 5), .mov (.c (.bool true)), none, [5, 0, 1, 2, 3, 4, 5], false⟩])
       .ret)
       .skip)))
    (.reg [⟨(some 13), .mov (.t 6), none, [], false⟩,
      ⟨(some 14), .bin .sub .no (.t 13) (.c (.int .i64 1)), none, [0], false⟩,
      ⟨(some 6), .mov (.t 14), none, [1, 0, 1], false⟩]))))))
 (.seq (.reg [⟨(some 28), .build [(.int .i64 0), (.list [] true)] [], none, [], false⟩,
    ⟨none, .store 2 (.t 4) (.t 28), none, [0, 0], true⟩,
    ⟨(some 5), .mov (.c (.bool false)), none, [1, 0, 1], false⟩])
 .ret))) }
-- nostos/nostosref20.Near
def w18 : WF := { nt := 32, results := [(4, some (true, 2)), (5, none)], code :=
 (.seq (.reg [⟨(some 2), .box (.t 0), none, [], true⟩,
    ⟨(some 4), .alloc [(.int .i64 0), (.list [] true)], none, [], true⟩,
    ⟨(some 5), .mov (.c (.bool false)), none, [], false⟩])
 (.seq (.reg [⟨(some 9), .build [(.int .i64 0), (.list [] true)] [], none, [], false⟩,
    ⟨(some 6), .alloc [(.int .i64 0), (.list [] true)], none, [], true⟩,
    ⟨none, .store 2 (.t 6) (.t 9), none, [1, 0, 0, 1], true⟩])
 (.seq (.reg [⟨(some 7), .mov (.c (.bool false)), none, [], false⟩])
 (.seq (.seq (.reg [⟨(some 8), .mov (.c (.int .i64 0)), none, [], false⟩])
  (.block 0 (.loop (.seq (.seq (.reg [⟨(some 10), .mov (.t 8), none, [], false⟩,
        ⟨(some 11), .fieldAddr 5 (.t 2), none, [], false⟩,
        ⟨(some 12), .load false 1 (.t 11), none, [1], false⟩,
        ⟨(some 13), .len (.t 12), none, [2], false⟩,
        ⟨(some 14), .bin .lss .no (.t 10) (.t 13), none, [0, 3], false⟩])
     (.cond (.t 14)
      .skip
      (.exit 0)))
    (.seq (.block 1 (.seq (.reg [⟨(some 17), .fieldAddr 5 (.t 2), none, [], false⟩,
         ⟨(some 18), .load false 1 (.t 17), none, [0], false⟩,
         ⟨(some 19), .mov (.t 8), none, [], false⟩,
         ⟨(some 20), .indexSl 2 (.t 18) (.t 19), none, [1, 2], false⟩,
         ⟨(some 21), .fieldAddr 0 (.t 20), none, [3], false⟩,
         ⟨(some 22), .load false 1 (.t 21), none, [4], false⟩,
         ⟨(some 23), .mov (.t 1), none, [], false⟩,
         ⟨(some 24), .bin .leq .no (.t 22) (.t 23), none, [5, 6], false⟩])
      (.cond (.t 24)
       (.seq (.reg [⟨(some 25), .fieldAddr 5 (.t 2), none, [], false⟩,
          ⟨(some 26), .load false 1 (.t 25), none, [0], false⟩,
          ⟨(some 27), .mov (.t 8), none, [], false⟩,
          ⟨(some 28), .indexSl 2 (.t 26) (.t 27), none, [1, 2], false⟩,
          ⟨(some 29), .load true 2 (.t 28), none, [3], false⟩,
          ⟨none, .store 2 (.t 6) (.t 29), none, [4, 0, 1, 2, 3, 4], true⟩])
       (.reg [⟨(some 7), .mov (.c (.bool true)), none, [], false⟩]))
       .skip)))
    (.reg [⟨(some 15), .mov (.t 8), none, [], false⟩,
      ⟨(some 16), .bin .add .no (.t 15) (.c (.int .i64 1)), none, [0], false⟩,
      ⟨(some 8), .mov (.t 16), none, [1, 0, 1], false⟩]))))))
 (.seq (.reg [⟨(some 30), .load true 2 (.t 6), none, [], false⟩,
    ⟨(some 31), .mov (.t 7), none, [], false⟩,
    ⟨none, .store 2 (.t 4) (.t 30), none, [0, 0], true⟩,
    ⟨(some 5), .mov (.t 31), none, [1, 2, 0, 1, 2], false⟩])
 .ret))))) }
-- nostos/history.New
def w19 : WF := { nt := 20, results := [(4, some (true, 6)), (5, none)], code :=
 (.seq (.reg [⟨(some 4), .alloc [(.int .i64 0), (.int .i64 0), (.int .i64 0), (.int .i64 0), (.list [] true), (.list [] true)], none, [], true⟩,
    ⟨(some 5), .mov (.c (.int .i64 0)), none, [], false⟩])
 (.seq (.seq (.reg [⟨(some 6), .mov (.t 0), none, [], false⟩,
     ⟨(some 7), .bin .lss .no (.t 6) (.c (.int .i64 0)), none, [0], false⟩,
     ⟨(some 8), .mov (.t 7), none, [1], false⟩,
     ⟨(some 9), .mov (.t 1), some (8, false), [2], false⟩,
     ⟨(some 10), .bin .lss .no (.t 9) (.c (.int .i64 1)), some (8, false), [3, 2], false⟩,
     ⟨(some 11), .pick (.t 8) (.c (.bool true)) (.t 10), none, [2, 4], false⟩,
     ⟨(some 12), .mov (.t 11), none, [5, 2], false⟩,
     ⟨(some 13), .mov (.t 1), some (12, false), [6], false⟩,
     ⟨(some 14), .bin .gtr .no (.t 13) (.c (.int .i64 1024)), some (12, false), [7, 6], false⟩,
     ⟨(some 15), .pick (.t 12) (.c (.bool true)) (.t 14), none, [6, 8], false⟩])
  (.cond (.t 15)
   (.seq (.reg [⟨(some 16), .build [(.int .i64 0), (.int .i64 0), (.int .i64 0), (.int .i64 0), (.list [] true), (.list [] true)] [], none, [], false⟩,
      ⟨none, .store 6 (.t 4) (.t 16), none, [0, 0], true⟩,
      ⟨(some 5), .mov (.c (.int .i64 1)), none, [1, 0, 1], false⟩])
   .ret)
   .skip))
 (.seq (.reg [⟨(some 17), .mov (.t 0), none, [], false⟩,
    ⟨(some 18), .mov (.t 1), none, [], false⟩,
    ⟨(some 19), .build [(.int .i64 0), (.int .i64 0), (.int .i64 0), (.int .i64 0), (.list [] true), (.list [] true)] [(0, 1, (.t 17)), (1, 1, (.t 18))], none, [0, 1], false⟩,
    ⟨none, .store 6 (.t 4) (.t 19), none, [2, 0, 1, 2], true⟩,
    ⟨(some 5), .mov (.c (.int .i64 0)), none, [3, 0, 1, 2, 3], false⟩])
 .ret))) }
-- nostos/history.Add
def w20 : WF := { nt := 18, results := [(4, some (true, 6))], code :=
 (.seq (.reg [⟨(some 2), .box (.t 0), none, [], true⟩,
    ⟨(some 4), .alloc [(.int .i64 0), (.int .i64 0), (.int .i64 0), (.int .i64 0), (.list [] true), (.list [] true)], none, [], true⟩])
 (.seq (.reg [⟨(some 5), .fieldAddr 4 (.t 2), none, [], false⟩,
    ⟨(some 6), .load false 1 (.t 5), none, [0], false⟩,
    ⟨(some 7), .call 29 [(.t 6)], none, [1], false⟩,
    ⟨(some 8), .mov (.t 1), none, [], false⟩,
    ⟨(some 9), .buildSlice 1 1 [(.list [] true)] [(0, 1, (.t 8))], none, [3], true⟩,
    ⟨(some 10), .append 1 24 none (.t 7) (.t 9), none, [2, 4, 2], true⟩,
    ⟨(some 11), .fieldAddr 4 (.t 2), none, [0, 1, 2, 3, 4, 5], false⟩,
    ⟨none, .store 1 (.t 11) (.t 10), none, [6, 5, 5, 0, 1, 2, 3, 4, 5], true⟩])
 (.seq (.reg [⟨(some 12), .fieldAddr 3 (.t 2), none, [], false⟩,
    ⟨(some 13), .load false 1 (.t 12), none, [0], false⟩,
    ⟨(some 14), .bin .add .no (.t 13) (.c (.int .i64 1)), none, [1], false⟩,
    ⟨(some 15), .fieldAddr 3 (.t 2), none, [0, 1, 2], false⟩,
    ⟨none, .store 1 (.t 15) (.t 14), none, [3, 2, 0, 1, 2], true⟩])
 (.seq (.reg [⟨(some 16), .load true 6 (.t 2), none, [], false⟩,
    ⟨(some 17), .call 30 [(.t 16)], none, [0], false⟩,
    ⟨none, .store 6 (.t 4) (.t 17), none, [1, 1, 0, 1], true⟩])
 .ret)))) }
-- nostos/nostosref20.New
def w21 : WF := { nt := 20, results := [(4, some (true, 6)), (5, none)], code :=
 (.seq (.reg [⟨(some 4), .alloc [(.int .i64 0), (.int .i64 0), (.int .i64 0), (.int .i64 0), (.list [] true), (.list [] true)], none, [], true⟩,
    ⟨(some 5), .mov (.c (.int .i64 0)), none, [], false⟩])
 (.seq (.seq (.reg [⟨(some 6), .mov (.t 0), none, [], false⟩,
     ⟨(some 7), .bin .lss .no (.t 6) (.c (.int .i64 0)), none, [0], false⟩,
     ⟨(some 8), .mov (.t 7), none, [1], false⟩,
     ⟨(some 9), .mov (.t 1), some (8, false), [2], false⟩,
     ⟨(some 10), .bin .lss .no (.t 9) (.c (.int .i64 1)), some (8, false), [3, 2], false⟩,
     ⟨(some 11), .pick (.t 8) (.c (.bool true)) (.t 10), none, [2, 4], false⟩,
     ⟨(some 12), .mov (.t 11), none, [5, 2], false⟩,
     ⟨(some 13), .mov (.t 1), some (12, false), [6], false⟩,
     ⟨(some 14), .bin .gtr .no (.t 13) (.c (.int .i64 1024)), some (12, false), [7, 6], false⟩,
     ⟨(some 15), .pick (.t 12) (.c (.bool true)) (.t 14), none, [6, 8], false⟩])
  (.cond (.t 15)
   (.seq (.reg [⟨(some 16), .build [(.int .i64 0), (.int .i64 0), (.int .i64 0), (.int .i64 0), (.list [] true), (.list [] true)] [], none, [], false⟩,
      ⟨none, .store 6 (.t 4) (.t 16), none, [0, 0], true⟩,
      ⟨(some 5), .mov (.c (.int .i64 1)), none, [1, 0, 1], false⟩])
   .ret)
   .skip))
 (.seq (.reg [⟨(some 17), .mov (.t 0), none, [], false⟩,
    ⟨(some 18), .mov (.t 1), none, [], false⟩,
    ⟨(some 19), .build [(.int .i64 0), (.int .i64 0), (.int .i64 0), (.int .i64 0), (.list [] true), (.list [] true)] [(0, 1, (.t 17)), (1, 1, (.t 18))], none, [0, 1], false⟩,
    ⟨none, .store 6 (.t 4) (.t 19), none, [2, 0, 1, 2], true⟩,
    ⟨(some 5), .mov (.c (.int .i64 0)), none, [3, 0, 1, 2, 3], false⟩])
 .ret))) }
-- nostos/history.Keep
def w22 : WF := { nt := 44, results := [(4, some (true, 6))], code :=
 (.seq (.reg [⟨(some 2), .box (.t 0), none, [], true⟩,
    ⟨(some 4), .alloc [(.int .i64 0), (.int .i64 0), (.int .i64 0), (.int .i64 0), (.list [] true), (.list [] true)], none, [], true⟩])
 (.seq (.reg [⟨(some 6), .fieldAddr 5 (.t 2), none, [], false⟩,
    ⟨(some 7), .load false 1 (.t 6), none, [0], false⟩,
    ⟨(some 8), .len (.t 7), none, [1], false⟩,
    ⟨(some 5), .mov (.t 8), none, [2, 0, 1, 2], false⟩])
 (.seq (.seq (.calm [⟨(some 9), .fieldAddr 3 (.t 2), none, [], false⟩,
     ⟨(some 10), .load false 1 (.t 9), none, [0], false⟩,
     ⟨(some 11), .fieldAddr 1 (.t 2), none, [], false⟩,
     ⟨(some 12), .load false 1 (.t 11), none, [2], false⟩,
     ⟨(some 13), .bin .rem .no (.t 10) (.t 12), none, [1, 3], false⟩,
     ⟨(some 14), .bin .neq .no (.t 13) (.c (.int .i64 0)), none, [4], false⟩,
     ⟨(some 15), .mov (.t 14), none, [5], false⟩,
     ⟨(some 16), .mov (.t 5), some (15, false), [6], false⟩,
     ⟨(some 17), .bin .gtr .no (.t 16) (.c (.int .i64 0)), some (15, false), [7, 6], false⟩,
     ⟨(some 18), .mov (.t 17), some (15, false), [8, 6, 6], false⟩,
     ⟨(some 19), .fieldAddr 5 (.t 2), some (18, true), [9], false⟩,
     ⟨(some 20), .load false 1 (.t 19), some (18, true), [10, 9], false⟩,
     ⟨(some 21), .mov (.t 5), some (18, true), [9], false⟩,
     ⟨(some 22), .bin .sub .no (.t 21) (.c (.int .i64 1)), some (18, true), [12, 9], false⟩,
     ⟨(some 23), .indexSl 2 (.t 20) (.t 22), some (18, true), [11, 13, 9], false⟩,
     ⟨(some 24), .fieldAddr 0 (.t 23), some (18, true), [14, 9], false⟩,
     ⟨(some 25), .load false 1 (.t 24), some (18, true), [15, 9], false⟩,
     ⟨(some 26), .fieldAddr 3 (.t 2), some (18, true), [9], false⟩,
     ⟨(some 27), .load false 1 (.t 26), some (18, true), [17, 9], false⟩,
     ⟨(some 28), .bin .eql .no (.t 25) (.t 27), some (18, true), [16, 18, 9], false⟩,
     ⟨(some 29), .pick (.t 18) (.t 28) (.c (.bool false)), some (15, false), [9, 19, 6], false⟩,
     ⟨(some 30), .pick (.t 15) (.c (.bool true)) (.t 29), none, [6, 20], false⟩])
  (.cond (.t 30)
   (.seq (.reg [⟨(some 31), .load true 6 (.t 2), none, [], false⟩,
      ⟨none, .store 6 (.t 4) (.t 31), none, [0, 0], true⟩])
   .ret)
   .skip))
 (.seq (.calm [⟨(some 32), .fieldAddr 5 (.t 2), none, [], false⟩,
    ⟨(some 33), .load false 1 (.t 32), none, [0], false⟩,
    ⟨(some 34), .call 31 [(.t 33)], none, [1], false⟩,
    ⟨(some 35), .fieldAddr 3 (.t 2), none, [], false⟩,
    ⟨(some 36), .load false 1 (.t 35), none, [3], false⟩,
    ⟨(some 37), .mov (.t 1), none, [], false⟩,
    ⟨(some 38), .build [(.int .i64 0), (.list [] true)] [(0, 1, (.t 36)), (1, 1, (.t 37))], none, [4, 5], false⟩,
    ⟨(some 39), .buildSlice 2 1 [(.int .i64 0), (.list [] true)] [(0, 2, (.t 38))], none, [6], true⟩,
    ⟨(some 40), .append 2 32 none (.t 34) (.t 39), none, [2, 7, 2], true⟩,
    ⟨(some 41), .fieldAddr 5 (.t 2), none, [0, 1, 2, 3, 4, 5, 6, 7, 8], false⟩,
    ⟨none, .store 1 (.t 41) (.t 40), none, [9, 8, 8, 0, 1, 2, 3, 4, 5, 6, 7, 8], true⟩])
 (.seq (.reg [⟨(some 42), .load true 6 (.t 2), none, [], false⟩,
    ⟨(some 43), .call 30 [(.t 42)], none, [0], false⟩,
    ⟨none, .store 6 (.t 4) (.t 43), none, [1, 1, 0, 1], true⟩])
 .ret))))) }
-- nostos/nostosref20.Keep
def w23 : WF := { nt := 48, results := [(4, some (true, 6))], code :=
 (.seq (.reg [⟨(some 2), .box (.t 0), none, [], true⟩,
    ⟨(some 4), .alloc [(.int .i64 0), (.int .i64 0), (.int .i64 0), (.int .i64 0), (.list [] true), (.list [] true)], none, [], true⟩])
 (.seq (.reg [⟨(some 7), .fieldAddr 5 (.t 2), none, [], false⟩,
    ⟨(some 8), .load false 1 (.t 7), none, [0], false⟩,
    ⟨(some 9), .len (.t 8), none, [1], false⟩,
    ⟨(some 5), .mov (.t 9), none, [2, 0, 1, 2], false⟩])
 (.seq (.seq (.calm [⟨(some 10), .fieldAddr 3 (.t 2), none, [], false⟩,
     ⟨(some 11), .load false 1 (.t 10), none, [0], false⟩,
     ⟨(some 12), .fieldAddr 1 (.t 2), none, [], false⟩,
     ⟨(some 13), .load false 1 (.t 12), none, [2], false⟩,
     ⟨(some 14), .bin .rem .no (.t 11) (.t 13), none, [1, 3], false⟩,
     ⟨(some 15), .bin .neq .no (.t 14) (.c (.int .i64 0)), none, [4], false⟩,
     ⟨(some 16), .mov (.t 15), none, [5], false⟩,
     ⟨(some 17), .mov (.t 5), some (16, false), [6], false⟩,
     ⟨(some 18), .bin .gtr .no (.t 17) (.c (.int .i64 0)), some (16, false), [7, 6], false⟩,
     ⟨(some 19), .mov (.t 18), some (16, false), [8, 6, 6], false⟩,
     ⟨(some 20), .fieldAddr 5 (.t 2), some (19, true), [9], false⟩,
     ⟨(some 21), .load false 1 (.t 20), some (19, true), [10, 9], false⟩,
     ⟨(some 22), .mov (.t 5), some (19, true), [9], false⟩,
     ⟨(some 23), .bin .sub .no (.t 22) (.c (.int .i64 1)), some (19, true), [12, 9], false⟩,
     ⟨(some 24), .indexSl 2 (.t 21) (.t 23), some (19, true), [11, 13, 9], false⟩,
     ⟨(some 25), .fieldAddr 0 (.t 24), some (19, true), [14, 9], false⟩,
     ⟨(some 26), .load false 1 (.t 25), some (19, true), [15, 9], false⟩,
     ⟨(some 27), .fieldAddr 3 (.t 2), some (19, true), [9], false⟩,
     ⟨(some 28), .load false 1 (.t 27), some (19, true), [17, 9], false⟩,
     ⟨(some 29), .bin .eql .no (.t 26) (.t 28), some (19, true), [16, 18, 9], false⟩,
     ⟨(some 30), .pick (.t 19) (.t 29) (.c (.bool false)), some (16, false), [9, 19, 6], false⟩,
     ⟨(some 31), .pick (.t 16) (.c (.bool true)) (.t 30), none, [6, 20], false⟩])
  (.cond (.t 31)
   (.seq (.reg [⟨(some 32), .load true 6 (.t 2), none, [], false⟩,
      ⟨none, .store 6 (.t 4) (.t 32), none, [0, 0], true⟩])
   .ret)
   .skip))
 (.seq (.reg [⟨(some 33), .buildSlice 2 0 [(.int .i64 0), (.list [] true)] [], none, [], true⟩,
    ⟨(some 34), .fieldAddr 5 (.t 2), none, [], false⟩,
    ⟨(some 35), .load false 1 (.t 34), none, [1], false⟩,
    ⟨(some 36), .append 2 32 none (.t 33) (.t 35), none, [0, 2], true⟩,
    ⟨(some 6), .mov (.t 36), none, [3, 3, 0, 1, 2, 3], false⟩])
 (.seq (.reg [⟨(some 37), .mov (.t 6), none, [], false⟩,
    ⟨(some 38), .fieldAddr 3 (.t 2), none, [], false⟩,
    ⟨(some 39), .load false 1 (.t 38), none, [1], false⟩,
    ⟨(some 40), .mov (.t 1), none, [], false⟩,
    ⟨(some 41), .build [(.int .i64 0), (.list [] true)] [(0, 1, (.t 39)), (1, 1, (.t 40))], none, [2, 3], false⟩,
    ⟨(some 42), .buildSlice 2 1 [(.int .i64 0), (.list [] true)] [(0, 2, (.t 41))], none, [4], true⟩,
    ⟨(some 43), .append 2 32 none (.t 37) (.t 42), none, [0, 5], true⟩,
    ⟨(some 6), .mov (.t 43), none, [6, 6, 0, 1, 2, 3, 4, 5, 6], false⟩])
 (.seq (.reg [⟨(some 44), .mov (.t 6), none, [], false⟩,
    ⟨(some 45), .fieldAddr 5 (.t 2), none, [0], false⟩,
    ⟨none, .store 1 (.t 45) (.t 44), none, [1, 0, 0], true⟩])
 (.seq (.reg [⟨(some 46), .load true 6 (.t 2), none, [], false⟩,
    ⟨(some 47), .call 32 [(.t 46)], none, [0], false⟩,
    ⟨none, .store 6 (.t 4) (.t 47), none, [1, 1, 0, 1], true⟩])
 .ret))))))) }
-- nostos/nostosref20.Add
def w24 : WF := { nt := 22, results := [(4, some (true, 6))], code :=
 (.seq (.reg [⟨(some 2), .box (.t 0), none, [], true⟩,
    ⟨(some 4), .alloc [(.int .i64 0), (.int .i64 0), (.int .i64 0), (.int .i64 0), (.list [] true), (.list [] true)], none, [], true⟩])
 (.seq (.reg [⟨(some 6), .buildSlice 1 0 [(.list [] true)] [], none, [], true⟩,
    ⟨(some 7), .fieldAddr 4 (.t 2), none, [], false⟩,
    ⟨(some 8), .load false 1 (.t 7), none, [1], false⟩,
    ⟨(some 9), .append 1 24 none (.t 6) (.t 8), none, [0, 2], true⟩,
    ⟨(some 5), .mov (.t 9), none, [3, 3, 0, 1, 2, 3], false⟩])
 (.seq (.reg [⟨(some 10), .mov (.t 5), none, [], false⟩,
    ⟨(some 11), .mov (.t 1), none, [], false⟩,
    ⟨(some 12), .buildSlice 1 1 [(.list [] true)] [(0, 1, (.t 11))], none, [1], true⟩,
    ⟨(some 13), .append 1 24 none (.t 10) (.t 12), none, [0, 2], true⟩,
    ⟨(some 5), .mov (.t 13), none, [3, 3, 0, 1, 2, 3], false⟩])
 (.seq (.reg [⟨(some 14), .mov (.t 5), none, [], false⟩,
    ⟨(some 15), .fieldAddr 4 (.t 2), none, [0], false⟩,
    ⟨none, .store 1 (.t 15) (.t 14), none, [1, 0, 0], true⟩])
 (.seq (.reg [⟨(some 16), .fieldAddr 3 (.t 2), none, [], false⟩,
    ⟨(some 17), .load false 1 (.t 16), none, [0], false⟩,
    ⟨(some 18), .bin .add .no (.t 17) (.c (.int .i64 1)), none, [1], false⟩,
    ⟨(some 19), .fieldAddr 3 (.t 2), none, [0, 1, 2], false⟩,
    ⟨none, .store 1 (.t 19) (.t 18), none, [3, 2, 0, 1, 2], true⟩])
 (.seq (.reg [⟨(some 20), .load true 6 (.t 2), none, [], false⟩,
    ⟨(some 21), .call 32 [(.t 20)], none, [0], false⟩,
    ⟨none, .store 6 (.t 4) (.t 21), none, [1, 1, 0, 1], true⟩])
 .ret)))))) }
-- nostos/history.sum[[]byte]
def w25 : WF := { nt := 21, results := [(4, none)], code :=
 (.seq (.reg [⟨(some 4), .mov (.c (.int .i64 0)), none, [], false⟩])
 (.seq (.reg [⟨(some 5), .mov (.c (.int .i64 0)), none, [], false⟩])
 (.seq (.seq (.reg [⟨(some 8), .mov (.t 0), none, [], false⟩,
     ⟨(some 9), .len (.t 8), none, [0], false⟩,
     ⟨(some 10), .mov (.c (.int .i64 0)), none, [], false⟩])
  (.block 0 (.loop (.seq (.reg [⟨(some 11), .bin .lss .no (.t 10) (.t 9), none, [], false⟩])
    (.seq (.cond (.t 11)
      .skip
      (.exit 0))
    (.seq (.block 1 (.seq (.reg [⟨(some 12), .indexSl 1 (.t 8) (.t 10), none, [], false⟩,
         ⟨(some 13), .load false 1 (.t 12), none, [0], false⟩,
         ⟨(some 7), .mov (.t 13), none, [1, 0, 1], false⟩])
      (.reg [⟨(some 14), .mov (.t 5), none, [], false⟩,
        ⟨(some 15), .mov (.t 1), none, [], false⟩,
        ⟨(some 16), .mov (.t 7), none, [], false⟩,
        ⟨(some 17), .callv (.t 15) [(.t 16)], none, [1, 2], true⟩,
        ⟨(some 18), .bin .add .no (.t 14) (.t 17), none, [0, 3], false⟩,
        ⟨(some 5), .mov (.t 18), none, [4, 3, 0, 1, 2, 3, 4], false⟩])))
    (.reg [⟨(some 19), .bin .add .no (.t 10) (.c (.int .i64 1)), none, [], false⟩,
      ⟨(some 10), .mov (.t 19), none, [0], false⟩])))))))
 (.seq (.reg [⟨(some 20), .mov (.t 5), none, [], false⟩,
    ⟨(some 4), .mov (.t 20), none, [0, 0], false⟩])
 .ret)))) }
-- nostos/history.Size$1
def w26 : WF := { nt := 5, results := [(2, none)], code :=
 (.seq (.reg [⟨(some 2), .mov (.c (.int .i64 0)), none, [], false⟩])
 (.seq (.reg [⟨(some 3), .mov (.t 0), none, [], false⟩,
    ⟨(some 4), .len (.t 3), none, [0], false⟩,
    ⟨(some 2), .mov (.t 4), none, [1, 0, 1], false⟩])
 .ret)) }
-- nostos/history.sum[nostos/history.Snap]
def w27 : WF := { nt := 21, results := [(4, none)], code :=
 (.seq (.reg [⟨(some 4), .mov (.c (.int .i64 0)), none, [], false⟩])
 (.seq (.reg [⟨(some 5), .mov (.c (.int .i64 0)), none, [], false⟩])
 (.seq (.seq (.reg [⟨(some 8), .mov (.t 0), none, [], false⟩,
     ⟨(some 9), .len (.t 8), none, [0], false⟩,
     ⟨(some 10), .mov (.c (.int .i64 0)), none, [], false⟩])
  (.block 0 (.loop (.seq (.reg [⟨(some 11), .bin .lss .no (.t 10) (.t 9), none, [], false⟩])
    (.seq (.cond (.t 11)
      .skip
      (.exit 0))
    (.seq (.block 1 (.seq (.reg [⟨(some 12), .indexSl 2 (.t 8) (.t 10), none, [], false⟩,
         ⟨(some 13), .load true 2 (.t 12), none, [0], false⟩,
         ⟨(some 7), .alloc [(.int .i64 0), (.list [] true)], none, [], true⟩,
         ⟨none, .store 2 (.t 7) (.t 13), none, [2, 1, 0, 1, 2], true⟩])
      (.reg [⟨(some 14), .mov (.t 5), none, [], false⟩,
        ⟨(some 15), .mov (.t 1), none, [], false⟩,
        ⟨(some 16), .load true 2 (.t 7), none, [], false⟩,
        ⟨(some 17), .callv (.t 15) [(.t 16)], none, [1, 2], true⟩,
        ⟨(some 18), .bin .add .no (.t 14) (.t 17), none, [0, 3], false⟩,
        ⟨(some 5), .mov (.t 18), none, [4, 3, 0, 1, 2, 3, 4], false⟩])))
    (.reg [⟨(some 19), .bin .add .no (.t 10) (.c (.int .i64 1)), none, [], false⟩,
      ⟨(some 10), .mov (.t 19), none, [0], false⟩])))))))
 (.seq (.reg [⟨(some 20), .mov (.t 5), none, [], false⟩,
    ⟨(some 4), .mov (.t 20), none, [0, 0], false⟩])
 .ret)))) }
-- nostos/history.Size$2
def w28 : WF := { nt := 6, results := [(2, none)], code :=
 (.seq (.reg [⟨(some 1), .box (.t 0), none, [], true⟩,
    ⟨(some 2), .mov (.c (.int .i64 0)), none, [], false⟩])
 (.seq (.reg [⟨(some 3), .fieldAddr 1 (.t 1), none, [], false⟩,
    ⟨(some 4), .load false 1 (.t 3), none, [0], false⟩,
    ⟨(some 5), .len (.t 4), none, [1], false⟩,
    ⟨(some 2), .mov (.t 5), none, [2, 0, 1, 2], false⟩])
 .ret)) }
-- slices.Clip[[][]byte,[]byte]
def w29 : WF := { nt := 9, results := [(2, none)], code :=
 (.seq (.reg [⟨(some 2), .mov (.c (.list [] true)), none, [], false⟩])
 (.seq (.reg [⟨(some 3), .mov (.t 0), none, [], false⟩,
    ⟨(some 4), .mov (.t 0), none, [], false⟩,
    ⟨(some 5), .len (.t 4), none, [1], false⟩,
    ⟨(some 6), .mov (.t 0), none, [], false⟩,
    ⟨(some 7), .len (.t 6), none, [3], false⟩,
    ⟨(some 8), .slice (.sl 1) (.t 3) none (some (.t 5)) (some (.t 7)), none, [0, 2, 4], false⟩,
    ⟨(some 2), .mov (.t 8), none, [5, 0, 1, 2, 3, 4, 5], false⟩])
 .ret)) }
-- nostos/history.evict
def w30 : WF := { nt := 86, results := [(2, some (true, 6))], code :=
 (.seq (.reg [⟨(some 1), .box (.t 0), none, [], true⟩,
    ⟨(some 2), .alloc [(.int .i64 0), (.int .i64 0), (.int .i64 0), (.int .i64 0), (.list [] true), (.list [] true)], none, [], true⟩])
 (.seq (.reg [⟨(some 4), .load true 6 (.t 1), none, [], false⟩,
    ⟨(some 5), .call 12 [(.t 4)], none, [0], false⟩,
    ⟨(some 3), .mov (.t 5), none, [1, 1, 0, 1], false⟩])
 (.seq .skip
 (.seq (.block 0 (.loop (.seq (.seq (.reg [⟨(some 6), .mov (.t 3), none, [], false⟩,
        ⟨(some 7), .fieldAddr 0 (.t 1), none, [], false⟩,
        ⟨(some 8), .load false 1 (.t 7), none, [1], false⟩,
        ⟨(some 9), .bin .gtr .no (.t 6) (.t 8), none, [0, 2], false⟩])
     (.cond (.t 9)
      .skip
      (.exit 0)))
    (.block 1 (.seq (.block 2 (.seq (.reg [⟨(some 11), .fieldAddr 4 (.t 1), none, [], false⟩,
          ⟨(some 12), .load false 1 (.t 11), none, [0], false⟩,
          ⟨(some 13), .len (.t 12), none, [1], false⟩,
          ⟨(some 14), .bin .gtr .no (.t 13) (.c (.int .i64 0)), none, [2], false⟩,
          ⟨(some 10), .mov (.t 14), none, [3], false⟩])
       (.cond (.t 10)
        (.seq (.reg [⟨(some 15), .mov (.t 3), none, [], false⟩,
           ⟨(some 16), .fieldAddr 4 (.t 1), none, [], false⟩,
           ⟨(some 17), .load false 1 (.t 16), none, [1], false⟩,
           ⟨(some 18), .indexSl 1 (.t 17) (.c (.int .i64 0)), none, [2], false⟩,
           ⟨(some 19), .load false 1 (.t 18), none, [3], false⟩,
           ⟨(some 20), .len (.t 19), none, [4], false⟩,
           ⟨(some 21), .bin .sub .no (.t 15) (.t 20), none, [0, 5], false⟩,
           ⟨(some 3), .mov (.t 21), none, [6, 0, 1, 2, 3, 4, 5, 6], false⟩])
        (.seq (.reg [⟨(some 22), .fieldAddr 4 (.t 1), none, [], false⟩,
           ⟨(some 23), .load false 1 (.t 22), none, [0], false⟩,
           ⟨(some 24), .fieldAddr 4 (.t 1), none, [], false⟩,
           ⟨(some 25), .load false 1 (.t 24), none, [2], false⟩,
           ⟨(some 26), .len (.t 25), none, [3], false⟩,
           ⟨(some 27), .fieldAddr 4 (.t 1), none, [], false⟩,
           ⟨(some 28), .load false 1 (.t 27), none, [5], false⟩,
           ⟨(some 29), .len (.t 28), none, [6], false⟩,
           ⟨(some 30), .slice (.sl 1) (.t 23) (some (.c (.int .i64 1))) (some (.t 26)) (some (.t 29)), none, [1, 4, 7], false⟩,
           ⟨(some 31), .fieldAddr 4 (.t 1), none, [0, 1, 2, 3, 4, 5, 6, 7, 8], false⟩,
           ⟨none, .store 1 (.t 31) (.t 30), none, [9, 8, 0, 1, 2, 3, 4, 5, 6, 7, 8], true⟩])
        (.reg [⟨(some 32), .fieldAddr 2 (.t 1), none, [], false⟩,
          ⟨(some 33), .load false 1 (.t 32), none, [0], false⟩,
          ⟨(some 34), .bin .add .no (.t 33) (.c (.int .i64 1)), none, [1], false⟩,
          ⟨(some 35), .fieldAddr 2 (.t 1), none, [0, 1, 2], false⟩,
          ⟨none, .store 1 (.t 35) (.t 34), none, [3, 2, 0, 1, 2], true⟩])))
        (.seq (.reg [⟨(some 37), .fieldAddr 5 (.t 1), none, [], false⟩,
           ⟨(some 38), .load false 1 (.t 37), none, [0], false⟩,
           ⟨(some 39), .len (.t 38), none, [1], false⟩,
           ⟨(some 40), .bin .eql .no (.t 39) (.c (.int .i64 0)), none, [2], false⟩,
           ⟨(some 36), .mov (.t 40), none, [3], false⟩])
        (.cond (.t 36)
         (.exit 0)
         .skip)))))
     (.block 3 (.loop (.seq (.seq (.calm [⟨(some 41), .fieldAddr 5 (.t 1), none, [], false⟩,
           ⟨(some 42), .load false 1 (.t 41), none, [0], false⟩,
           ⟨(some 43), .len (.t 42), none, [1], false⟩,
           ⟨(some 44), .bin .gtr .no (.t 43) (.c (.int .i64 0)), none, [2], false⟩,
           ⟨(some 45), .mov (.t 44), none, [3], false⟩,
           ⟨(some 46), .fieldAddr 5 (.t 1), some (45, true), [4], false⟩,
           ⟨(some 47), .load false 1 (.t 46), some (45, true), [5, 4], false⟩,
           ⟨(some 48), .indexSl 2 (.t 47) (.c (.int .i64 0)), some (45, true), [6, 4], false⟩,
           ⟨(some 49), .fieldAddr 0 (.t 48), some (45, true), [7, 4], false⟩,
           ⟨(some 50), .load false 1 (.t 49), some (45, true), [8, 4], false⟩,
           ⟨(some 51), .fieldAddr 2 (.t 1), some (45, true), [4], false⟩,
           ⟨(some 52), .load false 1 (.t 51), some (45, true), [10, 4], false⟩,
           ⟨(some 53), .bin .lss .no (.t 50) (.t 52), some (45, true), [9, 11, 4], false⟩,
           ⟨(some 54), .mov (.t 53), some (45, true), [12, 4, 4], false⟩,
           ⟨(some 55), .fieldAddr 4 (.t 1), some (54, false), [13], false⟩,
           ⟨(some 56), .load false 1 (.t 55), some (54, false), [14, 13], false⟩,
           ⟨(some 57), .len (.t 56), some (54, false), [15, 13], false⟩,
           ⟨(some 58), .bin .eql .no (.t 57) (.c (.int .i64 0)), some (54, false), [16, 13], false⟩,
           ⟨(some 59), .mov (.t 58), some (54, false), [17, 13, 13], false⟩,
           ⟨(some 60), .mov (.t 3), some (59, true), [18], false⟩,
           ⟨(some 61), .fieldAddr 0 (.t 1), some (59, true), [18], false⟩,
           ⟨(some 62), .load false 1 (.t 61), some (59, true), [20, 18], false⟩,
           ⟨(some 63), .bin .gtr .no (.t 60) (.t 62), some (59, true), [19, 21, 18], false⟩,
           ⟨(some 64), .pick (.t 59) (.t 63) (.c (.bool false)), some (54, false), [18, 22, 13], false⟩,
           ⟨(some 65), .pick (.t 54) (.c (.bool true)) (.t 64), some (45, true), [13, 23, 4], false⟩,
           ⟨(some 66), .pick (.t 45) (.t 65) (.c (.bool false)), none, [4, 24], false⟩])
        (.cond (.t 66)
         .skip
         (.exit 3)))
       (.block 4 (.seq (.reg [⟨(some 67), .mov (.t 3), none, [], false⟩,
           ⟨(some 68), .fieldAddr 5 (.t 1), none, [], false⟩,
           ⟨(some 69), .load false 1 (.t 68), none, [1], false⟩,
           ⟨(some 70), .indexSl 2 (.t 69) (.c (.int .i64 0)), none, [2], false⟩,
           ⟨(some 71), .fieldAddr 1 (.t 70), none, [3], false⟩,
           ⟨(some 72), .load false 1 (.t 71), none, [4], false⟩,
           ⟨(some 73), .len (.t 72), none, [5], false⟩,
           ⟨(some 74), .bin .sub .no (.t 67) (.t 73), none, [0, 6], false⟩,
           ⟨(some 3), .mov (.t 74), none, [7, 0, 1, 2, 3, 4, 5, 6, 7], false⟩])
        (.reg [⟨(some 75), .fieldAddr 5 (.t 1), none, [], false⟩,
          ⟨(some 76), .load false 1 (.t 75), none, [0], false⟩,
          ⟨(some 77), .fieldAddr 5 (.t 1), none, [], false⟩,
          ⟨(some 78), .load false 1 (.t 77), none, [2], false⟩,
          ⟨(some 79), .len (.t 78), none, [3], false⟩,
          ⟨(some 80), .fieldAddr 5 (.t 1), none, [], false⟩,
          ⟨(some 81), .load false 1 (.t 80), none, [5], false⟩,
          ⟨(some 82), .len (.t 81), none, [6], false⟩,
          ⟨(some 83), .slice (.sl 2) (.t 76) (some (.c (.int .i64 1))) (some (.t 79)) (some (.t 82)), none, [1, 4, 7], false⟩,
          ⟨(some 84), .fieldAddr 5 (.t 1), none, [0, 1, 2, 3, 4, 5, 6, 7, 8], false⟩,
          ⟨none, .store 1 (.t 84) (.t 83), none, [9, 8, 0, 1, 2, 3, 4, 5, 6, 7, 8], true⟩])))))))))))
 (.seq (.reg [⟨(some 85), .load true 6 (.t 1), none, [], false⟩,
    ⟨none, .store 6 (.t 2) (.t 85), none, [0, 0], true⟩])
 .ret))))) }
-- slices.Clip[[]nostos/history.Snap,nostos/history.Snap]
def w31 : WF := { nt := 9, results := [(2, none)], code :=
 (.seq (.reg [⟨(some 2), .mov (.c (.list [] true)), none, [], false⟩])
 (.seq (.reg [⟨(some 3), .mov (.t 0), none, [], false⟩,
    ⟨(some 4), .mov (.t 0), none, [], false⟩,
    ⟨(some 5), .len (.t 4), none, [1], false⟩,
    ⟨(some 6), .mov (.t 0), none, [], false⟩,
    ⟨(some 7), .len (.t 6), none, [3], false⟩,
    ⟨(some 8), .slice (.sl 2) (.t 3) none (some (.t 5)) (some (.t 7)), none, [0, 2, 4], false⟩,
    ⟨(some 2), .mov (.t 8), none, [5, 0, 1, 2, 3, 4, 5], false⟩])
 .ret)) }
-- nostos/nostosref20.evict
def w32 : WF := { nt := 53, results := [(2, some (true, 6))], code :=
 (.seq (.reg [⟨(some 1), .box (.t 0), none, [], true⟩,
    ⟨(some 2), .alloc [(.int .i64 0), (.int .i64 0), (.int .i64 0), (.int .i64 0), (.list [] true), (.list [] true)], none, [], true⟩])
 (.seq (.block 0 (.loop (.seq (.seq (.calm [⟨(some 5), .load true 6 (.t 1), none, [], false⟩,
        ⟨(some 6), .call 13 [(.t 5)], none, [0], false⟩,
        ⟨(some 7), .fieldAddr 0 (.t 1), none, [], false⟩,
        ⟨(some 8), .load false 1 (.t 7), none, [2], false⟩,
        ⟨(some 9), .bin .gtr .no (.t 6) (.t 8), none, [1, 3], false⟩])
     (.cond (.t 9)
      .skip
      (.exit 0)))
    (.block 1 (.seq (.seq (.reg [⟨(some 10), .fieldAddr 4 (.t 1), none, [], false⟩,
         ⟨(some 11), .load false 1 (.t 10), none, [0], false⟩,
         ⟨(some 12), .len (.t 11), none, [1], false⟩,
         ⟨(some 13), .bin .eql .no (.t 12) (.c (.int .i64 0)), none, [2], false⟩])
      (.cond (.t 13)
       (.seq (.reg [⟨(some 14), .fieldAddr 5 (.t 1), none, [], false⟩,
          ⟨(some 15), .load false 1 (.t 14), none, [0], false⟩,
          ⟨(some 16), .slice (.sl 2) (.t 15) (some (.c (.int .i64 1))) none none, none, [1], false⟩,
          ⟨(some 17), .fieldAddr 5 (.t 1), none, [0, 1, 2], false⟩,
          ⟨none, .store 1 (.t 17) (.t 16), none, [3, 2, 0, 1, 2], true⟩])
       (.exit 1))
       .skip))
     (.seq (.reg [⟨(some 18), .fieldAddr 4 (.t 1), none, [], false⟩,
        ⟨(some 19), .load false 1 (.t 18), none, [0], false⟩,
        ⟨(some 20), .slice (.sl 1) (.t 19) (some (.c (.int .i64 1))) none none, none, [1], false⟩,
        ⟨(some 21), .fieldAddr 4 (.t 1), none, [0, 1, 2], false⟩,
        ⟨none, .store 1 (.t 21) (.t 20), none, [3, 2, 0, 1, 2], true⟩])
     (.seq (.reg [⟨(some 22), .fieldAddr 2 (.t 1), none, [], false⟩,
        ⟨(some 23), .load false 1 (.t 22), none, [0], false⟩,
        ⟨(some 24), .bin .add .no (.t 23) (.c (.int .i64 1)), none, [1], false⟩,
        ⟨(some 25), .fieldAddr 2 (.t 1), none, [0, 1, 2], false⟩,
        ⟨none, .store 1 (.t 25) (.t 24), none, [3, 2, 0, 1, 2], true⟩])
     (.seq (.reg [⟨(some 3), .mov (.c (.list [] true)), none, [], false⟩])
     (.seq (.seq (.reg [⟨(some 4), .mov (.c (.int .i64 0)), none, [], false⟩])
      (.block 2 (.loop (.seq (.seq (.reg [⟨(some 26), .mov (.t 4), none, [], false⟩,
            ⟨(some 27), .fieldAddr 5 (.t 1), none, [], false⟩,
            ⟨(some 28), .load false 1 (.t 27), none, [1], false⟩,
            ⟨(some 29), .len (.t 28), none, [2], false⟩,
            ⟨(some 30), .bin .lss .no (.t 26) (.t 29), none, [0, 3], false⟩])
         (.cond (.t 30)
          .skip
          (.exit 2)))
        (.seq (.block 3 (.seq (.calm [⟨(some 33), .fieldAddr 5 (.t 1), none, [], false⟩,
             ⟨(some 34), .load false 1 (.t 33), none, [0], false⟩,
             ⟨(some 35), .mov (.t 4), none, [], false⟩,
             ⟨(some 36), .indexSl 2 (.t 34) (.t 35), none, [1, 2], false⟩,
             ⟨(some 37), .fieldAddr 0 (.t 36), none, [3], false⟩,
             ⟨(some 38), .load false 1 (.t 37), none, [4], false⟩,
             ⟨(some 39), .fieldAddr 2 (.t 1), none, [], false⟩,
             ⟨(some 40), .load false 1 (.t 39), none, [6], false⟩,
             ⟨(some 41), .bin .geq .no (.t 38) (.t 40), none, [5, 7], false⟩])
          (.cond (.t 41)
           (.reg [⟨(some 42), .mov (.t 3), none, [], false⟩,
             ⟨(some 43), .fieldAddr 5 (.t 1), none, [], false⟩,
             ⟨(some 44), .load false 1 (.t 43), none, [1], false⟩,
             ⟨(some 45), .mov (.t 4), none, [], false⟩,
             ⟨(some 46), .indexSl 2 (.t 44) (.t 45), none, [2, 3], false⟩,
             ⟨(some 47), .load true 2 (.t 46), none, [4], false⟩,
             ⟨(some 48), .buildSlice 2 1 [(.int .i64 0), (.list [] true)] [(0, 2, (.t 47))], none, [5], true⟩,
             ⟨(some 49), .append 2 32 none (.t 42) (.t 48), none, [0, 6], true⟩,
             ⟨(some 3), .mov (.t 49), none, [7, 7, 0, 1, 2, 3, 4, 5, 6, 7], false⟩])
           .skip)))
        (.reg [⟨(some 31), .mov (.t 4), none, [], false⟩,
          ⟨(some 32), .bin .add .no (.t 31) (.c (.int .i64 1)), none, [0], false⟩,
          ⟨(some 4), .mov (.t 32), none, [1, 0, 1], false⟩]))))))
     (.fix (some 3) (.reg [⟨(some 50), .mov (.t 3), none, [], false⟩,
       ⟨(some 51), .fieldAddr 5 (.t 1), none, [0], false⟩,
       ⟨none, .store 1 (.t 51) (.t 50), none, [1, 0, 0], true⟩])))))))))))
 (.seq (.reg [⟨(some 52), .load true 6 (.t 1), none, [], false⟩,
    ⟨none, .store 6 (.t 2) (.t 52), none, [0, 0], true⟩])
 .ret))) }

def tab : List (Nat × AFun) := [(3, w3.toA), (4, w4.toA), (5, w5.toA), (6, w6.toA), (7, w7.toA), (8, w8.toA), (9, w9.toA), (10, w10.toA), (11, w11.toA), (12, w12.toA), (13, w13.toA), (14, w14.toA), (15, w15.toA), (16, w16.toA), (17, w17.toA), (18, w18.toA), (19, w19.toA), (20, w20.toA), (21, w21.toA), (22, w22.toA), (23, w23.toA), (24, w24.toA), (25, w25.toA), (26, w26.toA), (27, w27.toA), (28, w28.toA), (29, w29.toA), (30, w30.toA), (31, w31.toA), (32, w32.toA)]
theorem tab_ok : ∀ x ∈ tab, cFun Try.prog x.1 = some x.2.erase := by
  intro x hx
  simp only [tab, List.mem_cons, List.not_mem_nil, or_false] at hx
  rcases hx with rfl | rfl | rfl | rfl | rfl | rfl | rfl | rfl | rfl | rfl | rfl | rfl | rfl | rfl | rfl | rfl | rfl | rfl | rfl | rfl | rfl | rfl | rfl | rfl | rfl | rfl | rfl | rfl | rfl | rfl
  · kernel_rfl
  · kernel_rfl
  · kernel_rfl
  · kernel_rfl
  · kernel_rfl
  · kernel_rfl
  · kernel_rfl
  · kernel_rfl
  · kernel_rfl
  · kernel_rfl
  · kernel_rfl
  · kernel_rfl
  · kernel_rfl
  · kernel_rfl
  · kernel_rfl
  · kernel_rfl
  · kernel_rfl
  · kernel_rfl
  · kernel_rfl
  · kernel_rfl
  · kernel_rfl
  · kernel_rfl
  · kernel_rfl
  · kernel_rfl
  · kernel_rfl
  · kernel_rfl
  · kernel_rfl
  · kernel_rfl
  · kernel_rfl
  · kernel_rfl
theorem k3 : okW w3.code = true := by kernel_rfl
theorem k4 : okW w4.code = true := by kernel_rfl
theorem k5 : okW w5.code = true := by kernel_rfl
theorem k6 : okW w6.code = true := by kernel_rfl
theorem k7 : okW w7.code = true := by kernel_rfl
theorem k8 : okW w8.code = true := by kernel_rfl
theorem k9 : okW w9.code = true := by kernel_rfl
theorem k10 : okW w10.code = true := by kernel_rfl
theorem k11 : okW w11.code = true := by kernel_rfl
theorem k12 : okW w12.code = true := by kernel_rfl
theorem k13 : okW w13.code = true := by kernel_rfl
theorem k14 : okW w14.code = true := by kernel_rfl
theorem k15 : okW w15.code = true := by kernel_rfl
theorem k16 : okW w16.code = true := by kernel_rfl
theorem k17 : okW w17.code = true := by kernel_rfl
theorem k18 : okW w18.code = true := by kernel_rfl
theorem k19 : okW w19.code = true := by kernel_rfl
theorem k20 : okW w20.code = true := by kernel_rfl
theorem k21 : okW w21.code = true := by kernel_rfl
theorem k22 : okW w22.code = true := by kernel_rfl
theorem k23 : okW w23.code = true := by kernel_rfl
theorem k24 : okW w24.code = true := by kernel_rfl
theorem k25 : okW w25.code = true := by kernel_rfl
theorem k26 : okW w26.code = true := by kernel_rfl
theorem k27 : okW w27.code = true := by kernel_rfl
theorem k28 : okW w28.code = true := by kernel_rfl
theorem k29 : okW w29.code = true := by kernel_rfl
theorem k30 : okW w30.code = true := by kernel_rfl
theorem k31 : okW w31.code = true := by kernel_rfl
theorem k32 : okW w32.code = true := by kernel_rfl
end Fz.H
