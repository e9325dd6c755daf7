/- Functions of the seat as compact code, and that they are so compiled. No conditions. -/
import Derived.Test.YtmgoencdjkaobaaGreatDoorPeI
import Derived.Test.YtmgoencdjkaobaaGreatDoorProg
set_option linter.unusedVariables false
namespace Go.Proofs.YtmgoencdjkaobaaGreatDoor
open Go Go.Pe
/-- ballast/ballastlaw6.NodeRows -/
def c3 : AC :=
 (.seq
  (.reg [⟨(some 4), none, .e (.mov (.c (.bool false)))⟩] [0, 1])
  (.seq
   (.seq
    (.reg [⟨(some 12), none, .callV 7 []⟩,
      ⟨(some 13), none, .e (.un .not (.t 12))⟩] [0, 1, 13])
    (.cond (.t 13) []
     (.seq
      (.reg [⟨(some 4), none, .e (.mov (.c (.bool false)))⟩] [4])
      (.ret [4]))
     [0, 1]
     .skip))
   (.seq
    (.seq
     (.reg [⟨(some 14), none, .e (.mov (.t 0))⟩,
       ⟨(some 15), none, .e (.lenL (.t 14))⟩,
       ⟨(some 16), none, .e (.bin .gtr (.t 15) (.c (.int .i64 40)))⟩] [0, 1, 16])
     (.cond (.t 16) []
      (.seq
       (.reg [⟨(some 4), none, .e (.mov (.c (.bool true)))⟩] [4])
       (.ret [4]))
      [0, 1]
      .skip))
    (.seq
     (.seq
      (.reg [⟨(some 5), none, .e (.mov (.c (.int .i64 0)))⟩] [0, 1, 5])
      (.block 0
       (.loop [0, 1, 5]
        (.seq
         (.seq
          (.reg [⟨(some 17), none, .e (.mov (.t 5))⟩,
            ⟨(some 18), none, .e (.mov (.t 0))⟩,
            ⟨(some 19), none, .e (.lenL (.t 18))⟩,
            ⟨(some 20), none, .e (.bin .lss (.t 17) (.t 19))⟩] [0, 1, 5, 20])
          (.cond (.t 20) [0, 1, 5]
           .skip
           [0, 1]
           (.exit 0 [0, 1])))
         (.seq
          (.block 1
           (.seq
            (.reg [⟨(some 23), none, .e (.mov (.t 0))⟩,
              ⟨(some 24), none, .e (.mov (.t 5))⟩,
              ⟨(some 25), none, .e (.iad 5 (.t 23) (.t 24))⟩,
              ⟨(some 26), none, .e (.load true 5 (.t 25))⟩,
              ⟨(some 27), none, .callV 8 [(.t 26)]⟩,
              ⟨(some 28), none, .e (.un .not (.t 27))⟩] [0, 1, 5, 28])
            (.cond (.t 28) []
             (.seq
              (.reg [⟨(some 4), none, .e (.mov (.c (.bool true)))⟩] [4])
              (.ret [4]))
             [0, 1, 5]
             .skip)))
          (.reg [⟨(some 21), none, .e (.mov (.t 5))⟩,
            ⟨(some 22), none, .e (.bin .add (.t 21) (.c (.int .i64 1)))⟩,
            ⟨(some 5), none, .e (.mov (.t 22))⟩] [0, 1, 5]))))))
     (.seq
      (.reg [⟨(some 29), none, .e (.mov (.t 0))⟩,
        ⟨(some 30), none, .callV 9 [(.t 29)]⟩,
        ⟨(some 6), none, .e (.mov (.t 30))⟩] [0, 1, 6])
      (.seq
       (.reg [⟨(some 31), none, .e (.mov (.t 6))⟩,
         ⟨(some 32), none, .callV 10 [(.t 31)]⟩,
         ⟨(some 7), none, .e (.mov (.t 32))⟩] [0, 1, 6, 7])
       (.seq
        (.seq
         (.reg [⟨(some 33), none, .e (.mov (.t 0))⟩,
           ⟨(some 34), none, .callV 11 [(.t 33)]⟩,
           ⟨(some 35), none, .e (.mov (.t 7))⟩,
           ⟨(some 36), none, .e (.bin .neq (.t 34) (.t 35))⟩] [0, 1, 6, 7, 36])
         (.cond (.t 36) []
          (.seq
           (.reg [⟨(some 4), none, .e (.mov (.c (.bool false)))⟩] [4])
           (.ret [4]))
          [0, 1, 6, 7]
          .skip))
        (.seq
         (.seq
          (.reg [⟨(some 37), none, .e (.mov (.t 7))⟩,
            ⟨(some 38), none, .e (.bin .neq (.t 37) (.c (.int .i64 0)))⟩] [0, 1, 6, 38])
          (.cond (.t 38) []
           (.seq
            (.reg [⟨(some 4), none, .e (.mov (.c (.bool true)))⟩] [4])
            (.ret [4]))
           [0, 1, 6]
           .skip))
         (.seq
          (.reg [⟨(some 40), none, .e (.mov (.t 0))⟩,
            ⟨(some 41), none, .e (.mov (.t 1))⟩,
            ⟨(some 42), none, .callV 12 [(.t 40), (.t 41)]⟩,
            ⟨(some 39), none, .e (.mov (.t 42))⟩,
            ⟨(some 43), none, .e (.ext (.t 39) 0)⟩,
            ⟨(some 44), none, .e (.ext (.t 39) 1)⟩,
            ⟨(some 8), none, .alloc 5 31 (.agg [(.str []), .nils, .nils, .nils, (.bool false)])⟩,
            ⟨none, none, .store 5 (.t 8) (.t 43)⟩,
            ⟨(some 9), none, .e (.mov (.t 44))⟩] [1, 6, 8, 9])
          (.seq
           (.reg [⟨(some 46), none, .e (.mov (.t 6))⟩,
             ⟨(some 47), none, .e (.mov (.t 1))⟩,
             ⟨(some 48), none, .callV 13 [(.t 46), (.t 47)]⟩,
             ⟨(some 45), none, .e (.mov (.t 48))⟩,
             ⟨(some 49), none, .e (.ext (.t 45) 0)⟩,
             ⟨(some 50), none, .e (.ext (.t 45) 1)⟩,
             ⟨(some 10), none, .alloc 5 43 (.agg [(.str []), .nils, .nils, .nils, (.bool false)])⟩,
             ⟨none, none, .store 5 (.t 10) (.t 49)⟩,
             ⟨(some 11), none, .e (.mov (.t 50))⟩] [8, 9, 10, 11])
           (.seq
            (.reg [⟨(some 51), none, .e (.mov (.t 9))⟩,
              ⟨(some 52), none, .e (.mov (.t 11))⟩,
              ⟨(some 53), none, .e (.binB .eql (.t 51) (.t 52))⟩,
              ⟨(some 54), none, .e (.mov (.t 53))⟩,
              ⟨(some 55), (some (54, true)), .e (.load true 5 (.t 8))⟩,
              ⟨(some 56), (some (54, true)), .callV 15 [(.t 55)]⟩,
              ⟨(some 57), (some (54, true)), .e (.load true 5 (.t 10))⟩,
              ⟨(some 58), (some (54, true)), .callV 14 [(.t 56), (.t 57)]⟩,
              ⟨(some 59), none, .e (.pick (.t 54) (.t 58) (.c (.bool false)))⟩,
              ⟨(some 4), none, .e (.mov (.t 59))⟩] [4])
            (.ret [4]))))))))))))
theorem p3 : sight Tryz.prog 3 c3 = some (60, [.t 4], c3) := by kernel_rfl
/-- ballast/ballastlaw6.NodeLimits -/
def c4 : AC :=
 (.seq
  (.reg [⟨(some 4), none, .e (.mov (.c (.bool false)))⟩] [0, 1])
  (.seq
   (.seq
    (.reg [⟨(some 10), none, .callV 7 []⟩,
      ⟨(some 11), none, .e (.un .not (.t 10))⟩] [0, 1, 11])
    (.cond (.t 11) []
     (.seq
      (.reg [⟨(some 4), none, .e (.mov (.c (.bool false)))⟩] [4])
      (.ret [4]))
     [0, 1]
     .skip))
   (.seq
    (.reg [⟨(some 12), none, .e (.mov (.t 0))⟩,
      ⟨(some 13), none, .e (.bin .rem (.t 12) (.c (.int .u8 8)))⟩,
      ⟨(some 14), none, .e (.cint .i64 (.t 13))⟩,
      ⟨(some 15), none, .e (.bin .add (.c (.int .i64 28)) (.t 14))⟩,
      ⟨(some 5), none, .e (.mov (.t 15))⟩] [1, 5])
    (.seq
     (.reg [⟨(some 6), none, .e (.mov (.c .nils))⟩] [1, 5, 6])
     (.seq
      (.seq
       (.reg [⟨(some 7), none, .e (.mov (.c (.int .i64 0)))⟩] [1, 5, 6, 7])
       (.block 0
        (.loop [1, 5, 6, 7]
         (.seq
          (.seq
           (.reg [⟨(some 16), none, .e (.mov (.t 7))⟩,
             ⟨(some 17), none, .e (.mov (.t 5))⟩,
             ⟨(some 18), none, .e (.bin .lss (.t 16) (.t 17))⟩] [1, 5, 6, 7, 18])
           (.cond (.t 18) [1, 5, 6, 7]
            .skip
            [1, 5, 6]
            (.exit 0 [1, 5, 6])))
          (.seq
           (.block 1
            (.reg [⟨(some 21), none, .e (.mov (.t 6))⟩,
              ⟨(some 22), none, .e (.mov (.t 7))⟩,
              ⟨(some 23), none, .e (.bin .quo (.t 22) (.c (.int .i64 26)))⟩,
              ⟨(some 24), none, .e (.bin .add (.c (.int .i64 97)) (.t 23))⟩,
              ⟨(some 25), none, .e (.cint .u8 (.t 24))⟩,
              ⟨(some 26), none, .e (.mov (.t 7))⟩,
              ⟨(some 27), none, .e (.bin .rem (.t 26) (.c (.int .i64 26)))⟩,
              ⟨(some 28), none, .e (.bin .add (.c (.int .i64 97)) (.t 27))⟩,
              ⟨(some 29), none, .e (.cint .u8 (.t 28))⟩,
              ⟨(some 30), none, .lit 1 [(.t 25), (.t 29)]⟩,
              ⟨(some 31), none, .e (.bstr (.t 30))⟩,
              ⟨(some 32), none, .e (.bin .add (.c (.str [110])) (.t 31))⟩,
              ⟨(some 33), none, .e (.bld [(.str []), (.int .i64 0)] [(0, 1, (.c (.str [99, 112, 117]))), (1, 1, (.c (.int .i64 1)))])⟩,
              ⟨(some 34), none, .lit 2 [(.t 33)]⟩,
              ⟨(some 35), none, .e (.bld [(.str []), .nils, .nils, .nils, (.bool false)] [(0, 1, (.t 32)), (1, 1, (.t 34))])⟩,
              ⟨(some 36), none, .lit 5 [(.t 35)]⟩,
              ⟨(some 37), none, .app 5 31 96 (.t 21) (.t 36)⟩,
              ⟨(some 6), none, .e (.mov (.t 37))⟩] [1, 5, 6, 7]))
           (.reg [⟨(some 19), none, .e (.mov (.t 7))⟩,
             ⟨(some 20), none, .e (.bin .add (.t 19) (.c (.int .i64 1)))⟩,
             ⟨(some 7), none, .e (.mov (.t 20))⟩] [1, 5, 6, 7]))))))
      (.seq
       (.reg [⟨(some 8), none, .e (.mov (.c (.int .i64 0)))⟩] [1, 5, 6, 8])
       (.seq
        (.seq
         (.reg [⟨(some 38), none, .e (.mov (.t 5))⟩,
           ⟨(some 39), none, .e (.bin .gtr (.t 38) (.c (.int .i64 32)))⟩] [1, 5, 6, 8, 39])
         (.cond (.t 39) [1, 5, 6]
          (.reg [⟨(some 8), none, .e (.mov (.c (.int .i64 4)))⟩] [1, 5, 6, 8])
          [1, 5, 6, 8]
          .skip))
        (.seq
         (.seq
          (.reg [⟨(some 40), none, .e (.mov (.t 6))⟩,
            ⟨(some 41), none, .callO 11 [(.t 40)]⟩,
            ⟨(some 42), none, .e (.mov (.t 8))⟩,
            ⟨(some 43), none, .e (.bin .neq (.t 41) (.t 42))⟩] [1, 5, 6, 8, 43])
          (.cond (.t 43) []
           (.seq
            (.reg [⟨(some 4), none, .e (.mov (.c (.bool false)))⟩] [4])
            (.ret [4]))
           [1, 5, 6, 8]
           .skip))
         (.seq
          (.reg [⟨(some 44), none, .e (.mov (.t 1))⟩,
            ⟨(some 45), none, .e (.cint .i64 (.t 44))⟩,
            ⟨(some 46), none, .e (.mov (.t 5))⟩,
            ⟨(some 47), none, .e (.bin .sub (.t 46) (.c (.int .i64 1)))⟩,
            ⟨(some 48), none, .e (.bin .rem (.t 45) (.t 47))⟩,
            ⟨(some 9), none, .e (.mov (.t 48))⟩] [6, 8, 9])
          (.seq
           (.reg [⟨(some 49), none, .e (.mov (.t 6))⟩,
             ⟨(some 50), none, .e (.mov (.t 9))⟩,
             ⟨(some 51), none, .e (.mov (.t 6))⟩,
             ⟨(some 52), none, .e (.mov (.t 9))⟩,
             ⟨(some 53), none, .e (.bin .add (.t 52) (.c (.int .i64 1)))⟩,
             ⟨(some 54), none, .e (.mov (.t 6))⟩,
             ⟨(some 55), none, .e (.mov (.t 9))⟩,
             ⟨(some 56), none, .e (.bin .add (.t 55) (.c (.int .i64 1)))⟩,
             ⟨(some 57), none, .e (.iad 5 (.t 54) (.t 56))⟩,
             ⟨(some 58), none, .e (.load true 5 (.t 57))⟩,
             ⟨(some 59), none, .e (.mov (.t 6))⟩,
             ⟨(some 60), none, .e (.mov (.t 9))⟩,
             ⟨(some 61), none, .e (.iad 5 (.t 59) (.t 60))⟩,
             ⟨(some 62), none, .e (.load true 5 (.t 61))⟩,
             ⟨(some 63), none, .e (.iad 5 (.t 49) (.t 50))⟩,
             ⟨none, none, .store 5 (.t 63) (.t 58)⟩,
             ⟨(some 64), none, .e (.iad 5 (.t 51) (.t 53))⟩,
             ⟨none, none, .store 5 (.t 64) (.t 62)⟩] [6, 8])
           (.seq
            (.seq
             (.reg [⟨(some 65), none, .e (.mov (.t 8))⟩,
               ⟨(some 66), none, .e (.bin .eql (.t 65) (.c (.int .i64 0)))⟩] [6, 8, 66])
             (.cond (.t 66) [6]
              (.reg [⟨(some 8), none, .e (.mov (.c (.int .i64 13)))⟩] [6, 8])
              [6, 8]
              .skip))
            (.seq
             (.reg [⟨(some 67), none, .e (.mov (.t 6))⟩,
               ⟨(some 68), none, .callO 11 [(.t 67)]⟩,
               ⟨(some 69), none, .e (.mov (.t 8))⟩,
               ⟨(some 70), none, .e (.bin .eql (.t 68) (.t 69))⟩,
               ⟨(some 4), none, .e (.mov (.t 70))⟩] [4])
             (.ret [4])))))))))))))
theorem p4 : sight Tryz.prog 4 c4 = some (71, [.t 4], c4) := by kernel_rfl
/-- ballast/ballastlaw7.PodRows -/
def c5 : AC :=
 (.seq
  (.reg [⟨(some 4), none, .e (.mov (.c (.bool false)))⟩] [0, 1])
  (.seq
   (.seq
    (.reg [⟨(some 12), none, .callV 16 []⟩,
      ⟨(some 13), none, .e (.un .not (.t 12))⟩] [0, 1, 13])
    (.cond (.t 13) []
     (.seq
      (.reg [⟨(some 4), none, .e (.mov (.c (.bool false)))⟩] [4])
      (.ret [4]))
     [0, 1]
     .skip))
   (.seq
    (.seq
     (.reg [⟨(some 14), none, .e (.mov (.t 0))⟩,
       ⟨(some 15), none, .e (.lenL (.t 14))⟩,
       ⟨(some 16), none, .e (.bin .gtr (.t 15) (.c (.int .i64 140)))⟩] [0, 1, 16])
     (.cond (.t 16) []
      (.seq
       (.reg [⟨(some 4), none, .e (.mov (.c (.bool true)))⟩] [4])
       (.ret [4]))
      [0, 1]
      .skip))
    (.seq
     (.seq
      (.reg [⟨(some 5), none, .e (.mov (.c (.int .i64 0)))⟩] [0, 1, 5])
      (.block 0
       (.loop [0, 1, 5]
        (.seq
         (.seq
          (.reg [⟨(some 17), none, .e (.mov (.t 5))⟩,
            ⟨(some 18), none, .e (.mov (.t 0))⟩,
            ⟨(some 19), none, .e (.lenL (.t 18))⟩,
            ⟨(some 20), none, .e (.bin .lss (.t 17) (.t 19))⟩] [0, 1, 5, 20])
          (.cond (.t 20) [0, 1, 5]
           .skip
           [0, 1]
           (.exit 0 [0, 1])))
         (.seq
          (.block 1
           (.seq
            (.reg [⟨(some 23), none, .e (.mov (.t 0))⟩,
              ⟨(some 24), none, .e (.mov (.t 5))⟩,
              ⟨(some 25), none, .e (.iad 11 (.t 23) (.t 24))⟩,
              ⟨(some 26), none, .e (.load true 11 (.t 25))⟩,
              ⟨(some 27), none, .callV 17 [(.t 26)]⟩,
              ⟨(some 28), none, .e (.un .not (.t 27))⟩] [0, 1, 5, 28])
            (.cond (.t 28) []
             (.seq
              (.reg [⟨(some 4), none, .e (.mov (.c (.bool true)))⟩] [4])
              (.ret [4]))
             [0, 1, 5]
             .skip)))
          (.reg [⟨(some 21), none, .e (.mov (.t 5))⟩,
            ⟨(some 22), none, .e (.bin .add (.t 21) (.c (.int .i64 1)))⟩,
            ⟨(some 5), none, .e (.mov (.t 22))⟩] [0, 1, 5]))))))
     (.seq
      (.reg [⟨(some 29), none, .e (.mov (.t 0))⟩,
        ⟨(some 30), none, .callV 18 [(.t 29)]⟩,
        ⟨(some 6), none, .e (.mov (.t 30))⟩] [0, 1, 6])
      (.seq
       (.reg [⟨(some 31), none, .e (.mov (.t 6))⟩,
         ⟨(some 32), none, .callV 19 [(.t 31)]⟩,
         ⟨(some 7), none, .e (.mov (.t 32))⟩] [0, 1, 6, 7])
       (.seq
        (.seq
         (.reg [⟨(some 33), none, .e (.mov (.t 0))⟩,
           ⟨(some 34), none, .callV 20 [(.t 33)]⟩,
           ⟨(some 35), none, .e (.mov (.t 7))⟩,
           ⟨(some 36), none, .e (.bin .neq (.t 34) (.t 35))⟩] [0, 1, 6, 7, 36])
         (.cond (.t 36) []
          (.seq
           (.reg [⟨(some 4), none, .e (.mov (.c (.bool false)))⟩] [4])
           (.ret [4]))
          [0, 1, 6, 7]
          .skip))
        (.seq
         (.seq
          (.reg [⟨(some 37), none, .e (.mov (.t 7))⟩,
            ⟨(some 38), none, .e (.bin .neq (.t 37) (.c (.int .i64 0)))⟩] [0, 1, 6, 38])
          (.cond (.t 38) []
           (.seq
            (.reg [⟨(some 4), none, .e (.mov (.c (.bool true)))⟩] [4])
            (.ret [4]))
           [0, 1, 6]
           .skip))
         (.seq
          (.reg [⟨(some 40), none, .e (.mov (.t 0))⟩,
            ⟨(some 41), none, .e (.mov (.t 1))⟩,
            ⟨(some 42), none, .callV 21 [(.t 40), (.t 41)]⟩,
            ⟨(some 39), none, .e (.mov (.t 42))⟩,
            ⟨(some 43), none, .e (.ext (.t 39) 0)⟩,
            ⟨(some 44), none, .e (.ext (.t 39) 1)⟩,
            ⟨(some 8), none, .alloc 11 59 (.agg [(.str []), (.str []), (.int .i64 0), .nils, .nils, .nils, .nils, (.str []), (.int .i64 0), (.str []), (.bool false)])⟩,
            ⟨none, none, .store 11 (.t 8) (.t 43)⟩,
            ⟨(some 9), none, .e (.mov (.t 44))⟩] [1, 6, 8, 9])
          (.seq
           (.reg [⟨(some 46), none, .e (.mov (.t 6))⟩,
             ⟨(some 47), none, .e (.mov (.t 1))⟩,
             ⟨(some 48), none, .callV 22 [(.t 46), (.t 47)]⟩,
             ⟨(some 45), none, .e (.mov (.t 48))⟩,
             ⟨(some 49), none, .e (.ext (.t 45) 0)⟩,
             ⟨(some 50), none, .e (.ext (.t 45) 1)⟩,
             ⟨(some 10), none, .alloc 11 69 (.agg [(.str []), (.str []), (.int .i64 0), .nils, .nils, .nils, .nils, (.str []), (.int .i64 0), (.str []), (.bool false)])⟩,
             ⟨none, none, .store 11 (.t 10) (.t 49)⟩,
             ⟨(some 11), none, .e (.mov (.t 50))⟩] [8, 9, 10, 11])
           (.seq
            (.reg [⟨(some 51), none, .e (.mov (.t 9))⟩,
              ⟨(some 52), none, .e (.mov (.t 11))⟩,
              ⟨(some 53), none, .e (.binB .eql (.t 51) (.t 52))⟩,
              ⟨(some 54), none, .e (.mov (.t 53))⟩,
              ⟨(some 55), (some (54, true)), .e (.load true 11 (.t 8))⟩,
              ⟨(some 56), (some (54, true)), .callV 24 [(.t 55)]⟩,
              ⟨(some 57), (some (54, true)), .e (.load true 11 (.t 10))⟩,
              ⟨(some 58), (some (54, true)), .callV 23 [(.t 56), (.t 57)]⟩,
              ⟨(some 59), none, .e (.pick (.t 54) (.t 58) (.c (.bool false)))⟩,
              ⟨(some 4), none, .e (.mov (.t 59))⟩] [4])
            (.ret [4]))))))))))))
theorem p5 : sight Tryz.prog 5 c5 = some (60, [.t 4], c5) := by kernel_rfl
/-- ballast/ballastlaw7.PodTells -/
def c6 : AC :=
 (.seq
  (.reg [⟨(some 2), none, .box 11 59 (.t 0)⟩,
    ⟨(some 3), none, .box 11 59 (.t 1)⟩,
    ⟨(some 4), none, .e (.mov (.c (.bool false)))⟩] [2, 3])
  (.seq
   (.seq
    (.reg [⟨(some 5), none, .callV 16 []⟩,
      ⟨(some 6), none, .e (.un .not (.t 5))⟩] [2, 3, 6])
    (.cond (.t 6) []
     (.seq
      (.reg [⟨(some 4), none, .e (.mov (.c (.bool false)))⟩] [4])
      (.ret [4]))
     [2, 3]
     .skip))
   (.seq
    (.seq
     (.reg [⟨(some 7), none, .e (.load true 11 (.t 2))⟩,
       ⟨(some 8), none, .callV 17 [(.t 7)]⟩,
       ⟨(some 9), none, .e (.un .not (.t 8))⟩,
       ⟨(some 10), none, .e (.mov (.t 9))⟩,
       ⟨(some 11), (some (10, false)), .e (.load true 11 (.t 3))⟩,
       ⟨(some 12), (some (10, false)), .callV 17 [(.t 11)]⟩,
       ⟨(some 13), (some (10, false)), .e (.un .not (.t 12))⟩,
       ⟨(some 14), none, .e (.pick (.t 10) (.c (.bool true)) (.t 13))⟩,
       ⟨(some 15), none, .e (.mov (.t 14))⟩,
       ⟨(some 16), (some (15, false)), .e (.load true 11 (.t 2))⟩,
       ⟨(some 17), (some (15, false)), .callV 24 [(.t 16)]⟩,
       ⟨(some 18), (some (15, false)), .callV 25 [(.t 17)]⟩,
       ⟨(some 19), (some (15, false)), .e (.bin .neq (.t 18) (.c (.int .i64 0)))⟩,
       ⟨(some 20), none, .e (.pick (.t 15) (.c (.bool true)) (.t 19))⟩,
       ⟨(some 21), none, .e (.mov (.t 20))⟩,
       ⟨(some 22), (some (21, false)), .e (.load true 11 (.t 3))⟩,
       ⟨(some 23), (some (21, false)), .callV 24 [(.t 22)]⟩,
       ⟨(some 24), (some (21, false)), .callV 25 [(.t 23)]⟩,
       ⟨(some 25), (some (21, false)), .e (.bin .neq (.t 24) (.c (.int .i64 0)))⟩,
       ⟨(some 26), none, .e (.pick (.t 21) (.c (.bool true)) (.t 25))⟩] [2, 3, 26])
     (.cond (.t 26) []
      (.seq
       (.reg [⟨(some 4), none, .e (.mov (.c (.bool true)))⟩] [4])
       (.ret [4]))
      [2, 3]
      .skip))
    (.seq
     (.reg [⟨(some 27), none, .e (.load true 11 (.t 2))⟩,
       ⟨(some 28), none, .callV 26 [(.t 27)]⟩,
       ⟨(some 29), none, .e (.load true 11 (.t 3))⟩,
       ⟨(some 30), none, .callV 26 [(.t 29)]⟩,
       ⟨(some 31), none, .e (.bin .eql (.t 28) (.t 30))⟩,
       ⟨(some 32), none, .e (.load true 11 (.t 2))⟩,
       ⟨(some 33), none, .e (.load true 11 (.t 3))⟩,
       ⟨(some 34), none, .callV 27 [(.t 32), (.t 33)]⟩,
       ⟨(some 35), none, .e (.binB .eql (.t 31) (.t 34))⟩,
       ⟨(some 4), none, .e (.mov (.t 35))⟩] [4])
     (.ret [4])))))
theorem p6 : sight Tryz.prog 6 c6 = some (36, [.t 4], c6) := by kernel_rfl
/-- ballast/ballastlaw6.known -/
def c7 : AC :=
 (.seq
  (.reg [⟨(some 0), none, .e (.mov (.c (.bool false)))⟩] [])
  (.seq
   (.reg [⟨(some 16), none, .callV 28 [(.c (.str [110, 49, 32, 99, 112, 117, 61, 49, 48, 48, 44, 109, 101, 109, 61, 56, 32, 122, 111, 110, 101, 58, 97, 32, 103, 112, 117, 58, 121, 101, 115, 33, 32, 117, 112]))]⟩,
     ⟨(some 15), none, .e (.mov (.t 16))⟩,
     ⟨(some 17), none, .e (.ext (.t 15) 0)⟩,
     ⟨(some 18), none, .e (.ext (.t 15) 1)⟩,
     ⟨(some 1), none, .alloc 5 31 (.agg [(.str []), .nils, .nils, .nils, (.bool false)])⟩,
     ⟨none, none, .store 5 (.t 1) (.t 17)⟩,
     ⟨(some 2), none, .e (.mov (.t 18))⟩] [1, 2])
   (.seq
    (.reg [⟨(some 20), none, .callV 28 [(.c (.str [110, 50, 32, 45, 32, 45, 32, 45, 32, 99, 111, 114, 100, 111, 110]))]⟩,
      ⟨(some 19), none, .e (.mov (.t 20))⟩,
      ⟨(some 21), none, .e (.ext (.t 19) 0)⟩,
      ⟨(some 22), none, .e (.ext (.t 19) 1)⟩,
      ⟨(some 3), none, .alloc 5 31 (.agg [(.str []), .nils, .nils, .nils, (.bool false)])⟩,
      ⟨none, none, .store 5 (.t 3) (.t 21)⟩,
      ⟨(some 4), none, .e (.mov (.t 22))⟩] [1, 2, 3, 4])
    (.seq
     (.reg [⟨(some 24), none, .callV 28 [(.c (.str [110, 49, 32, 45, 32, 45, 32, 45, 32, 100, 111, 119, 110]))]⟩,
       ⟨(some 23), none, .e (.mov (.t 24))⟩,
       ⟨(some 25), none, .e (.ext (.t 23) 0)⟩,
       ⟨(some 26), none, .e (.ext (.t 23) 1)⟩,
       ⟨(some 5), none, .alloc 5 31 (.agg [(.str []), .nils, .nils, .nils, (.bool false)])⟩,
       ⟨none, none, .store 5 (.t 5) (.t 25)⟩,
       ⟨(some 6), none, .e (.mov (.t 26))⟩] [1, 2, 3, 4, 6])
     (.seq
      (.reg [⟨(some 28), none, .callV 28 [(.c (.str [110, 49, 32, 99, 112, 117, 61, 48, 32, 45, 32, 45, 32, 117, 112]))]⟩,
        ⟨(some 27), none, .e (.mov (.t 28))⟩,
        ⟨(some 29), none, .e (.ext (.t 27) 0)⟩,
        ⟨(some 30), none, .e (.ext (.t 27) 1)⟩,
        ⟨(some 7), none, .alloc 5 31 (.agg [(.str []), .nils, .nils, .nils, (.bool false)])⟩,
        ⟨none, none, .store 5 (.t 7) (.t 29)⟩,
        ⟨(some 8), none, .e (.mov (.t 30))⟩] [1, 2, 3, 4, 6, 8])
      (.seq
       (.reg [⟨(some 32), none, .callV 28 [(.c (.str [78, 49, 32, 45, 32, 45, 32, 45, 32, 117, 112]))]⟩,
         ⟨(some 31), none, .e (.mov (.t 32))⟩,
         ⟨(some 33), none, .e (.ext (.t 31) 0)⟩,
         ⟨(some 34), none, .e (.ext (.t 31) 1)⟩,
         ⟨(some 9), none, .alloc 5 31 (.agg [(.str []), .nils, .nils, .nils, (.bool false)])⟩,
         ⟨none, none, .store 5 (.t 9) (.t 33)⟩,
         ⟨(some 10), none, .e (.mov (.t 34))⟩] [1, 2, 3, 4, 6, 8, 10])
       (.seq
        (.reg [⟨(some 36), none, .e (.load true 5 (.t 1))⟩,
          ⟨(some 37), none, .e (.load true 5 (.t 3))⟩,
          ⟨(some 38), none, .lit 5 [(.t 36), (.t 37)]⟩,
          ⟨(some 39), none, .callV 12 [(.t 38), (.c (.str [110, 50]))]⟩,
          ⟨(some 35), none, .e (.mov (.t 39))⟩,
          ⟨(some 40), none, .e (.ext (.t 35) 0)⟩,
          ⟨(some 41), none, .e (.ext (.t 35) 1)⟩,
          ⟨(some 11), none, .alloc 5 31 (.agg [(.str []), .nils, .nils, .nils, (.bool false)])⟩,
          ⟨none, none, .store 5 (.t 11) (.t 40)⟩,
          ⟨(some 12), none, .e (.mov (.t 41))⟩] [1, 2, 3, 4, 6, 8, 10, 11, 12])
        (.seq
         (.reg [⟨(some 43), none, .e (.load true 5 (.t 1))⟩,
           ⟨(some 44), none, .e (.load true 5 (.t 3))⟩,
           ⟨(some 45), none, .lit 5 [(.t 43), (.t 44)]⟩,
           ⟨(some 46), none, .callV 12 [(.t 45), (.c (.str [110, 51]))]⟩,
           ⟨(some 42), none, .e (.mov (.t 46))⟩,
           ⟨(some 47), none, .e (.ext (.t 42) 0)⟩,
           ⟨(some 48), none, .e (.ext (.t 42) 1)⟩,
           ⟨(some 13), none, .alloc 5 31 (.agg [(.str []), .nils, .nils, .nils, (.bool false)])⟩,
           ⟨none, none, .store 5 (.t 13) (.t 47)⟩,
           ⟨(some 14), none, .e (.mov (.t 48))⟩] [1, 2, 3, 4, 6, 8, 10, 11, 12, 14])
         (.seq
          (.reg [⟨(some 49), none, .e (.mov (.t 2))⟩,
            ⟨(some 50), none, .e (.mov (.t 4))⟩,
            ⟨(some 51), none, .e (.bin .add (.t 49) (.t 50))⟩,
            ⟨(some 52), none, .e (.bin .eql (.t 51) (.c (.int .i64 0)))⟩,
            ⟨(some 53), none, .e (.mov (.t 52))⟩,
            ⟨(some 54), (some (53, true)), .e (.load true 5 (.t 1))⟩,
            ⟨(some 55), (some (53, true)), .callV 29 [(.t 54)]⟩,
            ⟨(some 56), (some (53, true)), .e (.bin .eql (.t 55) (.c (.str [110, 49, 32, 99, 112, 117, 61, 49, 48, 48, 44, 109, 101, 109, 61, 56, 32, 122, 111, 110, 101, 58, 97, 32, 103, 112, 117, 58, 121, 101, 115, 33, 32, 117, 112])))⟩,
            ⟨(some 57), none, .e (.pick (.t 53) (.t 56) (.c (.bool false)))⟩,
            ⟨(some 58), none, .e (.mov (.t 57))⟩,
            ⟨(some 59), (some (58, true)), .e (.fad 4 (.t 3))⟩,
            ⟨(some 60), (some (58, true)), .e (.load false 1 (.t 59))⟩,
            ⟨(some 61), none, .e (.pick (.t 58) (.t 60) (.c (.bool false)))⟩,
            ⟨(some 62), none, .e (.mov (.t 61))⟩,
            ⟨(some 63), (some (62, true)), .e (.load true 5 (.t 11))⟩,
            ⟨(some 64), (some (62, true)), .e (.load true 5 (.t 3))⟩,
            ⟨(some 65), (some (62, true)), .callV 30 [(.t 63), (.t 64)]⟩,
            ⟨(some 66), none, .e (.pick (.t 62) (.t 65) (.c (.bool false)))⟩,
            ⟨(some 67), none, .e (.mov (.t 66))⟩,
            ⟨(some 68), (some (67, true)), .e (.load true 5 (.t 1))⟩,
            ⟨(some 69), (some (67, true)), .e (.load true 5 (.t 3))⟩,
            ⟨(some 70), (some (67, true)), .callV 30 [(.t 68), (.t 69)]⟩,
            ⟨(some 71), (some (67, true)), .e (.un .not (.t 70))⟩,
            ⟨(some 72), none, .e (.pick (.t 67) (.t 71) (.c (.bool false)))⟩,
            ⟨(some 73), none, .e (.mov (.t 72))⟩,
            ⟨(some 74), (some (73, true)), .e (.mov (.t 12))⟩,
            ⟨(some 75), none, .e (.pick (.t 73) (.t 74) (.c (.bool false)))⟩,
            ⟨(some 76), none, .e (.mov (.t 75))⟩,
            ⟨(some 77), (some (76, true)), .e (.mov (.t 14))⟩,
            ⟨(some 78), (some (76, true)), .e (.un .not (.t 77))⟩,
            ⟨(some 79), none, .e (.pick (.t 76) (.t 78) (.c (.bool false)))⟩,
            ⟨(some 80), none, .e (.mov (.t 79))⟩,
            ⟨(some 81), (some (80, true)), .e (.mov (.t 6))⟩,
            ⟨(some 82), (some (80, true)), .e (.bin .eql (.t 81) (.c (.int .i64 2)))⟩,
            ⟨(some 83), none, .e (.pick (.t 80) (.t 82) (.c (.bool false)))⟩,
            ⟨(some 84), none, .e (.mov (.t 83))⟩,
            ⟨(some 85), (some (84, true)), .e (.mov (.t 8))⟩,
            ⟨(some 86), (some (84, true)), .e (.bin .eql (.t 85) (.c (.int .i64 1)))⟩,
            ⟨(some 87), none, .e (.pick (.t 84) (.t 86) (.c (.bool false)))⟩,
            ⟨(some 88), none, .e (.mov (.t 87))⟩,
            ⟨(some 89), (some (88, true)), .e (.mov (.t 10))⟩,
            ⟨(some 90), (some (88, true)), .e (.bin .eql (.t 89) (.c (.int .i64 3)))⟩,
            ⟨(some 91), none, .e (.pick (.t 88) (.t 90) (.c (.bool false)))⟩,
            ⟨(some 92), none, .e (.mov (.t 91))⟩,
            ⟨(some 93), (some (92, true)), .e (.load true 5 (.t 1))⟩,
            ⟨(some 94), (some (92, true)), .callV 31 [(.t 93)]⟩,
            ⟨(some 95), (some (92, true)), .e (.bin .eql (.t 94) (.c (.int .i64 0)))⟩,
            ⟨(some 96), none, .e (.pick (.t 92) (.t 95) (.c (.bool false)))⟩,
            ⟨(some 97), none, .e (.mov (.t 96))⟩,
            ⟨(some 98), (some (97, true)), .e (.load true 5 (.t 1))⟩,
            ⟨(some 99), (some (97, true)), .e (.load true 5 (.t 3))⟩,
            ⟨(some 100), (some (97, true)), .lit 5 [(.t 98), (.t 99)]⟩,
            ⟨(some 101), (some (97, true)), .callV 11 [(.t 100)]⟩,
            ⟨(some 102), (some (97, true)), .e (.bin .eql (.t 101) (.c (.int .i64 0)))⟩,
            ⟨(some 103), none, .e (.pick (.t 97) (.t 102) (.c (.bool false)))⟩,
            ⟨(some 104), none, .e (.mov (.t 103))⟩,
            ⟨(some 105), (some (104, true)), .e (.load true 5 (.t 3))⟩,
            ⟨(some 106), (some (104, true)), .e (.load true 5 (.t 1))⟩,
            ⟨(some 107), (some (104, true)), .lit 5 [(.t 105), (.t 106)]⟩,
            ⟨(some 108), (some (104, true)), .callV 11 [(.t 107)]⟩,
            ⟨(some 109), (some (104, true)), .e (.bin .eql (.t 108) (.c (.int .i64 13)))⟩,
            ⟨(some 110), none, .e (.pick (.t 104) (.t 109) (.c (.bool false)))⟩,
            ⟨(some 0), none, .e (.mov (.t 110))⟩] [0])
          (.ret [0]))))))))))
theorem p7 : sight Tryz.prog 7 c7 = some (111, [.t 0], c7) := by kernel_rfl
/-- ballast/ballastlaw6.Few -/
def c8 : AC :=
 (.seq
  (.reg [⟨(some 1), none, .box 5 31 (.t 0)⟩,
    ⟨(some 2), none, .e (.mov (.c (.bool false)))⟩] [1])
  (.seq
   (.reg [⟨(some 3), none, .e (.fad 0 (.t 1))⟩,
     ⟨(some 4), none, .e (.load false 1 (.t 3))⟩,
     ⟨(some 5), none, .e (.lenS (.t 4))⟩,
     ⟨(some 6), none, .e (.bin .leq (.t 5) (.c (.int .i64 50)))⟩,
     ⟨(some 7), none, .e (.mov (.t 6))⟩,
     ⟨(some 8), (some (7, true)), .e (.fad 1 (.t 1))⟩,
     ⟨(some 9), (some (7, true)), .e (.load false 1 (.t 8))⟩,
     ⟨(some 10), (some (7, true)), .callV 32 [(.t 9)]⟩,
     ⟨(some 11), none, .e (.pick (.t 7) (.t 10) (.c (.bool false)))⟩,
     ⟨(some 12), none, .e (.mov (.t 11))⟩,
     ⟨(some 13), (some (12, true)), .e (.fad 2 (.t 1))⟩,
     ⟨(some 14), (some (12, true)), .e (.load false 1 (.t 13))⟩,
     ⟨(some 15), (some (12, true)), .callV 33 [(.t 14)]⟩,
     ⟨(some 16), none, .e (.pick (.t 12) (.t 15) (.c (.bool false)))⟩,
     ⟨(some 17), none, .e (.mov (.t 16))⟩,
     ⟨(some 18), (some (17, true)), .e (.fad 3 (.t 1))⟩,
     ⟨(some 19), (some (17, true)), .e (.load false 1 (.t 18))⟩,
     ⟨(some 20), (some (17, true)), .callV 34 [(.t 19)]⟩,
     ⟨(some 21), none, .e (.pick (.t 17) (.t 20) (.c (.bool false)))⟩,
     ⟨(some 2), none, .e (.mov (.t 21))⟩] [2])
   (.ret [2])))
theorem p8 : sight Tryz.prog 8 c8 = some (22, [.t 2], c8) := by kernel_rfl
/-- ballast/ballastlaw6.OfAll -/
def c9 : AC :=
 (.seq
  (.reg [⟨(some 2), none, .e (.mov (.c .nils))⟩] [0])
  (.seq
   (.reg [⟨(some 3), none, .e (.mov (.c .nils))⟩] [0, 3])
   (.seq
    (.seq
     (.reg [⟨(some 4), none, .e (.mov (.c (.int .i64 0)))⟩] [0, 3, 4])
     (.block 0
      (.loop [0, 3, 4]
       (.seq
        (.seq
         (.reg [⟨(some 5), none, .e (.mov (.t 4))⟩,
           ⟨(some 6), none, .e (.mov (.t 0))⟩,
           ⟨(some 7), none, .e (.lenL (.t 6))⟩,
           ⟨(some 8), none, .e (.bin .lss (.t 5) (.t 7))⟩] [0, 3, 4, 8])
         (.cond (.t 8) [0, 3, 4]
          .skip
          [3]
          (.exit 0 [3])))
        (.seq
         (.block 1
          (.reg [⟨(some 11), none, .e (.mov (.t 3))⟩,
            ⟨(some 12), none, .e (.mov (.t 0))⟩,
            ⟨(some 13), none, .e (.mov (.t 4))⟩,
            ⟨(some 14), none, .e (.iad 5 (.t 12) (.t 13))⟩,
            ⟨(some 15), none, .e (.load true 5 (.t 14))⟩,
            ⟨(some 16), none, .callV 15 [(.t 15)]⟩,
            ⟨(some 17), none, .lit 5 [(.t 16)]⟩,
            ⟨(some 18), none, .app 5 43 96 (.t 11) (.t 17)⟩,
            ⟨(some 3), none, .e (.mov (.t 18))⟩] [0, 3, 4]))
         (.reg [⟨(some 9), none, .e (.mov (.t 4))⟩,
           ⟨(some 10), none, .e (.bin .add (.t 9) (.c (.int .i64 1)))⟩,
           ⟨(some 4), none, .e (.mov (.t 10))⟩] [0, 3, 4]))))))
    (.seq
     (.reg [⟨(some 19), none, .e (.mov (.t 3))⟩,
       ⟨(some 2), none, .e (.mov (.t 19))⟩] [2])
     (.ret [2])))))
theorem p9 : sight Tryz.prog 9 c9 = some (20, [.t 2], c9) := by kernel_rfl
/-- ballast/ballastlaw6.Of -/
def c15 : AC :=
 (.seq
  (.reg [⟨(some 1), none, .box 5 31 (.t 0)⟩,
    ⟨(some 2), none, .alloc 5 43 (.agg [(.str []), .nils, .nils, .nils, (.bool false)])⟩] [1, 2])
  (.seq
   (.reg [⟨(some 3), none, .e (.fad 0 (.t 1))⟩,
     ⟨(some 4), none, .e (.load false 1 (.t 3))⟩,
     ⟨(some 5), none, .e (.fad 1 (.t 1))⟩,
     ⟨(some 6), none, .e (.load false 1 (.t 5))⟩,
     ⟨(some 7), none, .callV 41 [(.t 6)]⟩,
     ⟨(some 8), none, .e (.fad 2 (.t 1))⟩,
     ⟨(some 9), none, .e (.load false 1 (.t 8))⟩,
     ⟨(some 10), none, .callV 42 [(.t 9)]⟩,
     ⟨(some 11), none, .e (.fad 3 (.t 1))⟩,
     ⟨(some 12), none, .e (.load false 1 (.t 11))⟩,
     ⟨(some 13), none, .callV 43 [(.t 12)]⟩,
     ⟨(some 14), none, .e (.fad 4 (.t 1))⟩,
     ⟨(some 15), none, .e (.load false 1 (.t 14))⟩,
     ⟨(some 16), none, .e (.bld [(.str []), .nils, .nils, .nils, (.bool false)] [(0, 1, (.t 4)), (1, 1, (.t 7)), (2, 1, (.t 10)), (3, 1, (.t 13)), (4, 1, (.t 15))])⟩,
     ⟨none, none, .store 5 (.t 2) (.t 16)⟩] [2])
   (.ret [2])))
theorem p15 : sight Tryz.prog 15 c15 = some (17, [.c 2 true 5], c15) := by kernel_rfl
/-- ballast/ballastlaw7.known -/
def c16 : AC :=
 (.seq
  (.reg [⟨(some 0), none, .e (.mov (.c (.bool false)))⟩] [])
  (.seq
   (.reg [⟨(some 14), none, .callV 44 [(.c (.str [112, 49, 32, 119, 101, 98, 32, 49, 48, 32, 99, 112, 117, 61, 53, 32, 97, 112, 112, 58, 119, 101, 98, 32, 122, 111, 110, 101, 58, 97, 32, 103, 112, 117, 32, 122, 111, 110, 101, 47, 50, 32, 110, 49, 32, 114, 101, 97, 108]))]⟩,
     ⟨(some 13), none, .e (.mov (.t 14))⟩,
     ⟨(some 15), none, .e (.ext (.t 13) 0)⟩,
     ⟨(some 16), none, .e (.ext (.t 13) 1)⟩,
     ⟨(some 1), none, .alloc 11 59 (.agg [(.str []), (.str []), (.int .i64 0), .nils, .nils, .nils, .nils, (.str []), (.int .i64 0), (.str []), (.bool false)])⟩,
     ⟨none, none, .store 11 (.t 1) (.t 15)⟩,
     ⟨(some 2), none, .e (.mov (.t 16))⟩] [1, 2])
   (.seq
    (.reg [⟨(some 18), none, .callV 44 [(.c (.str [104, 111, 108, 100, 48, 32, 45, 32, 45, 49, 32, 99, 112, 117, 61, 53, 32, 45, 32, 45, 32, 45, 32, 45, 32, 110, 49, 32, 104, 111, 108, 100]))]⟩,
      ⟨(some 17), none, .e (.mov (.t 18))⟩,
      ⟨(some 19), none, .e (.ext (.t 17) 0)⟩,
      ⟨(some 20), none, .e (.ext (.t 17) 1)⟩,
      ⟨(some 3), none, .alloc 11 59 (.agg [(.str []), (.str []), (.int .i64 0), .nils, .nils, .nils, .nils, (.str []), (.int .i64 0), (.str []), (.bool false)])⟩,
      ⟨none, none, .store 11 (.t 3) (.t 19)⟩,
      ⟨(some 4), none, .e (.mov (.t 20))⟩] [1, 2, 3, 4])
    (.seq
     (.reg [⟨(some 22), none, .callV 44 [(.c (.str [112, 49, 32, 45, 32, 49, 32, 45, 32, 45, 32, 45, 32, 45, 32, 122, 111, 110, 101, 32, 110, 49, 32, 114, 101, 97, 108]))]⟩,
       ⟨(some 21), none, .e (.mov (.t 22))⟩,
       ⟨(some 23), none, .e (.ext (.t 21) 0)⟩,
       ⟨(some 24), none, .e (.ext (.t 21) 1)⟩,
       ⟨(some 5), none, .alloc 11 59 (.agg [(.str []), (.str []), (.int .i64 0), .nils, .nils, .nils, .nils, (.str []), (.int .i64 0), (.str []), (.bool false)])⟩,
       ⟨none, none, .store 11 (.t 5) (.t 23)⟩,
       ⟨(some 6), none, .e (.mov (.t 24))⟩] [1, 2, 3, 4, 6])
     (.seq
      (.reg [⟨(some 26), none, .callV 44 [(.c (.str [112, 49, 32, 45, 32, 45, 49, 32, 45, 32, 45, 32, 45, 32, 45, 32, 45, 32, 110, 49, 32, 114, 101, 97, 108]))]⟩,
        ⟨(some 25), none, .e (.mov (.t 26))⟩,
        ⟨(some 27), none, .e (.ext (.t 25) 0)⟩,
        ⟨(some 28), none, .e (.ext (.t 25) 1)⟩,
        ⟨(some 7), none, .alloc 11 59 (.agg [(.str []), (.str []), (.int .i64 0), .nils, .nils, .nils, .nils, (.str []), (.int .i64 0), (.str []), (.bool false)])⟩,
        ⟨none, none, .store 11 (.t 7) (.t 27)⟩,
        ⟨(some 8), none, .e (.mov (.t 28))⟩] [1, 2, 3, 4, 6, 8])
      (.seq
       (.reg [⟨(some 30), none, .callV 44 [(.c (.str [112, 49, 32, 45, 32, 49, 32, 45, 32, 45, 32, 45, 32, 45, 32, 122, 111, 110, 101, 47, 48, 32, 110, 49, 32, 114, 101, 97, 108]))]⟩,
         ⟨(some 29), none, .e (.mov (.t 30))⟩,
         ⟨(some 31), none, .e (.ext (.t 29) 0)⟩,
         ⟨(some 32), none, .e (.ext (.t 29) 1)⟩,
         ⟨(some 9), none, .alloc 11 59 (.agg [(.str []), (.str []), (.int .i64 0), .nils, .nils, .nils, .nils, (.str []), (.int .i64 0), (.str []), (.bool false)])⟩,
         ⟨none, none, .store 11 (.t 9) (.t 31)⟩,
         ⟨(some 10), none, .e (.mov (.t 32))⟩] [1, 2, 3, 4, 6, 8, 10])
       (.seq
        (.reg [⟨(some 34), none, .e (.load true 11 (.t 3))⟩,
          ⟨(some 35), none, .e (.load true 11 (.t 1))⟩,
          ⟨(some 36), none, .lit 11 [(.t 34), (.t 35)]⟩,
          ⟨(some 37), none, .callV 21 [(.t 36), (.c (.str [112, 49]))]⟩,
          ⟨(some 33), none, .e (.mov (.t 37))⟩,
          ⟨(some 38), none, .e (.ext (.t 33) 0)⟩,
          ⟨(some 39), none, .e (.ext (.t 33) 1)⟩,
          ⟨(some 11), none, .alloc 11 59 (.agg [(.str []), (.str []), (.int .i64 0), .nils, .nils, .nils, .nils, (.str []), (.int .i64 0), (.str []), (.bool false)])⟩,
          ⟨none, none, .store 11 (.t 11) (.t 38)⟩,
          ⟨(some 12), none, .e (.mov (.t 39))⟩] [1, 2, 3, 4, 6, 8, 10, 11, 12])
        (.seq
         (.reg [⟨(some 40), none, .e (.mov (.t 2))⟩,
           ⟨(some 41), none, .e (.mov (.t 4))⟩,
           ⟨(some 42), none, .e (.bin .add (.t 40) (.t 41))⟩,
           ⟨(some 43), none, .e (.bin .eql (.t 42) (.c (.int .i64 0)))⟩,
           ⟨(some 44), none, .e (.mov (.t 43))⟩,
           ⟨(some 45), (some (44, true)), .e (.fad 1 (.t 1))⟩,
           ⟨(some 46), (some (44, true)), .e (.load false 1 (.t 45))⟩,
           ⟨(some 47), (some (44, true)), .e (.bin .eql (.t 46) (.c (.str [119, 101, 98])))⟩,
           ⟨(some 48), none, .e (.pick (.t 44) (.t 47) (.c (.bool false)))⟩,
           ⟨(some 49), none, .e (.mov (.t 48))⟩,
           ⟨(some 50), (some (49, true)), .e (.fad 2 (.t 1))⟩,
           ⟨(some 51), (some (49, true)), .e (.load false 1 (.t 50))⟩,
           ⟨(some 52), (some (49, true)), .e (.bin .eql (.t 51) (.c (.int .i64 10)))⟩,
           ⟨(some 53), none, .e (.pick (.t 49) (.t 52) (.c (.bool false)))⟩,
           ⟨(some 54), none, .e (.mov (.t 53))⟩,
           ⟨(some 55), (some (54, true)), .e (.fad 7 (.t 1))⟩,
           ⟨(some 56), (some (54, true)), .e (.load false 1 (.t 55))⟩,
           ⟨(some 57), (some (54, true)), .e (.bin .eql (.t 56) (.c (.str [122, 111, 110, 101])))⟩,
           ⟨(some 58), none, .e (.pick (.t 54) (.t 57) (.c (.bool false)))⟩,
           ⟨(some 59), none, .e (.mov (.t 58))⟩,
           ⟨(some 60), (some (59, true)), .e (.fad 8 (.t 1))⟩,
           ⟨(some 61), (some (59, true)), .e (.load false 1 (.t 60))⟩,
           ⟨(some 62), (some (59, true)), .e (.bin .eql (.t 61) (.c (.int .i64 2)))⟩,
           ⟨(some 63), none, .e (.pick (.t 59) (.t 62) (.c (.bool false)))⟩,
           ⟨(some 64), none, .e (.mov (.t 63))⟩,
           ⟨(some 65), (some (64, true)), .e (.fad 9 (.t 1))⟩,
           ⟨(some 66), (some (64, true)), .e (.load false 1 (.t 65))⟩,
           ⟨(some 67), (some (64, true)), .e (.bin .eql (.t 66) (.c (.str [110, 49])))⟩,
           ⟨(some 68), none, .e (.pick (.t 64) (.t 67) (.c (.bool false)))⟩,
           ⟨(some 69), none, .e (.mov (.t 68))⟩,
           ⟨(some 70), (some (69, true)), .e (.fad 10 (.t 1))⟩,
           ⟨(some 71), (some (69, true)), .e (.load false 1 (.t 70))⟩,
           ⟨(some 72), (some (69, true)), .e (.un .not (.t 71))⟩,
           ⟨(some 73), none, .e (.pick (.t 69) (.t 72) (.c (.bool false)))⟩,
           ⟨(some 74), none, .e (.mov (.t 73))⟩,
           ⟨(some 75), (some (74, true)), .e (.fad 10 (.t 3))⟩,
           ⟨(some 76), (some (74, true)), .e (.load false 1 (.t 75))⟩,
           ⟨(some 77), none, .e (.pick (.t 74) (.t 76) (.c (.bool false)))⟩,
           ⟨(some 78), none, .e (.mov (.t 77))⟩,
           ⟨(some 79), (some (78, true)), .e (.fad 1 (.t 3))⟩,
           ⟨(some 80), (some (78, true)), .e (.load false 1 (.t 79))⟩,
           ⟨(some 81), (some (78, true)), .e (.bin .eql (.t 80) (.c (.str [])))⟩,
           ⟨(some 82), none, .e (.pick (.t 78) (.t 81) (.c (.bool false)))⟩,
           ⟨(some 83), none, .e (.mov (.t 82))⟩,
           ⟨(some 84), (some (83, true)), .e (.load true 11 (.t 1))⟩,
           ⟨(some 85), (some (83, true)), .callV 26 [(.t 84)]⟩,
           ⟨(some 86), (some (83, true)), .e (.bin .eql (.t 85) (.c (.str [112, 49, 32, 119, 101, 98, 32, 49, 48, 32, 99, 112, 117, 61, 53, 32, 97, 112, 112, 58, 119, 101, 98, 32, 122, 111, 110, 101, 58, 97, 32, 103, 112, 117, 32, 122, 111, 110, 101, 47, 50, 32, 110, 49, 32, 114, 101, 97, 108])))⟩,
           ⟨(some 87), none, .e (.pick (.t 83) (.t 86) (.c (.bool false)))⟩,
           ⟨(some 88), none, .e (.mov (.t 87))⟩,
           ⟨(some 89), (some (88, true)), .e (.load true 11 (.t 3))⟩,
           ⟨(some 90), (some (88, true)), .callV 26 [(.t 89)]⟩,
           ⟨(some 91), (some (88, true)), .e (.bin .eql (.t 90) (.c (.str [104, 111, 108, 100, 48, 32, 45, 32, 45, 49, 32, 99, 112, 117, 61, 53, 32, 45, 32, 45, 32, 45, 32, 45, 32, 110, 49, 32, 104, 111, 108, 100])))⟩,
           ⟨(some 92), none, .e (.pick (.t 88) (.t 91) (.c (.bool false)))⟩,
           ⟨(some 93), none, .e (.mov (.t 92))⟩,
           ⟨(some 94), (some (93, true)), .e (.mov (.t 6))⟩,
           ⟨(some 95), (some (93, true)), .e (.bin .eql (.t 94) (.c (.int .i64 2)))⟩,
           ⟨(some 96), none, .e (.pick (.t 93) (.t 95) (.c (.bool false)))⟩,
           ⟨(some 97), none, .e (.mov (.t 96))⟩,
           ⟨(some 98), (some (97, true)), .e (.mov (.t 8))⟩,
           ⟨(some 99), (some (97, true)), .e (.bin .eql (.t 98) (.c (.int .i64 1)))⟩,
           ⟨(some 100), none, .e (.pick (.t 97) (.t 99) (.c (.bool false)))⟩,
           ⟨(some 101), none, .e (.mov (.t 100))⟩,
           ⟨(some 102), (some (101, true)), .e (.mov (.t 10))⟩,
           ⟨(some 103), (some (101, true)), .e (.bin .eql (.t 102) (.c (.int .i64 1)))⟩,
           ⟨(some 104), none, .e (.pick (.t 101) (.t 103) (.c (.bool false)))⟩,
           ⟨(some 105), none, .e (.mov (.t 104))⟩,
           ⟨(some 106), (some (105, true)), .e (.mov (.t 12))⟩,
           ⟨(some 107), none, .e (.pick (.t 105) (.t 106) (.c (.bool false)))⟩,
           ⟨(some 108), none, .e (.mov (.t 107))⟩,
           ⟨(some 109), (some (108, true)), .e (.load true 11 (.t 11))⟩,
           ⟨(some 110), (some (108, true)), .e (.load true 11 (.t 1))⟩,
           ⟨(some 111), (some (108, true)), .callV 27 [(.t 109), (.t 110)]⟩,
           ⟨(some 112), none, .e (.pick (.t 108) (.t 111) (.c (.bool false)))⟩,
           ⟨(some 113), none, .e (.mov (.t 112))⟩,
           ⟨(some 114), (some (113, true)), .e (.load true 11 (.t 1))⟩,
           ⟨(some 115), (some (113, true)), .e (.load true 11 (.t 3))⟩,
           ⟨(some 116), (some (113, true)), .callV 27 [(.t 114), (.t 115)]⟩,
           ⟨(some 117), (some (113, true)), .e (.un .not (.t 116))⟩,
           ⟨(some 118), none, .e (.pick (.t 113) (.t 117) (.c (.bool false)))⟩,
           ⟨(some 119), none, .e (.mov (.t 118))⟩,
           ⟨(some 120), (some (119, true)), .e (.load true 11 (.t 1))⟩,
           ⟨(some 121), (some (119, true)), .e (.load true 11 (.t 3))⟩,
           ⟨(some 122), (some (119, true)), .callV 45 [(.t 120), (.t 121)]⟩,
           ⟨(some 123), (some (119, true)), .e (.bin .eql (.t 122) (.c (.int .i64 (-1))))⟩,
           ⟨(some 124), none, .e (.pick (.t 119) (.t 123) (.c (.bool false)))⟩,
           ⟨(some 125), none, .e (.mov (.t 124))⟩,
           ⟨(some 126), (some (125, true)), .e (.load true 11 (.t 1))⟩,
           ⟨(some 127), (some (125, true)), .e (.load true 11 (.t 1))⟩,
           ⟨(some 128), (some (125, true)), .callV 45 [(.t 126), (.t 127)]⟩,
           ⟨(some 129), (some (125, true)), .e (.bin .eql (.t 128) (.c (.int .i64 0)))⟩,
           ⟨(some 130), none, .e (.pick (.t 125) (.t 129) (.c (.bool false)))⟩,
           ⟨(some 131), none, .e (.mov (.t 130))⟩,
           ⟨(some 132), (some (131, true)), .e (.load true 11 (.t 1))⟩,
           ⟨(some 133), (some (131, true)), .callV 46 [(.t 132)]⟩,
           ⟨(some 134), (some (131, true)), .e (.bin .eql (.t 133) (.c (.int .i64 0)))⟩,
           ⟨(some 135), none, .e (.pick (.t 131) (.t 134) (.c (.bool false)))⟩,
           ⟨(some 136), none, .e (.mov (.t 135))⟩,
           ⟨(some 137), (some (136, true)), .e (.load true 11 (.t 3))⟩,
           ⟨(some 138), (some (136, true)), .e (.load true 11 (.t 1))⟩,
           ⟨(some 139), (some (136, true)), .lit 11 [(.t 137), (.t 138)]⟩,
           ⟨(some 140), (some (136, true)), .callV 20 [(.t 139)]⟩,
           ⟨(some 141), (some (136, true)), .e (.bin .eql (.t 140) (.c (.int .i64 0)))⟩,
           ⟨(some 142), none, .e (.pick (.t 136) (.t 141) (.c (.bool false)))⟩,
           ⟨(some 0), none, .e (.mov (.t 142))⟩] [0])
         (.ret [0])))))))))
theorem p16 : sight Tryz.prog 16 c16 = some (143, [.t 0], c16) := by kernel_rfl
/-- ballast/ballastlaw7.Few -/
def c17 : AC :=
 (.seq
  (.reg [⟨(some 1), none, .box 11 59 (.t 0)⟩,
    ⟨(some 2), none, .e (.mov (.c (.bool false)))⟩] [1])
  (.seq
   (.reg [⟨(some 3), none, .e (.fad 0 (.t 1))⟩,
     ⟨(some 4), none, .e (.load false 1 (.t 3))⟩,
     ⟨(some 5), none, .e (.lenS (.t 4))⟩,
     ⟨(some 6), none, .e (.bin .leq (.t 5) (.c (.int .i64 50)))⟩,
     ⟨(some 7), none, .e (.mov (.t 6))⟩,
     ⟨(some 8), (some (7, true)), .e (.fad 1 (.t 1))⟩,
     ⟨(some 9), (some (7, true)), .e (.load false 1 (.t 8))⟩,
     ⟨(some 10), (some (7, true)), .e (.lenS (.t 9))⟩,
     ⟨(some 11), (some (7, true)), .e (.bin .leq (.t 10) (.c (.int .i64 50)))⟩,
     ⟨(some 12), none, .e (.pick (.t 7) (.t 11) (.c (.bool false)))⟩,
     ⟨(some 13), none, .e (.mov (.t 12))⟩,
     ⟨(some 14), (some (13, true)), .e (.fad 7 (.t 1))⟩,
     ⟨(some 15), (some (13, true)), .e (.load false 1 (.t 14))⟩,
     ⟨(some 16), (some (13, true)), .e (.lenS (.t 15))⟩,
     ⟨(some 17), (some (13, true)), .e (.bin .leq (.t 16) (.c (.int .i64 50)))⟩,
     ⟨(some 18), none, .e (.pick (.t 13) (.t 17) (.c (.bool false)))⟩,
     ⟨(some 19), none, .e (.mov (.t 18))⟩,
     ⟨(some 20), (some (19, true)), .e (.fad 9 (.t 1))⟩,
     ⟨(some 21), (some (19, true)), .e (.load false 1 (.t 20))⟩,
     ⟨(some 22), (some (19, true)), .e (.lenS (.t 21))⟩,
     ⟨(some 23), (some (19, true)), .e (.bin .leq (.t 22) (.c (.int .i64 50)))⟩,
     ⟨(some 24), none, .e (.pick (.t 19) (.t 23) (.c (.bool false)))⟩,
     ⟨(some 25), none, .e (.mov (.t 24))⟩,
     ⟨(some 26), (some (25, true)), .e (.fad 3 (.t 1))⟩,
     ⟨(some 27), (some (25, true)), .e (.load false 1 (.t 26))⟩,
     ⟨(some 28), (some (25, true)), .callV 32 [(.t 27)]⟩,
     ⟨(some 29), none, .e (.pick (.t 25) (.t 28) (.c (.bool false)))⟩,
     ⟨(some 30), none, .e (.mov (.t 29))⟩,
     ⟨(some 31), (some (30, true)), .e (.fad 4 (.t 1))⟩,
     ⟨(some 32), (some (30, true)), .e (.load false 1 (.t 31))⟩,
     ⟨(some 33), (some (30, true)), .callV 33 [(.t 32)]⟩,
     ⟨(some 34), none, .e (.pick (.t 30) (.t 33) (.c (.bool false)))⟩,
     ⟨(some 35), none, .e (.mov (.t 34))⟩,
     ⟨(some 36), (some (35, true)), .e (.fad 5 (.t 1))⟩,
     ⟨(some 37), (some (35, true)), .e (.load false 1 (.t 36))⟩,
     ⟨(some 38), (some (35, true)), .callV 47 [(.t 37)]⟩,
     ⟨(some 39), none, .e (.pick (.t 35) (.t 38) (.c (.bool false)))⟩,
     ⟨(some 40), none, .e (.mov (.t 39))⟩,
     ⟨(some 41), (some (40, true)), .e (.fad 6 (.t 1))⟩,
     ⟨(some 42), (some (40, true)), .e (.load false 1 (.t 41))⟩,
     ⟨(some 43), (some (40, true)), .callV 48 [(.t 42)]⟩,
     ⟨(some 44), none, .e (.pick (.t 40) (.t 43) (.c (.bool false)))⟩,
     ⟨(some 2), none, .e (.mov (.t 44))⟩] [2])
   (.ret [2])))
theorem p17 : sight Tryz.prog 17 c17 = some (45, [.t 2], c17) := by kernel_rfl
/-- ballast/ballastlaw7.OfAll -/
def c18 : AC :=
 (.seq
  (.reg [⟨(some 2), none, .e (.mov (.c .nils))⟩] [0])
  (.seq
   (.reg [⟨(some 3), none, .e (.mov (.c .nils))⟩] [0, 3])
   (.seq
    (.seq
     (.reg [⟨(some 4), none, .e (.mov (.c (.int .i64 0)))⟩] [0, 3, 4])
     (.block 0
      (.loop [0, 3, 4]
       (.seq
        (.seq
         (.reg [⟨(some 5), none, .e (.mov (.t 4))⟩,
           ⟨(some 6), none, .e (.mov (.t 0))⟩,
           ⟨(some 7), none, .e (.lenL (.t 6))⟩,
           ⟨(some 8), none, .e (.bin .lss (.t 5) (.t 7))⟩] [0, 3, 4, 8])
         (.cond (.t 8) [0, 3, 4]
          .skip
          [3]
          (.exit 0 [3])))
        (.seq
         (.block 1
          (.reg [⟨(some 11), none, .e (.mov (.t 3))⟩,
            ⟨(some 12), none, .e (.mov (.t 0))⟩,
            ⟨(some 13), none, .e (.mov (.t 4))⟩,
            ⟨(some 14), none, .e (.iad 11 (.t 12) (.t 13))⟩,
            ⟨(some 15), none, .e (.load true 11 (.t 14))⟩,
            ⟨(some 16), none, .callV 24 [(.t 15)]⟩,
            ⟨(some 17), none, .lit 11 [(.t 16)]⟩,
            ⟨(some 18), none, .app 11 69 184 (.t 11) (.t 17)⟩,
            ⟨(some 3), none, .e (.mov (.t 18))⟩] [0, 3, 4]))
         (.reg [⟨(some 9), none, .e (.mov (.t 4))⟩,
           ⟨(some 10), none, .e (.bin .add (.t 9) (.c (.int .i64 1)))⟩,
           ⟨(some 4), none, .e (.mov (.t 10))⟩] [0, 3, 4]))))))
    (.seq
     (.reg [⟨(some 19), none, .e (.mov (.t 3))⟩,
       ⟨(some 2), none, .e (.mov (.t 19))⟩] [2])
     (.ret [2])))))
theorem p18 : sight Tryz.prog 18 c18 = some (20, [.t 2], c18) := by kernel_rfl
/-- ballast/ballastlaw7.Of -/
def c24 : AC :=
 (.seq
  (.reg [⟨(some 1), none, .box 11 59 (.t 0)⟩,
    ⟨(some 2), none, .alloc 11 69 (.agg [(.str []), (.str []), (.int .i64 0), .nils, .nils, .nils, .nils, (.str []), (.int .i64 0), (.str []), (.bool false)])⟩] [1, 2])
  (.seq
   (.reg [⟨(some 3), none, .e (.fad 0 (.t 1))⟩,
     ⟨(some 4), none, .e (.load false 1 (.t 3))⟩,
     ⟨(some 5), none, .e (.fad 1 (.t 1))⟩,
     ⟨(some 6), none, .e (.load false 1 (.t 5))⟩,
     ⟨(some 7), none, .e (.fad 2 (.t 1))⟩,
     ⟨(some 8), none, .e (.load false 1 (.t 7))⟩,
     ⟨(some 9), none, .e (.fad 3 (.t 1))⟩,
     ⟨(some 10), none, .e (.load false 1 (.t 9))⟩,
     ⟨(some 11), none, .callV 41 [(.t 10)]⟩,
     ⟨(some 12), none, .e (.fad 4 (.t 1))⟩,
     ⟨(some 13), none, .e (.load false 1 (.t 12))⟩,
     ⟨(some 14), none, .callV 42 [(.t 13)]⟩,
     ⟨(some 15), none, .e (.fad 5 (.t 1))⟩,
     ⟨(some 16), none, .e (.load false 1 (.t 15))⟩,
     ⟨(some 17), none, .callV 53 [(.t 16)]⟩,
     ⟨(some 18), none, .e (.fad 6 (.t 1))⟩,
     ⟨(some 19), none, .e (.load false 1 (.t 18))⟩,
     ⟨(some 20), none, .callV 54 [(.t 19)]⟩,
     ⟨(some 21), none, .e (.fad 7 (.t 1))⟩,
     ⟨(some 22), none, .e (.load false 1 (.t 21))⟩,
     ⟨(some 23), none, .e (.fad 8 (.t 1))⟩,
     ⟨(some 24), none, .e (.load false 1 (.t 23))⟩,
     ⟨(some 25), none, .e (.fad 9 (.t 1))⟩,
     ⟨(some 26), none, .e (.load false 1 (.t 25))⟩,
     ⟨(some 27), none, .e (.fad 10 (.t 1))⟩,
     ⟨(some 28), none, .e (.load false 1 (.t 27))⟩,
     ⟨(some 29), none, .e (.bld [(.str []), (.str []), (.int .i64 0), .nils, .nils, .nils, .nils, (.str []), (.int .i64 0), (.str []), (.bool false)] [(0, 1, (.t 4)), (1, 1, (.t 6)), (2, 1, (.t 8)), (3, 1, (.t 11)), (4, 1, (.t 14)), (5, 1, (.t 17)), (6, 1, (.t 20)), (7, 1, (.t 22)), (8, 1, (.t 24)), (9, 1, (.t 26)), (10, 1, (.t 28))])⟩,
     ⟨none, none, .store 11 (.t 2) (.t 29)⟩] [2])
   (.ret [2])))
theorem p24 : sight Tryz.prog 24 c24 = some (30, [.c 2 true 11], c24) := by kernel_rfl
/-- ballast/ballastlaw2.Few -/
def c32 : AC :=
 (.seq
  (.reg [⟨(some 2), none, .e (.mov (.c (.bool false)))⟩] [0])
  (.seq
   (.seq
    (.reg [⟨(some 4), none, .e (.mov (.t 0))⟩,
      ⟨(some 5), none, .e (.lenL (.t 4))⟩,
      ⟨(some 6), none, .e (.bin .gtr (.t 5) (.c (.int .i64 20)))⟩] [0, 6])
    (.cond (.t 6) []
     (.seq
      (.reg [⟨(some 2), none, .e (.mov (.c (.bool false)))⟩] [2])
      (.ret [2]))
     [0]
     .skip))
   (.seq
    (.seq
     (.reg [⟨(some 3), none, .e (.mov (.c (.int .i64 0)))⟩] [0, 3])
     (.block 0
      (.loop [0, 3]
       (.seq
        (.seq
         (.reg [⟨(some 7), none, .e (.mov (.t 3))⟩,
           ⟨(some 8), none, .e (.mov (.t 0))⟩,
           ⟨(some 9), none, .e (.lenL (.t 8))⟩,
           ⟨(some 10), none, .e (.bin .lss (.t 7) (.t 9))⟩] [0, 3, 10])
         (.cond (.t 10) [0, 3]
          .skip
          []
          (.exit 0 [])))
        (.seq
         (.block 1
          (.seq
           (.reg [⟨(some 13), none, .e (.mov (.t 0))⟩,
             ⟨(some 14), none, .e (.mov (.t 3))⟩,
             ⟨(some 15), none, .e (.iad 2 (.t 13) (.t 14))⟩,
             ⟨(some 16), none, .e (.fad 0 (.t 15))⟩,
             ⟨(some 17), none, .e (.load false 1 (.t 16))⟩,
             ⟨(some 18), none, .e (.lenS (.t 17))⟩,
             ⟨(some 19), none, .e (.bin .gtr (.t 18) (.c (.int .i64 50)))⟩] [0, 3, 19])
           (.cond (.t 19) []
            (.seq
             (.reg [⟨(some 2), none, .e (.mov (.c (.bool false)))⟩] [2])
             (.ret [2]))
            [0, 3]
            .skip)))
         (.reg [⟨(some 11), none, .e (.mov (.t 3))⟩,
           ⟨(some 12), none, .e (.bin .add (.t 11) (.c (.int .i64 1)))⟩,
           ⟨(some 3), none, .e (.mov (.t 12))⟩] [0, 3]))))))
    (.seq
     (.reg [⟨(some 2), none, .e (.mov (.c (.bool true)))⟩] [2])
     (.ret [2])))))
theorem p32 : sight Tryz.prog 32 c32 = some (20, [.t 2], c32) := by kernel_rfl
/-- ballast/ballastlaw4.Few -/
def c33 : AC :=
 (.seq
  (.reg [⟨(some 2), none, .e (.mov (.c (.bool false)))⟩] [0])
  (.seq
   (.seq
    (.reg [⟨(some 4), none, .e (.mov (.t 0))⟩,
      ⟨(some 5), none, .e (.lenL (.t 4))⟩,
      ⟨(some 6), none, .e (.bin .gtr (.t 5) (.c (.int .i64 20)))⟩] [0, 6])
    (.cond (.t 6) []
     (.seq
      (.reg [⟨(some 2), none, .e (.mov (.c (.bool false)))⟩] [2])
      (.ret [2]))
     [0]
     .skip))
   (.seq
    (.seq
     (.reg [⟨(some 3), none, .e (.mov (.c (.int .i64 0)))⟩] [0, 3])
     (.block 0
      (.loop [0, 3]
       (.seq
        (.seq
         (.reg [⟨(some 7), none, .e (.mov (.t 3))⟩,
           ⟨(some 8), none, .e (.mov (.t 0))⟩,
           ⟨(some 9), none, .e (.lenL (.t 8))⟩,
           ⟨(some 10), none, .e (.bin .lss (.t 7) (.t 9))⟩] [0, 3, 10])
         (.cond (.t 10) [0, 3]
          .skip
          []
          (.exit 0 [])))
        (.seq
         (.block 1
          (.seq
           (.reg [⟨(some 13), none, .e (.mov (.t 0))⟩,
             ⟨(some 14), none, .e (.mov (.t 3))⟩,
             ⟨(some 15), none, .e (.iad 2 (.t 13) (.t 14))⟩,
             ⟨(some 16), none, .e (.fad 0 (.t 15))⟩,
             ⟨(some 17), none, .e (.load false 1 (.t 16))⟩,
             ⟨(some 18), none, .e (.lenS (.t 17))⟩,
             ⟨(some 19), none, .e (.bin .gtr (.t 18) (.c (.int .i64 50)))⟩,
             ⟨(some 20), none, .e (.mov (.t 19))⟩,
             ⟨(some 21), (some (20, false)), .e (.mov (.t 0))⟩,
             ⟨(some 22), (some (20, false)), .e (.mov (.t 3))⟩,
             ⟨(some 23), (some (20, false)), .e (.iad 2 (.t 21) (.t 22))⟩,
             ⟨(some 24), (some (20, false)), .e (.fad 1 (.t 23))⟩,
             ⟨(some 25), (some (20, false)), .e (.load false 1 (.t 24))⟩,
             ⟨(some 26), (some (20, false)), .e (.lenS (.t 25))⟩,
             ⟨(some 27), (some (20, false)), .e (.bin .gtr (.t 26) (.c (.int .i64 50)))⟩,
             ⟨(some 28), none, .e (.pick (.t 20) (.c (.bool true)) (.t 27))⟩] [0, 3, 28])
           (.cond (.t 28) []
            (.seq
             (.reg [⟨(some 2), none, .e (.mov (.c (.bool false)))⟩] [2])
             (.ret [2]))
            [0, 3]
            .skip)))
         (.reg [⟨(some 11), none, .e (.mov (.t 3))⟩,
           ⟨(some 12), none, .e (.bin .add (.t 11) (.c (.int .i64 1)))⟩,
           ⟨(some 3), none, .e (.mov (.t 12))⟩] [0, 3]))))))
    (.seq
     (.reg [⟨(some 2), none, .e (.mov (.c (.bool true)))⟩] [2])
     (.ret [2])))))
theorem p33 : sight Tryz.prog 33 c33 = some (29, [.t 2], c33) := by kernel_rfl
/-- ballast/ballastlaw5.Few -/
def c34 : AC :=
 (.seq
  (.reg [⟨(some 2), none, .e (.mov (.c (.bool false)))⟩] [0])
  (.seq
   (.seq
    (.reg [⟨(some 4), none, .e (.mov (.t 0))⟩,
      ⟨(some 5), none, .e (.lenL (.t 4))⟩,
      ⟨(some 6), none, .e (.bin .gtr (.t 5) (.c (.int .i64 20)))⟩] [0, 6])
    (.cond (.t 6) []
     (.seq
      (.reg [⟨(some 2), none, .e (.mov (.c (.bool false)))⟩] [2])
      (.ret [2]))
     [0]
     .skip))
   (.seq
    (.seq
     (.reg [⟨(some 3), none, .e (.mov (.c (.int .i64 0)))⟩] [0, 3])
     (.block 0
      (.loop [0, 3]
       (.seq
        (.seq
         (.reg [⟨(some 7), none, .e (.mov (.t 3))⟩,
           ⟨(some 8), none, .e (.mov (.t 0))⟩,
           ⟨(some 9), none, .e (.lenL (.t 8))⟩,
           ⟨(some 10), none, .e (.bin .lss (.t 7) (.t 9))⟩] [0, 3, 10])
         (.cond (.t 10) [0, 3]
          .skip
          []
          (.exit 0 [])))
        (.seq
         (.block 1
          (.seq
           (.reg [⟨(some 13), none, .e (.mov (.t 0))⟩,
             ⟨(some 14), none, .e (.mov (.t 3))⟩,
             ⟨(some 15), none, .e (.iad 3 (.t 13) (.t 14))⟩,
             ⟨(some 16), none, .e (.fad 0 (.t 15))⟩,
             ⟨(some 17), none, .e (.load false 1 (.t 16))⟩,
             ⟨(some 18), none, .e (.lenS (.t 17))⟩,
             ⟨(some 19), none, .e (.bin .gtr (.t 18) (.c (.int .i64 50)))⟩,
             ⟨(some 20), none, .e (.mov (.t 19))⟩,
             ⟨(some 21), (some (20, false)), .e (.mov (.t 0))⟩,
             ⟨(some 22), (some (20, false)), .e (.mov (.t 3))⟩,
             ⟨(some 23), (some (20, false)), .e (.iad 3 (.t 21) (.t 22))⟩,
             ⟨(some 24), (some (20, false)), .e (.fad 1 (.t 23))⟩,
             ⟨(some 25), (some (20, false)), .e (.load false 1 (.t 24))⟩,
             ⟨(some 26), (some (20, false)), .e (.lenS (.t 25))⟩,
             ⟨(some 27), (some (20, false)), .e (.bin .gtr (.t 26) (.c (.int .i64 50)))⟩,
             ⟨(some 28), none, .e (.pick (.t 20) (.c (.bool true)) (.t 27))⟩] [0, 3, 28])
           (.cond (.t 28) []
            (.seq
             (.reg [⟨(some 2), none, .e (.mov (.c (.bool false)))⟩] [2])
             (.ret [2]))
            [0, 3]
            .skip)))
         (.reg [⟨(some 11), none, .e (.mov (.t 3))⟩,
           ⟨(some 12), none, .e (.bin .add (.t 11) (.c (.int .i64 1)))⟩,
           ⟨(some 3), none, .e (.mov (.t 12))⟩] [0, 3]))))))
    (.seq
     (.reg [⟨(some 2), none, .e (.mov (.c (.bool true)))⟩] [2])
     (.ret [2])))))
theorem p34 : sight Tryz.prog 34 c34 = some (29, [.t 2], c34) := by kernel_rfl
/-- ballast/ballastlaw2.Of -/
def c41 : AC :=
 (.seq
  (.reg [⟨(some 2), none, .e (.mov (.c .nils))⟩] [0])
  (.seq
   (.reg [⟨(some 3), none, .e (.mov (.c .nils))⟩] [0, 3])
   (.seq
    (.seq
     (.reg [⟨(some 4), none, .e (.mov (.c (.int .i64 0)))⟩] [0, 3, 4])
     (.block 0
      (.loop [0, 3, 4]
       (.seq
        (.seq
         (.reg [⟨(some 5), none, .e (.mov (.t 4))⟩,
           ⟨(some 6), none, .e (.mov (.t 0))⟩,
           ⟨(some 7), none, .e (.lenL (.t 6))⟩,
           ⟨(some 8), none, .e (.bin .lss (.t 5) (.t 7))⟩] [0, 3, 4, 8])
         (.cond (.t 8) [0, 3, 4]
          .skip
          [3]
          (.exit 0 [3])))
        (.seq
         (.block 1
          (.reg [⟨(some 11), none, .e (.mov (.t 3))⟩,
            ⟨(some 12), none, .e (.mov (.t 0))⟩,
            ⟨(some 13), none, .e (.mov (.t 4))⟩,
            ⟨(some 14), none, .e (.iad 2 (.t 12) (.t 13))⟩,
            ⟨(some 15), none, .e (.fad 0 (.t 14))⟩,
            ⟨(some 16), none, .e (.load false 1 (.t 15))⟩,
            ⟨(some 17), none, .e (.mov (.t 0))⟩,
            ⟨(some 18), none, .e (.mov (.t 4))⟩,
            ⟨(some 19), none, .e (.iad 2 (.t 17) (.t 18))⟩,
            ⟨(some 20), none, .e (.fad 1 (.t 19))⟩,
            ⟨(some 21), none, .e (.load false 1 (.t 20))⟩,
            ⟨(some 22), none, .e (.bld [(.str []), (.int .i64 0)] [(0, 1, (.t 16)), (1, 1, (.t 21))])⟩,
            ⟨(some 23), none, .lit 2 [(.t 22)]⟩,
            ⟨(some 24), none, .app 2 150 24 (.t 11) (.t 23)⟩,
            ⟨(some 3), none, .e (.mov (.t 24))⟩] [0, 3, 4]))
         (.reg [⟨(some 9), none, .e (.mov (.t 4))⟩,
           ⟨(some 10), none, .e (.bin .add (.t 9) (.c (.int .i64 1)))⟩,
           ⟨(some 4), none, .e (.mov (.t 10))⟩] [0, 3, 4]))))))
    (.seq
     (.reg [⟨(some 25), none, .e (.mov (.t 3))⟩,
       ⟨(some 2), none, .e (.mov (.t 25))⟩] [2])
     (.ret [2])))))
theorem p41 : sight Tryz.prog 41 c41 = some (26, [.t 2], c41) := by kernel_rfl
/-- ballast/ballastlaw4.Of -/
def c42 : AC :=
 (.seq
  (.reg [⟨(some 2), none, .e (.mov (.c .nils))⟩] [0])
  (.seq
   (.reg [⟨(some 3), none, .e (.mov (.c .nils))⟩] [0, 3])
   (.seq
    (.seq
     (.reg [⟨(some 4), none, .e (.mov (.c (.int .i64 0)))⟩] [0, 3, 4])
     (.block 0
      (.loop [0, 3, 4]
       (.seq
        (.seq
         (.reg [⟨(some 5), none, .e (.mov (.t 4))⟩,
           ⟨(some 6), none, .e (.mov (.t 0))⟩,
           ⟨(some 7), none, .e (.lenL (.t 6))⟩,
           ⟨(some 8), none, .e (.bin .lss (.t 5) (.t 7))⟩] [0, 3, 4, 8])
         (.cond (.t 8) [0, 3, 4]
          .skip
          [3]
          (.exit 0 [3])))
        (.seq
         (.block 1
          (.reg [⟨(some 11), none, .e (.mov (.t 3))⟩,
            ⟨(some 12), none, .e (.mov (.t 0))⟩,
            ⟨(some 13), none, .e (.mov (.t 4))⟩,
            ⟨(some 14), none, .e (.iad 2 (.t 12) (.t 13))⟩,
            ⟨(some 15), none, .e (.fad 0 (.t 14))⟩,
            ⟨(some 16), none, .e (.load false 1 (.t 15))⟩,
            ⟨(some 17), none, .e (.mov (.t 0))⟩,
            ⟨(some 18), none, .e (.mov (.t 4))⟩,
            ⟨(some 19), none, .e (.iad 2 (.t 17) (.t 18))⟩,
            ⟨(some 20), none, .e (.fad 1 (.t 19))⟩,
            ⟨(some 21), none, .e (.load false 1 (.t 20))⟩,
            ⟨(some 22), none, .e (.bld [(.str []), (.str [])] [(0, 1, (.t 16)), (1, 1, (.t 21))])⟩,
            ⟨(some 23), none, .lit 2 [(.t 22)]⟩,
            ⟨(some 24), none, .app 2 151 32 (.t 11) (.t 23)⟩,
            ⟨(some 3), none, .e (.mov (.t 24))⟩] [0, 3, 4]))
         (.reg [⟨(some 9), none, .e (.mov (.t 4))⟩,
           ⟨(some 10), none, .e (.bin .add (.t 9) (.c (.int .i64 1)))⟩,
           ⟨(some 4), none, .e (.mov (.t 10))⟩] [0, 3, 4]))))))
    (.seq
     (.reg [⟨(some 25), none, .e (.mov (.t 3))⟩,
       ⟨(some 2), none, .e (.mov (.t 25))⟩] [2])
     (.ret [2])))))
theorem p42 : sight Tryz.prog 42 c42 = some (26, [.t 2], c42) := by kernel_rfl
/-- ballast/ballastlaw5.Of -/
def c43 : AC :=
 (.seq
  (.reg [⟨(some 2), none, .e (.mov (.c .nils))⟩] [0])
  (.seq
   (.reg [⟨(some 3), none, .e (.mov (.c .nils))⟩] [0, 3])
   (.seq
    (.seq
     (.reg [⟨(some 4), none, .e (.mov (.c (.int .i64 0)))⟩] [0, 3, 4])
     (.block 0
      (.loop [0, 3, 4]
       (.seq
        (.seq
         (.reg [⟨(some 5), none, .e (.mov (.t 4))⟩,
           ⟨(some 6), none, .e (.mov (.t 0))⟩,
           ⟨(some 7), none, .e (.lenL (.t 6))⟩,
           ⟨(some 8), none, .e (.bin .lss (.t 5) (.t 7))⟩] [0, 3, 4, 8])
         (.cond (.t 8) [0, 3, 4]
          .skip
          [3]
          (.exit 0 [3])))
        (.seq
         (.block 1
          (.reg [⟨(some 11), none, .e (.mov (.t 3))⟩,
            ⟨(some 12), none, .e (.mov (.t 0))⟩,
            ⟨(some 13), none, .e (.mov (.t 4))⟩,
            ⟨(some 14), none, .e (.iad 3 (.t 12) (.t 13))⟩,
            ⟨(some 15), none, .e (.fad 0 (.t 14))⟩,
            ⟨(some 16), none, .e (.load false 1 (.t 15))⟩,
            ⟨(some 17), none, .e (.mov (.t 0))⟩,
            ⟨(some 18), none, .e (.mov (.t 4))⟩,
            ⟨(some 19), none, .e (.iad 3 (.t 17) (.t 18))⟩,
            ⟨(some 20), none, .e (.fad 1 (.t 19))⟩,
            ⟨(some 21), none, .e (.load false 1 (.t 20))⟩,
            ⟨(some 22), none, .e (.mov (.t 0))⟩,
            ⟨(some 23), none, .e (.mov (.t 4))⟩,
            ⟨(some 24), none, .e (.iad 3 (.t 22) (.t 23))⟩,
            ⟨(some 25), none, .e (.fad 2 (.t 24))⟩,
            ⟨(some 26), none, .e (.load false 1 (.t 25))⟩,
            ⟨(some 27), none, .e (.bld [(.str []), (.str []), (.bool false)] [(0, 1, (.t 16)), (1, 1, (.t 21)), (2, 1, (.t 26))])⟩,
            ⟨(some 28), none, .lit 3 [(.t 27)]⟩,
            ⟨(some 29), none, .app 3 152 40 (.t 11) (.t 28)⟩,
            ⟨(some 3), none, .e (.mov (.t 29))⟩] [0, 3, 4]))
         (.reg [⟨(some 9), none, .e (.mov (.t 4))⟩,
           ⟨(some 10), none, .e (.bin .add (.t 9) (.c (.int .i64 1)))⟩,
           ⟨(some 4), none, .e (.mov (.t 10))⟩] [0, 3, 4]))))))
    (.seq
     (.reg [⟨(some 30), none, .e (.mov (.t 3))⟩,
       ⟨(some 2), none, .e (.mov (.t 30))⟩] [2])
     (.ret [2])))))
theorem p43 : sight Tryz.prog 43 c43 = some (31, [.t 2], c43) := by kernel_rfl
/-- ballast/ballastlaw4.FewSel -/
def c47 : AC :=
 (.seq
  (.reg [⟨(some 2), none, .e (.mov (.c (.bool false)))⟩] [0])
  (.seq
   (.seq
    (.reg [⟨(some 4), none, .e (.mov (.t 0))⟩,
      ⟨(some 5), none, .e (.lenL (.t 4))⟩,
      ⟨(some 6), none, .e (.bin .gtr (.t 5) (.c (.int .i64 20)))⟩] [0, 6])
    (.cond (.t 6) []
     (.seq
      (.reg [⟨(some 2), none, .e (.mov (.c (.bool false)))⟩] [2])
      (.ret [2]))
     [0]
     .skip))
   (.seq
    (.seq
     (.reg [⟨(some 3), none, .e (.mov (.c (.int .i64 0)))⟩] [0, 3])
     (.block 0
      (.loop [0, 3]
       (.seq
        (.seq
         (.reg [⟨(some 7), none, .e (.mov (.t 3))⟩,
           ⟨(some 8), none, .e (.mov (.t 0))⟩,
           ⟨(some 9), none, .e (.lenL (.t 8))⟩,
           ⟨(some 10), none, .e (.bin .lss (.t 7) (.t 9))⟩] [0, 3, 10])
         (.cond (.t 10) [0, 3]
          .skip
          []
          (.exit 0 [])))
        (.seq
         (.block 1
          (.seq
           (.reg [⟨(some 13), none, .e (.mov (.t 0))⟩,
             ⟨(some 14), none, .e (.mov (.t 3))⟩,
             ⟨(some 15), none, .e (.iad 3 (.t 13) (.t 14))⟩,
             ⟨(some 16), none, .e (.fad 1 (.t 15))⟩,
             ⟨(some 17), none, .e (.load false 1 (.t 16))⟩,
             ⟨(some 18), none, .e (.lenS (.t 17))⟩,
             ⟨(some 19), none, .e (.bin .gtr (.t 18) (.c (.int .i64 50)))⟩,
             ⟨(some 20), none, .e (.mov (.t 19))⟩,
             ⟨(some 21), (some (20, false)), .e (.mov (.t 0))⟩,
             ⟨(some 22), (some (20, false)), .e (.mov (.t 3))⟩,
             ⟨(some 23), (some (20, false)), .e (.iad 3 (.t 21) (.t 22))⟩,
             ⟨(some 24), (some (20, false)), .e (.fad 2 (.t 23))⟩,
             ⟨(some 25), (some (20, false)), .e (.load false 1 (.t 24))⟩,
             ⟨(some 26), (some (20, false)), .e (.lenS (.t 25))⟩,
             ⟨(some 27), (some (20, false)), .e (.bin .gtr (.t 26) (.c (.int .i64 50)))⟩,
             ⟨(some 28), none, .e (.pick (.t 20) (.c (.bool true)) (.t 27))⟩] [0, 3, 28])
           (.cond (.t 28) []
            (.seq
             (.reg [⟨(some 2), none, .e (.mov (.c (.bool false)))⟩] [2])
             (.ret [2]))
            [0, 3]
            .skip)))
         (.reg [⟨(some 11), none, .e (.mov (.t 3))⟩,
           ⟨(some 12), none, .e (.bin .add (.t 11) (.c (.int .i64 1)))⟩,
           ⟨(some 3), none, .e (.mov (.t 12))⟩] [0, 3]))))))
    (.seq
     (.reg [⟨(some 2), none, .e (.mov (.c (.bool true)))⟩] [2])
     (.ret [2])))))
theorem p47 : sight Tryz.prog 47 c47 = some (29, [.t 2], c47) := by kernel_rfl
/-- ballast/ballastlaw5.FewTols -/
def c48 : AC :=
 (.seq
  (.reg [⟨(some 2), none, .e (.mov (.c (.bool false)))⟩] [0])
  (.seq
   (.seq
    (.reg [⟨(some 4), none, .e (.mov (.t 0))⟩,
      ⟨(some 5), none, .e (.lenL (.t 4))⟩,
      ⟨(some 6), none, .e (.bin .gtr (.t 5) (.c (.int .i64 20)))⟩] [0, 6])
    (.cond (.t 6) []
     (.seq
      (.reg [⟨(some 2), none, .e (.mov (.c (.bool false)))⟩] [2])
      (.ret [2]))
     [0]
     .skip))
   (.seq
    (.seq
     (.reg [⟨(some 3), none, .e (.mov (.c (.int .i64 0)))⟩] [0, 3])
     (.block 0
      (.loop [0, 3]
       (.seq
        (.seq
         (.reg [⟨(some 7), none, .e (.mov (.t 3))⟩,
           ⟨(some 8), none, .e (.mov (.t 0))⟩,
           ⟨(some 9), none, .e (.lenL (.t 8))⟩,
           ⟨(some 10), none, .e (.bin .lss (.t 7) (.t 9))⟩] [0, 3, 10])
         (.cond (.t 10) [0, 3]
          .skip
          []
          (.exit 0 [])))
        (.seq
         (.block 1
          (.seq
           (.reg [⟨(some 13), none, .e (.mov (.t 0))⟩,
             ⟨(some 14), none, .e (.mov (.t 3))⟩,
             ⟨(some 15), none, .e (.iad 3 (.t 13) (.t 14))⟩,
             ⟨(some 16), none, .e (.fad 0 (.t 15))⟩,
             ⟨(some 17), none, .e (.load false 1 (.t 16))⟩,
             ⟨(some 18), none, .e (.lenS (.t 17))⟩,
             ⟨(some 19), none, .e (.bin .gtr (.t 18) (.c (.int .i64 50)))⟩,
             ⟨(some 20), none, .e (.mov (.t 19))⟩,
             ⟨(some 21), (some (20, false)), .e (.mov (.t 0))⟩,
             ⟨(some 22), (some (20, false)), .e (.mov (.t 3))⟩,
             ⟨(some 23), (some (20, false)), .e (.iad 3 (.t 21) (.t 22))⟩,
             ⟨(some 24), (some (20, false)), .e (.fad 1 (.t 23))⟩,
             ⟨(some 25), (some (20, false)), .e (.load false 1 (.t 24))⟩,
             ⟨(some 26), (some (20, false)), .e (.lenS (.t 25))⟩,
             ⟨(some 27), (some (20, false)), .e (.bin .gtr (.t 26) (.c (.int .i64 50)))⟩,
             ⟨(some 28), none, .e (.pick (.t 20) (.c (.bool true)) (.t 27))⟩] [0, 3, 28])
           (.cond (.t 28) []
            (.seq
             (.reg [⟨(some 2), none, .e (.mov (.c (.bool false)))⟩] [2])
             (.ret [2]))
            [0, 3]
            .skip)))
         (.reg [⟨(some 11), none, .e (.mov (.t 3))⟩,
           ⟨(some 12), none, .e (.bin .add (.t 11) (.c (.int .i64 1)))⟩,
           ⟨(some 3), none, .e (.mov (.t 12))⟩] [0, 3]))))))
    (.seq
     (.reg [⟨(some 2), none, .e (.mov (.c (.bool true)))⟩] [2])
     (.ret [2])))))
theorem p48 : sight Tryz.prog 48 c48 = some (29, [.t 2], c48) := by kernel_rfl
/-- ballast/ballastlaw4.OfSel -/
def c53 : AC :=
 (.seq
  (.reg [⟨(some 2), none, .e (.mov (.c .nils))⟩] [0])
  (.seq
   (.reg [⟨(some 3), none, .e (.mov (.c .nils))⟩] [0, 3])
   (.seq
    (.seq
     (.reg [⟨(some 4), none, .e (.mov (.c (.int .i64 0)))⟩] [0, 3, 4])
     (.block 0
      (.loop [0, 3, 4]
       (.seq
        (.seq
         (.reg [⟨(some 5), none, .e (.mov (.t 4))⟩,
           ⟨(some 6), none, .e (.mov (.t 0))⟩,
           ⟨(some 7), none, .e (.lenL (.t 6))⟩,
           ⟨(some 8), none, .e (.bin .lss (.t 5) (.t 7))⟩] [0, 3, 4, 8])
         (.cond (.t 8) [0, 3, 4]
          .skip
          [3]
          (.exit 0 [3])))
        (.seq
         (.block 1
          (.reg [⟨(some 11), none, .e (.mov (.t 3))⟩,
            ⟨(some 12), none, .e (.mov (.t 0))⟩,
            ⟨(some 13), none, .e (.mov (.t 4))⟩,
            ⟨(some 14), none, .e (.iad 3 (.t 12) (.t 13))⟩,
            ⟨(some 15), none, .e (.fad 0 (.t 14))⟩,
            ⟨(some 16), none, .e (.load false 1 (.t 15))⟩,
            ⟨(some 17), none, .e (.mov (.t 0))⟩,
            ⟨(some 18), none, .e (.mov (.t 4))⟩,
            ⟨(some 19), none, .e (.iad 3 (.t 17) (.t 18))⟩,
            ⟨(some 20), none, .e (.fad 1 (.t 19))⟩,
            ⟨(some 21), none, .e (.load false 1 (.t 20))⟩,
            ⟨(some 22), none, .e (.mov (.t 0))⟩,
            ⟨(some 23), none, .e (.mov (.t 4))⟩,
            ⟨(some 24), none, .e (.iad 3 (.t 22) (.t 23))⟩,
            ⟨(some 25), none, .e (.fad 2 (.t 24))⟩,
            ⟨(some 26), none, .e (.load false 1 (.t 25))⟩,
            ⟨(some 27), none, .e (.bld [(.int .i64 0), (.str []), (.str [])] [(0, 1, (.t 16)), (1, 1, (.t 21)), (2, 1, (.t 26))])⟩,
            ⟨(some 28), none, .lit 3 [(.t 27)]⟩,
            ⟨(some 29), none, .app 3 167 40 (.t 11) (.t 28)⟩,
            ⟨(some 3), none, .e (.mov (.t 29))⟩] [0, 3, 4]))
         (.reg [⟨(some 9), none, .e (.mov (.t 4))⟩,
           ⟨(some 10), none, .e (.bin .add (.t 9) (.c (.int .i64 1)))⟩,
           ⟨(some 4), none, .e (.mov (.t 10))⟩] [0, 3, 4]))))))
    (.seq
     (.reg [⟨(some 30), none, .e (.mov (.t 3))⟩,
       ⟨(some 2), none, .e (.mov (.t 30))⟩] [2])
     (.ret [2])))))
theorem p53 : sight Tryz.prog 53 c53 = some (31, [.t 2], c53) := by kernel_rfl
/-- ballast/ballastlaw5.OfTols -/
def c54 : AC :=
 (.seq
  (.reg [⟨(some 2), none, .e (.mov (.c .nils))⟩] [0])
  (.seq
   (.reg [⟨(some 3), none, .e (.mov (.c .nils))⟩] [0, 3])
   (.seq
    (.seq
     (.reg [⟨(some 4), none, .e (.mov (.c (.int .i64 0)))⟩] [0, 3, 4])
     (.block 0
      (.loop [0, 3, 4]
       (.seq
        (.seq
         (.reg [⟨(some 5), none, .e (.mov (.t 4))⟩,
           ⟨(some 6), none, .e (.mov (.t 0))⟩,
           ⟨(some 7), none, .e (.lenL (.t 6))⟩,
           ⟨(some 8), none, .e (.bin .lss (.t 5) (.t 7))⟩] [0, 3, 4, 8])
         (.cond (.t 8) [0, 3, 4]
          .skip
          [3]
          (.exit 0 [3])))
        (.seq
         (.block 1
          (.reg [⟨(some 11), none, .e (.mov (.t 3))⟩,
            ⟨(some 12), none, .e (.mov (.t 0))⟩,
            ⟨(some 13), none, .e (.mov (.t 4))⟩,
            ⟨(some 14), none, .e (.iad 3 (.t 12) (.t 13))⟩,
            ⟨(some 15), none, .e (.fad 0 (.t 14))⟩,
            ⟨(some 16), none, .e (.load false 1 (.t 15))⟩,
            ⟨(some 17), none, .e (.mov (.t 0))⟩,
            ⟨(some 18), none, .e (.mov (.t 4))⟩,
            ⟨(some 19), none, .e (.iad 3 (.t 17) (.t 18))⟩,
            ⟨(some 20), none, .e (.fad 1 (.t 19))⟩,
            ⟨(some 21), none, .e (.load false 1 (.t 20))⟩,
            ⟨(some 22), none, .e (.mov (.t 0))⟩,
            ⟨(some 23), none, .e (.mov (.t 4))⟩,
            ⟨(some 24), none, .e (.iad 3 (.t 22) (.t 23))⟩,
            ⟨(some 25), none, .e (.fad 2 (.t 24))⟩,
            ⟨(some 26), none, .e (.load false 1 (.t 25))⟩,
            ⟨(some 27), none, .e (.bld [(.str []), (.str []), (.bool false)] [(0, 1, (.t 16)), (1, 1, (.t 21)), (2, 1, (.t 26))])⟩,
            ⟨(some 28), none, .lit 3 [(.t 27)]⟩,
            ⟨(some 29), none, .app 3 168 40 (.t 11) (.t 28)⟩,
            ⟨(some 3), none, .e (.mov (.t 29))⟩] [0, 3, 4]))
         (.reg [⟨(some 9), none, .e (.mov (.t 4))⟩,
           ⟨(some 10), none, .e (.bin .add (.t 9) (.c (.int .i64 1)))⟩,
           ⟨(some 4), none, .e (.mov (.t 10))⟩] [0, 3, 4]))))))
    (.seq
     (.reg [⟨(some 30), none, .e (.mov (.t 3))⟩,
       ⟨(some 2), none, .e (.mov (.t 30))⟩] [2])
     (.ret [2])))))
theorem p54 : sight Tryz.prog 54 c54 = some (31, [.t 2], c54) := by kernel_rfl
end Go.Proofs.YtmgoencdjkaobaaGreatDoor
