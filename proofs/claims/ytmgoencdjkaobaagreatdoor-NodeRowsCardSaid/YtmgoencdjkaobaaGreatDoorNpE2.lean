/- Functions of the seat as compact code, and that they are so compiled. No conditions. -/
import Derived.Test.YtmgoencdjkaobaaGreatDoorPeI
import Derived.Test.YtmgoencdjkaobaaGreatDoorProg
set_option linter.unusedVariables false
namespace Go.Proofs.YtmgoencdjkaobaaGreatDoor
open Go Go.Pe
/-- ballast/ballastref10.CheckNodes -/
def c10 : AC :=
 (.seq
  (.reg [⟨(some 2), none, .e (.mov (.c (.int .i64 0)))⟩] [0])
  (.seq
   (.seq
    (.reg [⟨(some 5), none, .e (.mov (.t 0))⟩,
      ⟨(some 6), none, .e (.lenL (.t 5))⟩,
      ⟨(some 7), none, .e (.bin .gtr (.t 6) (.c (.int .i64 32)))⟩] [0, 7])
    (.cond (.t 7) []
     (.seq
      (.reg [⟨(some 2), none, .e (.mov (.c (.int .i64 4)))⟩] [2])
      (.ret [2]))
     [0]
     .skip))
   (.seq
    (.seq
     (.reg [⟨(some 3), none, .e (.mov (.c (.int .i64 0)))⟩] [0, 3])
     (.block 0
      (.loop [0, 3]
       (.seq
        (.seq
         (.reg [⟨(some 8), none, .e (.mov (.t 3))⟩,
           ⟨(some 9), none, .e (.mov (.t 0))⟩,
           ⟨(some 10), none, .e (.lenL (.t 9))⟩,
           ⟨(some 11), none, .e (.bin .lss (.t 8) (.t 10))⟩] [0, 3, 11])
         (.cond (.t 11) [0, 3]
          .skip
          []
          (.exit 0 [])))
        (.seq
         (.block 1
          (.seq
           (.reg [⟨(some 14), none, .e (.mov (.t 0))⟩,
             ⟨(some 15), none, .e (.mov (.t 3))⟩,
             ⟨(some 16), none, .e (.iad 5 (.t 14) (.t 15))⟩,
             ⟨(some 17), none, .e (.load true 5 (.t 16))⟩,
             ⟨(some 18), none, .callV 35 [(.t 17)]⟩,
             ⟨(some 4), none, .e (.mov (.t 18))⟩] [0, 3, 4])
           (.seq
            (.seq
             (.reg [⟨(some 19), none, .e (.mov (.t 4))⟩,
               ⟨(some 20), none, .e (.bin .neq (.t 19) (.c (.int .i64 0)))⟩] [0, 3, 4, 20])
             (.cond (.t 20) [4]
              (.seq
               (.reg [⟨(some 21), none, .e (.mov (.t 4))⟩,
                 ⟨(some 2), none, .e (.mov (.t 21))⟩] [2])
               (.ret [2]))
              [0, 3]
              .skip))
            (.seq
             (.reg [⟨(some 22), none, .e (.mov (.t 3))⟩,
               ⟨(some 23), none, .e (.bin .gtr (.t 22) (.c (.int .i64 0)))⟩,
               ⟨(some 24), none, .e (.mov (.t 23))⟩,
               ⟨(some 25), (some (24, true)), .e (.mov (.t 0))⟩,
               ⟨(some 26), (some (24, true)), .e (.mov (.t 3))⟩,
               ⟨(some 27), (some (24, true)), .e (.iad 5 (.t 25) (.t 26))⟩,
               ⟨(some 28), (some (24, true)), .e (.fad 0 (.t 27))⟩,
               ⟨(some 29), (some (24, true)), .e (.load false 1 (.t 28))⟩,
               ⟨(some 30), (some (24, true)), .e (.mov (.t 0))⟩,
               ⟨(some 31), (some (24, true)), .e (.mov (.t 3))⟩,
               ⟨(some 32), (some (24, true)), .e (.bin .sub (.t 31) (.c (.int .i64 1)))⟩,
               ⟨(some 33), (some (24, true)), .e (.iad 5 (.t 30) (.t 32))⟩,
               ⟨(some 34), (some (24, true)), .e (.fad 0 (.t 33))⟩,
               ⟨(some 35), (some (24, true)), .e (.load false 1 (.t 34))⟩,
               ⟨(some 36), (some (24, true)), .e (.bin .leq (.t 29) (.t 35))⟩,
               ⟨(some 37), none, .e (.pick (.t 24) (.t 36) (.c (.bool false)))⟩] [0, 3, 37])
             (.cond (.t 37) []
              (.seq
               (.reg [⟨(some 2), none, .e (.mov (.c (.int .i64 13)))⟩] [2])
               (.ret [2]))
              [0, 3]
              .skip)))))
         (.reg [⟨(some 12), none, .e (.mov (.t 3))⟩,
           ⟨(some 13), none, .e (.bin .add (.t 12) (.c (.int .i64 1)))⟩,
           ⟨(some 3), none, .e (.mov (.t 13))⟩] [0, 3]))))))
    (.seq
     (.reg [⟨(some 2), none, .e (.mov (.c (.int .i64 0)))⟩] [2])
     (.ret [2])))))
theorem p10 : sight Tryz.prog 10 c10 = some (38, [.t 2], c10) := by kernel_rfl
/-- ballast/ballastref10.FindNode -/
def c13 : AC :=
 (.seq
  (.reg [⟨(some 4), none, .alloc 5 43 (.agg [(.str []), .nils, .nils, .nils, (.bool false)])⟩,
    ⟨(some 5), none, .e (.mov (.c (.bool false)))⟩] [0, 1, 4])
  (.seq
   (.seq
    (.reg [⟨(some 6), none, .e (.mov (.c (.int .i64 0)))⟩] [0, 1, 4, 6])
    (.block 0
     (.loop [0, 1, 4, 6]
      (.seq
       (.seq
        (.reg [⟨(some 7), none, .e (.mov (.t 6))⟩,
          ⟨(some 8), none, .e (.mov (.t 0))⟩,
          ⟨(some 9), none, .e (.lenL (.t 8))⟩,
          ⟨(some 10), none, .e (.bin .lss (.t 7) (.t 9))⟩] [0, 1, 4, 6, 10])
        (.cond (.t 10) [0, 1, 4, 6]
         .skip
         [4]
         (.exit 0 [4])))
       (.seq
        (.block 1
         (.seq
          (.reg [⟨(some 13), none, .e (.mov (.t 0))⟩,
            ⟨(some 14), none, .e (.mov (.t 6))⟩,
            ⟨(some 15), none, .e (.iad 5 (.t 13) (.t 14))⟩,
            ⟨(some 16), none, .e (.fad 0 (.t 15))⟩,
            ⟨(some 17), none, .e (.load false 1 (.t 16))⟩,
            ⟨(some 18), none, .e (.mov (.t 1))⟩,
            ⟨(some 19), none, .e (.bin .eql (.t 17) (.t 18))⟩] [0, 1, 4, 6, 19])
          (.cond (.t 19) [0, 4, 6]
           (.seq
            (.reg [⟨(some 20), none, .e (.mov (.t 0))⟩,
              ⟨(some 21), none, .e (.mov (.t 6))⟩,
              ⟨(some 22), none, .e (.iad 5 (.t 20) (.t 21))⟩,
              ⟨(some 23), none, .e (.load true 5 (.t 22))⟩,
              ⟨none, none, .store 5 (.t 4) (.t 23)⟩,
              ⟨(some 5), none, .e (.mov (.c (.bool true)))⟩] [4, 5])
            (.ret [4, 5]))
           [0, 1, 4, 6]
           .skip)))
        (.reg [⟨(some 11), none, .e (.mov (.t 6))⟩,
          ⟨(some 12), none, .e (.bin .add (.t 11) (.c (.int .i64 1)))⟩,
          ⟨(some 6), none, .e (.mov (.t 12))⟩] [0, 1, 4, 6]))))))
   (.seq
    (.reg [⟨(some 24), none, .e (.bld [(.str []), .nils, .nils, .nils, (.bool false)] [])⟩,
      ⟨none, none, .store 5 (.t 4) (.t 24)⟩,
      ⟨(some 5), none, .e (.mov (.c (.bool false)))⟩] [4, 5])
    (.ret [4, 5]))))
theorem p13 : sight Tryz.prog 13 c13 = some (25, [.c 4 true 5, .t 5], c13) := by kernel_rfl
/-- ballast/ballastref10.SameNode -/
def c14 : AC :=
 (.seq
  (.reg [⟨(some 2), none, .box 5 43 (.t 0)⟩,
    ⟨(some 3), none, .box 5 43 (.t 1)⟩,
    ⟨(some 4), none, .e (.mov (.c (.bool false)))⟩] [2, 3])
  (.seq
   (.reg [⟨(some 5), none, .e (.fad 0 (.t 2))⟩,
     ⟨(some 6), none, .e (.load false 1 (.t 5))⟩,
     ⟨(some 7), none, .e (.fad 0 (.t 3))⟩,
     ⟨(some 8), none, .e (.load false 1 (.t 7))⟩,
     ⟨(some 9), none, .e (.bin .eql (.t 6) (.t 8))⟩,
     ⟨(some 10), none, .e (.mov (.t 9))⟩,
     ⟨(some 11), (some (10, true)), .e (.fad 4 (.t 2))⟩,
     ⟨(some 12), (some (10, true)), .e (.load false 1 (.t 11))⟩,
     ⟨(some 13), (some (10, true)), .e (.fad 4 (.t 3))⟩,
     ⟨(some 14), (some (10, true)), .e (.load false 1 (.t 13))⟩,
     ⟨(some 15), (some (10, true)), .e (.binB .eql (.t 12) (.t 14))⟩,
     ⟨(some 16), none, .e (.pick (.t 10) (.t 15) (.c (.bool false)))⟩,
     ⟨(some 17), none, .e (.mov (.t 16))⟩,
     ⟨(some 18), (some (17, true)), .e (.fad 1 (.t 2))⟩,
     ⟨(some 19), (some (17, true)), .e (.load false 1 (.t 18))⟩,
     ⟨(some 20), (some (17, true)), .e (.fad 1 (.t 3))⟩,
     ⟨(some 21), (some (17, true)), .e (.load false 1 (.t 20))⟩,
     ⟨(some 22), (some (17, true)), .callV 38 [(.t 19), (.t 21)]⟩,
     ⟨(some 23), none, .e (.pick (.t 17) (.t 22) (.c (.bool false)))⟩,
     ⟨(some 24), none, .e (.mov (.t 23))⟩,
     ⟨(some 25), (some (24, true)), .e (.fad 2 (.t 2))⟩,
     ⟨(some 26), (some (24, true)), .e (.load false 1 (.t 25))⟩,
     ⟨(some 27), (some (24, true)), .e (.fad 2 (.t 3))⟩,
     ⟨(some 28), (some (24, true)), .e (.load false 1 (.t 27))⟩,
     ⟨(some 29), (some (24, true)), .callV 39 [(.t 26), (.t 28)]⟩,
     ⟨(some 30), none, .e (.pick (.t 24) (.t 29) (.c (.bool false)))⟩,
     ⟨(some 31), none, .e (.mov (.t 30))⟩,
     ⟨(some 32), (some (31, true)), .e (.fad 3 (.t 2))⟩,
     ⟨(some 33), (some (31, true)), .e (.load false 1 (.t 32))⟩,
     ⟨(some 34), (some (31, true)), .e (.fad 3 (.t 3))⟩,
     ⟨(some 35), (some (31, true)), .e (.load false 1 (.t 34))⟩,
     ⟨(some 36), (some (31, true)), .callV 40 [(.t 33), (.t 35)]⟩,
     ⟨(some 37), none, .e (.pick (.t 31) (.t 36) (.c (.bool false)))⟩,
     ⟨(some 4), none, .e (.mov (.t 37))⟩] [4])
   (.ret [4])))
theorem p14 : sight Tryz.prog 14 c14 = some (38, [.t 4], c14) := by kernel_rfl
/-- ballast/ballastref10.CheckPods -/
def c19 : AC :=
 (.seq
  (.reg [⟨(some 2), none, .e (.mov (.c (.int .i64 0)))⟩] [0])
  (.seq
   (.seq
    (.reg [⟨(some 5), none, .e (.mov (.t 0))⟩,
      ⟨(some 6), none, .e (.lenL (.t 5))⟩,
      ⟨(some 7), none, .e (.bin .gtr (.t 6) (.c (.int .i64 128)))⟩] [0, 7])
    (.cond (.t 7) []
     (.seq
      (.reg [⟨(some 2), none, .e (.mov (.c (.int .i64 4)))⟩] [2])
      (.ret [2]))
     [0]
     .skip))
   (.seq
    (.seq
     (.reg [⟨(some 3), none, .e (.mov (.c (.int .i64 0)))⟩] [0, 3])
     (.block 0
      (.loop [0, 3]
       (.seq
        (.seq
         (.reg [⟨(some 8), none, .e (.mov (.t 3))⟩,
           ⟨(some 9), none, .e (.mov (.t 0))⟩,
           ⟨(some 10), none, .e (.lenL (.t 9))⟩,
           ⟨(some 11), none, .e (.bin .lss (.t 8) (.t 10))⟩] [0, 3, 11])
         (.cond (.t 11) [0, 3]
          .skip
          []
          (.exit 0 [])))
        (.seq
         (.block 1
          (.seq
           (.reg [⟨(some 14), none, .e (.mov (.t 0))⟩,
             ⟨(some 15), none, .e (.mov (.t 3))⟩,
             ⟨(some 16), none, .e (.iad 11 (.t 14) (.t 15))⟩,
             ⟨(some 17), none, .e (.load true 11 (.t 16))⟩,
             ⟨(some 18), none, .callV 25 [(.t 17)]⟩,
             ⟨(some 4), none, .e (.mov (.t 18))⟩] [0, 3, 4])
           (.seq
            (.seq
             (.reg [⟨(some 19), none, .e (.mov (.t 4))⟩,
               ⟨(some 20), none, .e (.bin .neq (.t 19) (.c (.int .i64 0)))⟩] [0, 3, 4, 20])
             (.cond (.t 20) [4]
              (.seq
               (.reg [⟨(some 21), none, .e (.mov (.t 4))⟩,
                 ⟨(some 2), none, .e (.mov (.t 21))⟩] [2])
               (.ret [2]))
              [0, 3]
              .skip))
            (.seq
             (.reg [⟨(some 22), none, .e (.mov (.t 3))⟩,
               ⟨(some 23), none, .e (.bin .gtr (.t 22) (.c (.int .i64 0)))⟩,
               ⟨(some 24), none, .e (.mov (.t 23))⟩,
               ⟨(some 25), (some (24, true)), .e (.mov (.t 0))⟩,
               ⟨(some 26), (some (24, true)), .e (.mov (.t 3))⟩,
               ⟨(some 27), (some (24, true)), .e (.iad 11 (.t 25) (.t 26))⟩,
               ⟨(some 28), (some (24, true)), .e (.fad 0 (.t 27))⟩,
               ⟨(some 29), (some (24, true)), .e (.load false 1 (.t 28))⟩,
               ⟨(some 30), (some (24, true)), .e (.mov (.t 0))⟩,
               ⟨(some 31), (some (24, true)), .e (.mov (.t 3))⟩,
               ⟨(some 32), (some (24, true)), .e (.bin .sub (.t 31) (.c (.int .i64 1)))⟩,
               ⟨(some 33), (some (24, true)), .e (.iad 11 (.t 30) (.t 32))⟩,
               ⟨(some 34), (some (24, true)), .e (.fad 0 (.t 33))⟩,
               ⟨(some 35), (some (24, true)), .e (.load false 1 (.t 34))⟩,
               ⟨(some 36), (some (24, true)), .e (.bin .leq (.t 29) (.t 35))⟩,
               ⟨(some 37), none, .e (.pick (.t 24) (.t 36) (.c (.bool false)))⟩] [0, 3, 37])
             (.cond (.t 37) []
              (.seq
               (.reg [⟨(some 2), none, .e (.mov (.c (.int .i64 13)))⟩] [2])
               (.ret [2]))
              [0, 3]
              .skip)))))
         (.reg [⟨(some 12), none, .e (.mov (.t 3))⟩,
           ⟨(some 13), none, .e (.bin .add (.t 12) (.c (.int .i64 1)))⟩,
           ⟨(some 3), none, .e (.mov (.t 13))⟩] [0, 3]))))))
    (.seq
     (.reg [⟨(some 2), none, .e (.mov (.c (.int .i64 0)))⟩] [2])
     (.ret [2])))))
theorem p19 : sight Tryz.prog 19 c19 = some (38, [.t 2], c19) := by kernel_rfl
/-- ballast/ballastref10.FindPod -/
def c22 : AC :=
 (.seq
  (.reg [⟨(some 4), none, .alloc 11 69 (.agg [(.str []), (.str []), (.int .i64 0), .nils, .nils, .nils, .nils, (.str []), (.int .i64 0), (.str []), (.bool false)])⟩,
    ⟨(some 5), none, .e (.mov (.c (.bool false)))⟩] [0, 1, 4])
  (.seq
   (.seq
    (.reg [⟨(some 6), none, .e (.mov (.c (.int .i64 0)))⟩] [0, 1, 4, 6])
    (.block 0
     (.loop [0, 1, 4, 6]
      (.seq
       (.seq
        (.reg [⟨(some 7), none, .e (.mov (.t 6))⟩,
          ⟨(some 8), none, .e (.mov (.t 0))⟩,
          ⟨(some 9), none, .e (.lenL (.t 8))⟩,
          ⟨(some 10), none, .e (.bin .lss (.t 7) (.t 9))⟩] [0, 1, 4, 6, 10])
        (.cond (.t 10) [0, 1, 4, 6]
         .skip
         [4]
         (.exit 0 [4])))
       (.seq
        (.block 1
         (.seq
          (.reg [⟨(some 13), none, .e (.mov (.t 0))⟩,
            ⟨(some 14), none, .e (.mov (.t 6))⟩,
            ⟨(some 15), none, .e (.iad 11 (.t 13) (.t 14))⟩,
            ⟨(some 16), none, .e (.fad 0 (.t 15))⟩,
            ⟨(some 17), none, .e (.load false 1 (.t 16))⟩,
            ⟨(some 18), none, .e (.mov (.t 1))⟩,
            ⟨(some 19), none, .e (.bin .eql (.t 17) (.t 18))⟩] [0, 1, 4, 6, 19])
          (.cond (.t 19) [0, 4, 6]
           (.seq
            (.reg [⟨(some 20), none, .e (.mov (.t 0))⟩,
              ⟨(some 21), none, .e (.mov (.t 6))⟩,
              ⟨(some 22), none, .e (.iad 11 (.t 20) (.t 21))⟩,
              ⟨(some 23), none, .e (.load true 11 (.t 22))⟩,
              ⟨none, none, .store 11 (.t 4) (.t 23)⟩,
              ⟨(some 5), none, .e (.mov (.c (.bool true)))⟩] [4, 5])
            (.ret [4, 5]))
           [0, 1, 4, 6]
           .skip)))
        (.reg [⟨(some 11), none, .e (.mov (.t 6))⟩,
          ⟨(some 12), none, .e (.bin .add (.t 11) (.c (.int .i64 1)))⟩,
          ⟨(some 6), none, .e (.mov (.t 12))⟩] [0, 1, 4, 6]))))))
   (.seq
    (.reg [⟨(some 24), none, .e (.bld [(.str []), (.str []), (.int .i64 0), .nils, .nils, .nils, .nils, (.str []), (.int .i64 0), (.str []), (.bool false)] [])⟩,
      ⟨none, none, .store 11 (.t 4) (.t 24)⟩,
      ⟨(some 5), none, .e (.mov (.c (.bool false)))⟩] [4, 5])
    (.ret [4, 5]))))
theorem p22 : sight Tryz.prog 22 c22 = some (25, [.c 4 true 11, .t 5], c22) := by kernel_rfl
/-- ballast/ballastref10.SamePod -/
def c23 : AC :=
 (.seq
  (.reg [⟨(some 2), none, .box 11 69 (.t 0)⟩,
    ⟨(some 3), none, .box 11 69 (.t 1)⟩,
    ⟨(some 4), none, .e (.mov (.c (.bool false)))⟩] [2, 3])
  (.seq
   (.reg [⟨(some 5), none, .e (.fad 0 (.t 2))⟩,
     ⟨(some 6), none, .e (.load false 1 (.t 5))⟩,
     ⟨(some 7), none, .e (.fad 0 (.t 3))⟩,
     ⟨(some 8), none, .e (.load false 1 (.t 7))⟩,
     ⟨(some 9), none, .e (.bin .eql (.t 6) (.t 8))⟩,
     ⟨(some 10), none, .e (.mov (.t 9))⟩,
     ⟨(some 11), (some (10, true)), .e (.fad 1 (.t 2))⟩,
     ⟨(some 12), (some (10, true)), .e (.load false 1 (.t 11))⟩,
     ⟨(some 13), (some (10, true)), .e (.fad 1 (.t 3))⟩,
     ⟨(some 14), (some (10, true)), .e (.load false 1 (.t 13))⟩,
     ⟨(some 15), (some (10, true)), .e (.bin .eql (.t 12) (.t 14))⟩,
     ⟨(some 16), none, .e (.pick (.t 10) (.t 15) (.c (.bool false)))⟩,
     ⟨(some 17), none, .e (.mov (.t 16))⟩,
     ⟨(some 18), (some (17, true)), .e (.fad 2 (.t 2))⟩,
     ⟨(some 19), (some (17, true)), .e (.load false 1 (.t 18))⟩,
     ⟨(some 20), (some (17, true)), .e (.fad 2 (.t 3))⟩,
     ⟨(some 21), (some (17, true)), .e (.load false 1 (.t 20))⟩,
     ⟨(some 22), (some (17, true)), .e (.bin .eql (.t 19) (.t 21))⟩,
     ⟨(some 23), none, .e (.pick (.t 17) (.t 22) (.c (.bool false)))⟩,
     ⟨(some 24), none, .e (.mov (.t 23))⟩,
     ⟨(some 25), (some (24, true)), .e (.fad 3 (.t 2))⟩,
     ⟨(some 26), (some (24, true)), .e (.load false 1 (.t 25))⟩,
     ⟨(some 27), (some (24, true)), .e (.fad 3 (.t 3))⟩,
     ⟨(some 28), (some (24, true)), .e (.load false 1 (.t 27))⟩,
     ⟨(some 29), (some (24, true)), .callV 38 [(.t 26), (.t 28)]⟩,
     ⟨(some 30), none, .e (.pick (.t 24) (.t 29) (.c (.bool false)))⟩,
     ⟨(some 31), none, .e (.mov (.t 30))⟩,
     ⟨(some 32), (some (31, true)), .e (.fad 4 (.t 2))⟩,
     ⟨(some 33), (some (31, true)), .e (.load false 1 (.t 32))⟩,
     ⟨(some 34), (some (31, true)), .e (.fad 4 (.t 3))⟩,
     ⟨(some 35), (some (31, true)), .e (.load false 1 (.t 34))⟩,
     ⟨(some 36), (some (31, true)), .callV 39 [(.t 33), (.t 35)]⟩,
     ⟨(some 37), none, .e (.pick (.t 31) (.t 36) (.c (.bool false)))⟩,
     ⟨(some 38), none, .e (.mov (.t 37))⟩,
     ⟨(some 39), (some (38, true)), .e (.fad 5 (.t 2))⟩,
     ⟨(some 40), (some (38, true)), .e (.load false 1 (.t 39))⟩,
     ⟨(some 41), (some (38, true)), .e (.fad 5 (.t 3))⟩,
     ⟨(some 42), (some (38, true)), .e (.load false 1 (.t 41))⟩,
     ⟨(some 43), (some (38, true)), .callV 51 [(.t 40), (.t 42)]⟩,
     ⟨(some 44), none, .e (.pick (.t 38) (.t 43) (.c (.bool false)))⟩,
     ⟨(some 45), none, .e (.mov (.t 44))⟩,
     ⟨(some 46), (some (45, true)), .e (.fad 6 (.t 2))⟩,
     ⟨(some 47), (some (45, true)), .e (.load false 1 (.t 46))⟩,
     ⟨(some 48), (some (45, true)), .e (.fad 6 (.t 3))⟩,
     ⟨(some 49), (some (45, true)), .e (.load false 1 (.t 48))⟩,
     ⟨(some 50), (some (45, true)), .callV 52 [(.t 47), (.t 49)]⟩,
     ⟨(some 51), none, .e (.pick (.t 45) (.t 50) (.c (.bool false)))⟩,
     ⟨(some 52), none, .e (.mov (.t 51))⟩,
     ⟨(some 53), (some (52, true)), .e (.fad 7 (.t 2))⟩,
     ⟨(some 54), (some (52, true)), .e (.load false 1 (.t 53))⟩,
     ⟨(some 55), (some (52, true)), .e (.fad 7 (.t 3))⟩,
     ⟨(some 56), (some (52, true)), .e (.load false 1 (.t 55))⟩,
     ⟨(some 57), (some (52, true)), .e (.bin .eql (.t 54) (.t 56))⟩,
     ⟨(some 58), none, .e (.pick (.t 52) (.t 57) (.c (.bool false)))⟩,
     ⟨(some 59), none, .e (.mov (.t 58))⟩,
     ⟨(some 60), (some (59, true)), .e (.fad 8 (.t 2))⟩,
     ⟨(some 61), (some (59, true)), .e (.load false 1 (.t 60))⟩,
     ⟨(some 62), (some (59, true)), .e (.fad 8 (.t 3))⟩,
     ⟨(some 63), (some (59, true)), .e (.load false 1 (.t 62))⟩,
     ⟨(some 64), (some (59, true)), .e (.bin .eql (.t 61) (.t 63))⟩,
     ⟨(some 65), none, .e (.pick (.t 59) (.t 64) (.c (.bool false)))⟩,
     ⟨(some 66), none, .e (.mov (.t 65))⟩,
     ⟨(some 67), (some (66, true)), .e (.fad 9 (.t 2))⟩,
     ⟨(some 68), (some (66, true)), .e (.load false 1 (.t 67))⟩,
     ⟨(some 69), (some (66, true)), .e (.fad 9 (.t 3))⟩,
     ⟨(some 70), (some (66, true)), .e (.load false 1 (.t 69))⟩,
     ⟨(some 71), (some (66, true)), .e (.bin .eql (.t 68) (.t 70))⟩,
     ⟨(some 72), none, .e (.pick (.t 66) (.t 71) (.c (.bool false)))⟩,
     ⟨(some 73), none, .e (.mov (.t 72))⟩,
     ⟨(some 74), (some (73, true)), .e (.fad 10 (.t 2))⟩,
     ⟨(some 75), (some (73, true)), .e (.load false 1 (.t 74))⟩,
     ⟨(some 76), (some (73, true)), .e (.fad 10 (.t 3))⟩,
     ⟨(some 77), (some (73, true)), .e (.load false 1 (.t 76))⟩,
     ⟨(some 78), (some (73, true)), .e (.binB .eql (.t 75) (.t 77))⟩,
     ⟨(some 79), none, .e (.pick (.t 73) (.t 78) (.c (.bool false)))⟩,
     ⟨(some 4), none, .e (.mov (.t 79))⟩] [4])
   (.ret [4])))
theorem p23 : sight Tryz.prog 23 c23 = some (80, [.t 4], c23) := by kernel_rfl
/-- ballast/ballastref10.CheckPod -/
def c25 : AC :=
 (.seq
  (.reg [⟨(some 1), none, .box 11 69 (.t 0)⟩,
    ⟨(some 2), none, .e (.mov (.c (.int .i64 0)))⟩] [1])
  (.seq
   (.seq
    (.reg [⟨(some 4), none, .e (.fad 0 (.t 1))⟩,
      ⟨(some 5), none, .e (.load false 1 (.t 4))⟩,
      ⟨(some 6), none, .callV 55 [(.t 5)]⟩,
      ⟨(some 7), none, .e (.un .not (.t 6))⟩,
      ⟨(some 8), none, .e (.mov (.t 7))⟩,
      ⟨(some 9), (some (8, false)), .e (.fad 1 (.t 1))⟩,
      ⟨(some 10), (some (8, false)), .e (.load false 1 (.t 9))⟩,
      ⟨(some 11), (some (8, false)), .e (.bin .neq (.t 10) (.c (.str [])))⟩,
      ⟨(some 12), (some (8, false)), .e (.mov (.t 11))⟩,
      ⟨(some 13), (some (12, true)), .e (.fad 1 (.t 1))⟩,
      ⟨(some 14), (some (12, true)), .e (.load false 1 (.t 13))⟩,
      ⟨(some 15), (some (12, true)), .callV 55 [(.t 14)]⟩,
      ⟨(some 16), (some (12, true)), .e (.un .not (.t 15))⟩,
      ⟨(some 17), (some (8, false)), .e (.pick (.t 12) (.t 16) (.c (.bool false)))⟩,
      ⟨(some 18), none, .e (.pick (.t 8) (.c (.bool true)) (.t 17))⟩] [1, 18])
    (.cond (.t 18) []
     (.seq
      (.reg [⟨(some 2), none, .e (.mov (.c (.int .i64 3)))⟩] [2])
      (.ret [2]))
     [1]
     .skip))
   (.seq
    (.seq
     (.reg [⟨(some 19), none, .e (.fad 2 (.t 1))⟩,
       ⟨(some 20), none, .e (.load false 1 (.t 19))⟩,
       ⟨(some 21), none, .e (.bin .lss (.t 20) (.c (.int .i64 (-1))))⟩,
       ⟨(some 22), none, .e (.mov (.t 21))⟩,
       ⟨(some 23), (some (22, false)), .e (.fad 2 (.t 1))⟩,
       ⟨(some 24), (some (22, false)), .e (.load false 1 (.t 23))⟩,
       ⟨(some 25), (some (22, false)), .e (.bin .gtr (.t 24) (.c (.int .i64 1000000)))⟩,
       ⟨(some 26), none, .e (.pick (.t 22) (.c (.bool true)) (.t 25))⟩,
       ⟨(some 27), none, .e (.mov (.t 26))⟩,
       ⟨(some 28), (some (27, false)), .e (.fad 10 (.t 1))⟩,
       ⟨(some 29), (some (27, false)), .e (.load false 1 (.t 28))⟩,
       ⟨(some 30), (some (27, false)), .e (.fad 2 (.t 1))⟩,
       ⟨(some 31), (some (27, false)), .e (.load false 1 (.t 30))⟩,
       ⟨(some 32), (some (27, false)), .e (.bin .eql (.t 31) (.c (.int .i64 (-1))))⟩,
       ⟨(some 33), (some (27, false)), .e (.binB .neq (.t 29) (.t 32))⟩,
       ⟨(some 34), none, .e (.pick (.t 27) (.c (.bool true)) (.t 33))⟩] [1, 34])
     (.cond (.t 34) []
      (.seq
       (.reg [⟨(some 2), none, .e (.mov (.c (.int .i64 1)))⟩] [2])
       (.ret [2]))
      [1]
      .skip))
    (.seq
     (.reg [⟨(some 35), none, .e (.fad 3 (.t 1))⟩,
       ⟨(some 36), none, .e (.load false 1 (.t 35))⟩,
       ⟨(some 37), none, .callV 56 [(.t 36)]⟩,
       ⟨(some 3), none, .e (.mov (.t 37))⟩] [1, 3])
     (.seq
      (.seq
       (.reg [⟨(some 38), none, .e (.mov (.t 3))⟩,
         ⟨(some 39), none, .e (.bin .neq (.t 38) (.c (.int .i64 0)))⟩] [1, 3, 39])
       (.cond (.t 39) [3]
        (.seq
         (.reg [⟨(some 40), none, .e (.mov (.t 3))⟩,
           ⟨(some 2), none, .e (.mov (.t 40))⟩] [2])
         (.ret [2]))
        [1]
        .skip))
      (.seq
       (.reg [⟨(some 41), none, .e (.fad 4 (.t 1))⟩,
         ⟨(some 42), none, .e (.load false 1 (.t 41))⟩,
         ⟨(some 43), none, .callV 57 [(.t 42)]⟩,
         ⟨(some 3), none, .e (.mov (.t 43))⟩] [1, 3])
       (.seq
        (.seq
         (.reg [⟨(some 44), none, .e (.mov (.t 3))⟩,
           ⟨(some 45), none, .e (.bin .neq (.t 44) (.c (.int .i64 0)))⟩] [1, 3, 45])
         (.cond (.t 45) [3]
          (.seq
           (.reg [⟨(some 46), none, .e (.mov (.t 3))⟩,
             ⟨(some 2), none, .e (.mov (.t 46))⟩] [2])
           (.ret [2]))
          [1]
          .skip))
        (.seq
         (.reg [⟨(some 47), none, .e (.fad 5 (.t 1))⟩,
           ⟨(some 48), none, .e (.load false 1 (.t 47))⟩,
           ⟨(some 49), none, .callV 58 [(.t 48)]⟩,
           ⟨(some 3), none, .e (.mov (.t 49))⟩] [1, 3])
         (.seq
          (.seq
           (.reg [⟨(some 50), none, .e (.mov (.t 3))⟩,
             ⟨(some 51), none, .e (.bin .neq (.t 50) (.c (.int .i64 0)))⟩] [1, 3, 51])
           (.cond (.t 51) [3]
            (.seq
             (.reg [⟨(some 52), none, .e (.mov (.t 3))⟩,
               ⟨(some 2), none, .e (.mov (.t 52))⟩] [2])
             (.ret [2]))
            [1]
            .skip))
          (.seq
           (.reg [⟨(some 53), none, .e (.fad 6 (.t 1))⟩,
             ⟨(some 54), none, .e (.load false 1 (.t 53))⟩,
             ⟨(some 55), none, .callV 59 [(.t 54)]⟩,
             ⟨(some 3), none, .e (.mov (.t 55))⟩] [1, 3])
           (.seq
            (.seq
             (.reg [⟨(some 56), none, .e (.mov (.t 3))⟩,
               ⟨(some 57), none, .e (.bin .neq (.t 56) (.c (.int .i64 0)))⟩] [1, 3, 57])
             (.cond (.t 57) [3]
              (.seq
               (.reg [⟨(some 58), none, .e (.mov (.t 3))⟩,
                 ⟨(some 2), none, .e (.mov (.t 58))⟩] [2])
               (.ret [2]))
              [1]
              .skip))
            (.seq
             (.seq
              (.reg [⟨(some 59), none, .e (.fad 7 (.t 1))⟩,
                ⟨(some 60), none, .e (.load false 1 (.t 59))⟩,
                ⟨(some 61), none, .e (.bin .neq (.t 60) (.c (.str [])))⟩,
                ⟨(some 62), none, .e (.mov (.t 61))⟩,
                ⟨(some 63), (some (62, true)), .e (.fad 7 (.t 1))⟩,
                ⟨(some 64), (some (62, true)), .e (.load false 1 (.t 63))⟩,
                ⟨(some 65), (some (62, true)), .callV 55 [(.t 64)]⟩,
                ⟨(some 66), (some (62, true)), .e (.un .not (.t 65))⟩,
                ⟨(some 67), none, .e (.pick (.t 62) (.t 66) (.c (.bool false)))⟩] [1, 67])
              (.cond (.t 67) []
               (.seq
                (.reg [⟨(some 2), none, .e (.mov (.c (.int .i64 3)))⟩] [2])
                (.ret [2]))
               [1]
               .skip))
             (.seq
              (.seq
               (.reg [⟨(some 68), none, .e (.fad 7 (.t 1))⟩,
                 ⟨(some 69), none, .e (.load false 1 (.t 68))⟩,
                 ⟨(some 70), none, .e (.bin .neq (.t 69) (.c (.str [])))⟩,
                 ⟨(some 71), none, .e (.mov (.t 70))⟩,
                 ⟨(some 72), (some (71, true)), .e (.fad 8 (.t 1))⟩,
                 ⟨(some 73), (some (71, true)), .e (.load false 1 (.t 72))⟩,
                 ⟨(some 74), (some (71, true)), .e (.bin .lss (.t 73) (.c (.int .i64 1)))⟩,
                 ⟨(some 75), (some (71, true)), .e (.mov (.t 74))⟩,
                 ⟨(some 76), (some (75, false)), .e (.fad 8 (.t 1))⟩,
                 ⟨(some 77), (some (75, false)), .e (.load false 1 (.t 76))⟩,
                 ⟨(some 78), (some (75, false)), .e (.bin .gtr (.t 77) (.c (.int .i64 128)))⟩,
                 ⟨(some 79), (some (71, true)), .e (.pick (.t 75) (.c (.bool true)) (.t 78))⟩,
                 ⟨(some 80), none, .e (.pick (.t 71) (.t 79) (.c (.bool false)))⟩,
                 ⟨(some 81), none, .e (.mov (.t 80))⟩,
                 ⟨(some 82), (some (81, false)), .e (.fad 7 (.t 1))⟩,
                 ⟨(some 83), (some (81, false)), .e (.load false 1 (.t 82))⟩,
                 ⟨(some 84), (some (81, false)), .e (.bin .eql (.t 83) (.c (.str [])))⟩,
                 ⟨(some 85), (some (81, false)), .e (.mov (.t 84))⟩,
                 ⟨(some 86), (some (85, true)), .e (.fad 8 (.t 1))⟩,
                 ⟨(some 87), (some (85, true)), .e (.load false 1 (.t 86))⟩,
                 ⟨(some 88), (some (85, true)), .e (.bin .neq (.t 87) (.c (.int .i64 0)))⟩,
                 ⟨(some 89), (some (81, false)), .e (.pick (.t 85) (.t 88) (.c (.bool false)))⟩,
                 ⟨(some 90), none, .e (.pick (.t 81) (.c (.bool true)) (.t 89))⟩] [1, 90])
               (.cond (.t 90) []
                (.seq
                 (.reg [⟨(some 2), none, .e (.mov (.c (.int .i64 1)))⟩] [2])
                 (.ret [2]))
                [1]
                .skip))
              (.seq
               (.seq
                (.reg [⟨(some 91), none, .e (.fad 9 (.t 1))⟩,
                  ⟨(some 92), none, .e (.load false 1 (.t 91))⟩,
                  ⟨(some 93), none, .e (.bin .neq (.t 92) (.c (.str [])))⟩,
                  ⟨(some 94), none, .e (.mov (.t 93))⟩,
                  ⟨(some 95), (some (94, true)), .e (.fad 9 (.t 1))⟩,
                  ⟨(some 96), (some (94, true)), .e (.load false 1 (.t 95))⟩,
                  ⟨(some 97), (some (94, true)), .callV 55 [(.t 96)]⟩,
                  ⟨(some 98), (some (94, true)), .e (.un .not (.t 97))⟩,
                  ⟨(some 99), none, .e (.pick (.t 94) (.t 98) (.c (.bool false)))⟩] [99])
                (.cond (.t 99) []
                 (.seq
                  (.reg [⟨(some 2), none, .e (.mov (.c (.int .i64 3)))⟩] [2])
                  (.ret [2]))
                 []
                 .skip))
               (.seq
                (.reg [⟨(some 2), none, .e (.mov (.c (.int .i64 0)))⟩] [2])
                (.ret [2]))))))))))))))))
theorem p25 : sight Tryz.prog 25 c25 = some (100, [.t 2], c25) := by kernel_rfl
/-- ballast/ballastref10.CheckNode -/
def c35 : AC :=
 (.seq
  (.reg [⟨(some 1), none, .box 5 43 (.t 0)⟩,
    ⟨(some 2), none, .e (.mov (.c (.int .i64 0)))⟩] [1])
  (.seq
   (.seq
    (.reg [⟨(some 4), none, .e (.fad 0 (.t 1))⟩,
      ⟨(some 5), none, .e (.load false 1 (.t 4))⟩,
      ⟨(some 6), none, .callV 55 [(.t 5)]⟩,
      ⟨(some 7), none, .e (.un .not (.t 6))⟩] [1, 7])
    (.cond (.t 7) []
     (.seq
      (.reg [⟨(some 2), none, .e (.mov (.c (.int .i64 3)))⟩] [2])
      (.ret [2]))
     [1]
     .skip))
   (.seq
    (.reg [⟨(some 8), none, .e (.fad 1 (.t 1))⟩,
      ⟨(some 9), none, .e (.load false 1 (.t 8))⟩,
      ⟨(some 10), none, .callV 56 [(.t 9)]⟩,
      ⟨(some 3), none, .e (.mov (.t 10))⟩] [1, 3])
    (.seq
     (.seq
      (.reg [⟨(some 11), none, .e (.mov (.t 3))⟩,
        ⟨(some 12), none, .e (.bin .neq (.t 11) (.c (.int .i64 0)))⟩] [1, 3, 12])
      (.cond (.t 12) [3]
       (.seq
        (.reg [⟨(some 13), none, .e (.mov (.t 3))⟩,
          ⟨(some 2), none, .e (.mov (.t 13))⟩] [2])
        (.ret [2]))
       [1]
       .skip))
     (.seq
      (.reg [⟨(some 14), none, .e (.fad 2 (.t 1))⟩,
        ⟨(some 15), none, .e (.load false 1 (.t 14))⟩,
        ⟨(some 16), none, .callV 57 [(.t 15)]⟩,
        ⟨(some 3), none, .e (.mov (.t 16))⟩] [1, 3])
      (.seq
       (.seq
        (.reg [⟨(some 17), none, .e (.mov (.t 3))⟩,
          ⟨(some 18), none, .e (.bin .neq (.t 17) (.c (.int .i64 0)))⟩] [1, 3, 18])
        (.cond (.t 18) [3]
         (.seq
          (.reg [⟨(some 19), none, .e (.mov (.t 3))⟩,
            ⟨(some 2), none, .e (.mov (.t 19))⟩] [2])
          (.ret [2]))
         [1]
         .skip))
       (.seq
        (.reg [⟨(some 20), none, .e (.fad 3 (.t 1))⟩,
          ⟨(some 21), none, .e (.load false 1 (.t 20))⟩,
          ⟨(some 22), none, .callV 88 [(.t 21)]⟩,
          ⟨(some 2), none, .e (.mov (.t 22))⟩] [2])
        (.ret [2]))))))))
theorem p35 : sight Tryz.prog 35 c35 = some (23, [.t 2], c35) := by kernel_rfl
/-- ballast/ballastref5.SameVec -/
def c38 : AC :=
 (.seq
  (.reg [⟨(some 4), none, .e (.mov (.c (.bool false)))⟩] [0, 1])
  (.seq
   (.seq
    (.reg [⟨(some 6), none, .e (.mov (.t 0))⟩,
      ⟨(some 7), none, .e (.lenL (.t 6))⟩,
      ⟨(some 8), none, .e (.mov (.t 1))⟩,
      ⟨(some 9), none, .e (.lenL (.t 8))⟩,
      ⟨(some 10), none, .e (.bin .neq (.t 7) (.t 9))⟩] [0, 1, 10])
    (.cond (.t 10) []
     (.seq
      (.reg [⟨(some 4), none, .e (.mov (.c (.bool false)))⟩] [4])
      (.ret [4]))
     [0, 1]
     .skip))
   (.seq
    (.seq
     (.reg [⟨(some 5), none, .e (.mov (.c (.int .i64 0)))⟩] [0, 1, 5])
     (.block 0
      (.loop [0, 1, 5]
       (.seq
        (.seq
         (.reg [⟨(some 11), none, .e (.mov (.t 5))⟩,
           ⟨(some 12), none, .e (.mov (.t 0))⟩,
           ⟨(some 13), none, .e (.lenL (.t 12))⟩,
           ⟨(some 14), none, .e (.bin .lss (.t 11) (.t 13))⟩] [0, 1, 5, 14])
         (.cond (.t 14) [0, 1, 5]
          .skip
          []
          (.exit 0 [])))
        (.seq
         (.block 1
          (.seq
           (.reg [⟨(some 17), none, .e (.mov (.t 0))⟩,
             ⟨(some 18), none, .e (.mov (.t 5))⟩,
             ⟨(some 19), none, .e (.iad 2 (.t 17) (.t 18))⟩,
             ⟨(some 20), none, .e (.load true 2 (.t 19))⟩,
             ⟨(some 21), none, .e (.mov (.t 1))⟩,
             ⟨(some 22), none, .e (.mov (.t 5))⟩,
             ⟨(some 23), none, .e (.iad 2 (.t 21) (.t 22))⟩,
             ⟨(some 24), none, .e (.load true 2 (.t 23))⟩,
             ⟨(some 25), none, .e (.eqA true [.str, .int] (.t 20) (.t 24))⟩] [0, 1, 5, 25])
           (.cond (.t 25) []
            (.seq
             (.reg [⟨(some 4), none, .e (.mov (.c (.bool false)))⟩] [4])
             (.ret [4]))
            [0, 1, 5]
            .skip)))
         (.reg [⟨(some 15), none, .e (.mov (.t 5))⟩,
           ⟨(some 16), none, .e (.bin .add (.t 15) (.c (.int .i64 1)))⟩,
           ⟨(some 5), none, .e (.mov (.t 16))⟩] [0, 1, 5]))))))
    (.seq
     (.reg [⟨(some 4), none, .e (.mov (.c (.bool true)))⟩] [4])
     (.ret [4])))))
theorem p38 : sight Tryz.prog 38 c38 = some (26, [.t 4], c38) := by kernel_rfl
/-- ballast/ballastref10.sameSet -/
def c39 : AC :=
 (.seq
  (.reg [⟨(some 4), none, .e (.mov (.c (.bool false)))⟩] [0, 1])
  (.seq
   (.seq
    (.reg [⟨(some 6), none, .e (.mov (.t 0))⟩,
      ⟨(some 7), none, .e (.lenL (.t 6))⟩,
      ⟨(some 8), none, .e (.mov (.t 1))⟩,
      ⟨(some 9), none, .e (.lenL (.t 8))⟩,
      ⟨(some 10), none, .e (.bin .neq (.t 7) (.t 9))⟩] [0, 1, 10])
    (.cond (.t 10) []
     (.seq
      (.reg [⟨(some 4), none, .e (.mov (.c (.bool false)))⟩] [4])
      (.ret [4]))
     [0, 1]
     .skip))
   (.seq
    (.seq
     (.reg [⟨(some 5), none, .e (.mov (.c (.int .i64 0)))⟩] [0, 1, 5])
     (.block 0
      (.loop [0, 1, 5]
       (.seq
        (.seq
         (.reg [⟨(some 11), none, .e (.mov (.t 5))⟩,
           ⟨(some 12), none, .e (.mov (.t 0))⟩,
           ⟨(some 13), none, .e (.lenL (.t 12))⟩,
           ⟨(some 14), none, .e (.bin .lss (.t 11) (.t 13))⟩] [0, 1, 5, 14])
         (.cond (.t 14) [0, 1, 5]
          .skip
          []
          (.exit 0 [])))
        (.seq
         (.block 1
          (.seq
           (.reg [⟨(some 17), none, .e (.mov (.t 0))⟩,
             ⟨(some 18), none, .e (.mov (.t 5))⟩,
             ⟨(some 19), none, .e (.iad 2 (.t 17) (.t 18))⟩,
             ⟨(some 20), none, .e (.load true 2 (.t 19))⟩,
             ⟨(some 21), none, .e (.mov (.t 1))⟩,
             ⟨(some 22), none, .e (.mov (.t 5))⟩,
             ⟨(some 23), none, .e (.iad 2 (.t 21) (.t 22))⟩,
             ⟨(some 24), none, .e (.load true 2 (.t 23))⟩,
             ⟨(some 25), none, .e (.eqA true [.str, .str] (.t 20) (.t 24))⟩] [0, 1, 5, 25])
           (.cond (.t 25) []
            (.seq
             (.reg [⟨(some 4), none, .e (.mov (.c (.bool false)))⟩] [4])
             (.ret [4]))
            [0, 1, 5]
            .skip)))
         (.reg [⟨(some 15), none, .e (.mov (.t 5))⟩,
           ⟨(some 16), none, .e (.bin .add (.t 15) (.c (.int .i64 1)))⟩,
           ⟨(some 5), none, .e (.mov (.t 16))⟩] [0, 1, 5]))))))
    (.seq
     (.reg [⟨(some 4), none, .e (.mov (.c (.bool true)))⟩] [4])
     (.ret [4])))))
theorem p39 : sight Tryz.prog 39 c39 = some (26, [.t 4], c39) := by kernel_rfl
/-- ballast/ballastref10.sameTaints -/
def c40 : AC :=
 (.seq
  (.reg [⟨(some 4), none, .e (.mov (.c (.bool false)))⟩] [0, 1])
  (.seq
   (.seq
    (.reg [⟨(some 6), none, .e (.mov (.t 0))⟩,
      ⟨(some 7), none, .e (.lenL (.t 6))⟩,
      ⟨(some 8), none, .e (.mov (.t 1))⟩,
      ⟨(some 9), none, .e (.lenL (.t 8))⟩,
      ⟨(some 10), none, .e (.bin .neq (.t 7) (.t 9))⟩] [0, 1, 10])
    (.cond (.t 10) []
     (.seq
      (.reg [⟨(some 4), none, .e (.mov (.c (.bool false)))⟩] [4])
      (.ret [4]))
     [0, 1]
     .skip))
   (.seq
    (.seq
     (.reg [⟨(some 5), none, .e (.mov (.c (.int .i64 0)))⟩] [0, 1, 5])
     (.block 0
      (.loop [0, 1, 5]
       (.seq
        (.seq
         (.reg [⟨(some 11), none, .e (.mov (.t 5))⟩,
           ⟨(some 12), none, .e (.mov (.t 0))⟩,
           ⟨(some 13), none, .e (.lenL (.t 12))⟩,
           ⟨(some 14), none, .e (.bin .lss (.t 11) (.t 13))⟩] [0, 1, 5, 14])
         (.cond (.t 14) [0, 1, 5]
          .skip
          []
          (.exit 0 [])))
        (.seq
         (.block 1
          (.seq
           (.reg [⟨(some 17), none, .e (.mov (.t 0))⟩,
             ⟨(some 18), none, .e (.mov (.t 5))⟩,
             ⟨(some 19), none, .e (.iad 3 (.t 17) (.t 18))⟩,
             ⟨(some 20), none, .e (.load true 3 (.t 19))⟩,
             ⟨(some 21), none, .e (.mov (.t 1))⟩,
             ⟨(some 22), none, .e (.mov (.t 5))⟩,
             ⟨(some 23), none, .e (.iad 3 (.t 21) (.t 22))⟩,
             ⟨(some 24), none, .e (.load true 3 (.t 23))⟩,
             ⟨(some 25), none, .e (.eqA true [.str, .str, .bool] (.t 20) (.t 24))⟩] [0, 1, 5, 25])
           (.cond (.t 25) []
            (.seq
             (.reg [⟨(some 4), none, .e (.mov (.c (.bool false)))⟩] [4])
             (.ret [4]))
            [0, 1, 5]
            .skip)))
         (.reg [⟨(some 15), none, .e (.mov (.t 5))⟩,
           ⟨(some 16), none, .e (.bin .add (.t 15) (.c (.int .i64 1)))⟩,
           ⟨(some 5), none, .e (.mov (.t 16))⟩] [0, 1, 5]))))))
    (.seq
     (.reg [⟨(some 4), none, .e (.mov (.c (.bool true)))⟩] [4])
     (.ret [4])))))
theorem p40 : sight Tryz.prog 40 c40 = some (26, [.t 4], c40) := by kernel_rfl
/-- ballast/ballastref10.sameSel -/
def c51 : AC :=
 (.seq
  (.reg [⟨(some 4), none, .e (.mov (.c (.bool false)))⟩] [0, 1])
  (.seq
   (.seq
    (.reg [⟨(some 6), none, .e (.mov (.t 0))⟩,
      ⟨(some 7), none, .e (.lenL (.t 6))⟩,
      ⟨(some 8), none, .e (.mov (.t 1))⟩,
      ⟨(some 9), none, .e (.lenL (.t 8))⟩,
      ⟨(some 10), none, .e (.bin .neq (.t 7) (.t 9))⟩] [0, 1, 10])
    (.cond (.t 10) []
     (.seq
      (.reg [⟨(some 4), none, .e (.mov (.c (.bool false)))⟩] [4])
      (.ret [4]))
     [0, 1]
     .skip))
   (.seq
    (.seq
     (.reg [⟨(some 5), none, .e (.mov (.c (.int .i64 0)))⟩] [0, 1, 5])
     (.block 0
      (.loop [0, 1, 5]
       (.seq
        (.seq
         (.reg [⟨(some 11), none, .e (.mov (.t 5))⟩,
           ⟨(some 12), none, .e (.mov (.t 0))⟩,
           ⟨(some 13), none, .e (.lenL (.t 12))⟩,
           ⟨(some 14), none, .e (.bin .lss (.t 11) (.t 13))⟩] [0, 1, 5, 14])
         (.cond (.t 14) [0, 1, 5]
          .skip
          []
          (.exit 0 [])))
        (.seq
         (.block 1
          (.seq
           (.reg [⟨(some 17), none, .e (.mov (.t 0))⟩,
             ⟨(some 18), none, .e (.mov (.t 5))⟩,
             ⟨(some 19), none, .e (.iad 3 (.t 17) (.t 18))⟩,
             ⟨(some 20), none, .e (.load true 3 (.t 19))⟩,
             ⟨(some 21), none, .e (.mov (.t 1))⟩,
             ⟨(some 22), none, .e (.mov (.t 5))⟩,
             ⟨(some 23), none, .e (.iad 3 (.t 21) (.t 22))⟩,
             ⟨(some 24), none, .e (.load true 3 (.t 23))⟩,
             ⟨(some 25), none, .e (.eqA true [.int, .str, .str] (.t 20) (.t 24))⟩] [0, 1, 5, 25])
           (.cond (.t 25) []
            (.seq
             (.reg [⟨(some 4), none, .e (.mov (.c (.bool false)))⟩] [4])
             (.ret [4]))
            [0, 1, 5]
            .skip)))
         (.reg [⟨(some 15), none, .e (.mov (.t 5))⟩,
           ⟨(some 16), none, .e (.bin .add (.t 15) (.c (.int .i64 1)))⟩,
           ⟨(some 5), none, .e (.mov (.t 16))⟩] [0, 1, 5]))))))
    (.seq
     (.reg [⟨(some 4), none, .e (.mov (.c (.bool true)))⟩] [4])
     (.ret [4])))))
theorem p51 : sight Tryz.prog 51 c51 = some (26, [.t 4], c51) := by kernel_rfl
/-- ballast/ballastref10.sameTols -/
def c52 : AC :=
 (.seq
  (.reg [⟨(some 4), none, .e (.mov (.c (.bool false)))⟩] [0, 1])
  (.seq
   (.seq
    (.reg [⟨(some 6), none, .e (.mov (.t 0))⟩,
      ⟨(some 7), none, .e (.lenL (.t 6))⟩,
      ⟨(some 8), none, .e (.mov (.t 1))⟩,
      ⟨(some 9), none, .e (.lenL (.t 8))⟩,
      ⟨(some 10), none, .e (.bin .neq (.t 7) (.t 9))⟩] [0, 1, 10])
    (.cond (.t 10) []
     (.seq
      (.reg [⟨(some 4), none, .e (.mov (.c (.bool false)))⟩] [4])
      (.ret [4]))
     [0, 1]
     .skip))
   (.seq
    (.seq
     (.reg [⟨(some 5), none, .e (.mov (.c (.int .i64 0)))⟩] [0, 1, 5])
     (.block 0
      (.loop [0, 1, 5]
       (.seq
        (.seq
         (.reg [⟨(some 11), none, .e (.mov (.t 5))⟩,
           ⟨(some 12), none, .e (.mov (.t 0))⟩,
           ⟨(some 13), none, .e (.lenL (.t 12))⟩,
           ⟨(some 14), none, .e (.bin .lss (.t 11) (.t 13))⟩] [0, 1, 5, 14])
         (.cond (.t 14) [0, 1, 5]
          .skip
          []
          (.exit 0 [])))
        (.seq
         (.block 1
          (.seq
           (.reg [⟨(some 17), none, .e (.mov (.t 0))⟩,
             ⟨(some 18), none, .e (.mov (.t 5))⟩,
             ⟨(some 19), none, .e (.iad 3 (.t 17) (.t 18))⟩,
             ⟨(some 20), none, .e (.load true 3 (.t 19))⟩,
             ⟨(some 21), none, .e (.mov (.t 1))⟩,
             ⟨(some 22), none, .e (.mov (.t 5))⟩,
             ⟨(some 23), none, .e (.iad 3 (.t 21) (.t 22))⟩,
             ⟨(some 24), none, .e (.load true 3 (.t 23))⟩,
             ⟨(some 25), none, .e (.eqA true [.str, .str, .bool] (.t 20) (.t 24))⟩] [0, 1, 5, 25])
           (.cond (.t 25) []
            (.seq
             (.reg [⟨(some 4), none, .e (.mov (.c (.bool false)))⟩] [4])
             (.ret [4]))
            [0, 1, 5]
            .skip)))
         (.reg [⟨(some 15), none, .e (.mov (.t 5))⟩,
           ⟨(some 16), none, .e (.bin .add (.t 15) (.c (.int .i64 1)))⟩,
           ⟨(some 5), none, .e (.mov (.t 16))⟩] [0, 1, 5]))))))
    (.seq
     (.reg [⟨(some 4), none, .e (.mov (.c (.bool true)))⟩] [4])
     (.ret [4])))))
theorem p52 : sight Tryz.prog 52 c52 = some (26, [.t 4], c52) := by kernel_rfl
/-- ballast/ballastref5.IsName -/
def c55 : AC :=
 (.seq
  (.reg [⟨(some 2), none, .e (.mov (.c (.bool false)))⟩] [0])
  (.seq
   (.seq
    (.reg [⟨(some 4), none, .e (.mov (.t 0))⟩,
      ⟨(some 5), none, .e (.lenS (.t 4))⟩,
      ⟨(some 6), none, .e (.bin .lss (.t 5) (.c (.int .i64 1)))⟩,
      ⟨(some 7), none, .e (.mov (.t 6))⟩,
      ⟨(some 8), (some (7, false)), .e (.mov (.t 0))⟩,
      ⟨(some 9), (some (7, false)), .e (.lenS (.t 8))⟩,
      ⟨(some 10), (some (7, false)), .e (.bin .gtr (.t 9) (.c (.int .i64 12)))⟩,
      ⟨(some 11), none, .e (.pick (.t 7) (.c (.bool true)) (.t 10))⟩] [0, 11])
    (.cond (.t 11) []
     (.seq
      (.reg [⟨(some 2), none, .e (.mov (.c (.bool false)))⟩] [2])
      (.ret [2]))
     [0]
     .skip))
   (.seq
    (.seq
     (.reg [⟨(some 3), none, .e (.mov (.c (.int .i64 0)))⟩] [0, 3])
     (.block 0
      (.loop [0, 3]
       (.seq
        (.seq
         (.reg [⟨(some 12), none, .e (.mov (.t 3))⟩,
           ⟨(some 13), none, .e (.mov (.t 0))⟩,
           ⟨(some 14), none, .e (.lenS (.t 13))⟩,
           ⟨(some 15), none, .e (.bin .lss (.t 12) (.t 14))⟩] [0, 3, 15])
         (.cond (.t 15) [0, 3]
          .skip
          []
          (.exit 0 [])))
        (.seq
         (.block 1
          (.seq
           (.reg [⟨(some 18), none, .e (.mov (.t 0))⟩,
             ⟨(some 19), none, .e (.mov (.t 3))⟩,
             ⟨(some 20), none, .e (.idx (.t 18) (.t 19))⟩,
             ⟨(some 21), none, .e (.bin .lss (.t 20) (.c (.int .u8 97)))⟩,
             ⟨(some 22), none, .e (.mov (.t 21))⟩,
             ⟨(some 23), (some (22, false)), .e (.mov (.t 0))⟩,
             ⟨(some 24), (some (22, false)), .e (.mov (.t 3))⟩,
             ⟨(some 25), (some (22, false)), .e (.idx (.t 23) (.t 24))⟩,
             ⟨(some 26), (some (22, false)), .e (.bin .gtr (.t 25) (.c (.int .u8 122)))⟩,
             ⟨(some 27), none, .e (.pick (.t 22) (.c (.bool true)) (.t 26))⟩,
             ⟨(some 28), none, .e (.mov (.t 27))⟩,
             ⟨(some 29), (some (28, true)), .e (.mov (.t 0))⟩,
             ⟨(some 30), (some (28, true)), .e (.mov (.t 3))⟩,
             ⟨(some 31), (some (28, true)), .e (.idx (.t 29) (.t 30))⟩,
             ⟨(some 32), (some (28, true)), .e (.bin .lss (.t 31) (.c (.int .u8 48)))⟩,
             ⟨(some 33), (some (28, true)), .e (.mov (.t 32))⟩,
             ⟨(some 34), (some (33, false)), .e (.mov (.t 0))⟩,
             ⟨(some 35), (some (33, false)), .e (.mov (.t 3))⟩,
             ⟨(some 36), (some (33, false)), .e (.idx (.t 34) (.t 35))⟩,
             ⟨(some 37), (some (33, false)), .e (.bin .gtr (.t 36) (.c (.int .u8 57)))⟩,
             ⟨(some 38), (some (28, true)), .e (.pick (.t 33) (.c (.bool true)) (.t 37))⟩,
             ⟨(some 39), none, .e (.pick (.t 28) (.t 38) (.c (.bool false)))⟩] [0, 3, 39])
           (.cond (.t 39) []
            (.seq
             (.reg [⟨(some 2), none, .e (.mov (.c (.bool false)))⟩] [2])
             (.ret [2]))
            [0, 3]
            .skip)))
         (.reg [⟨(some 16), none, .e (.mov (.t 3))⟩,
           ⟨(some 17), none, .e (.bin .add (.t 16) (.c (.int .i64 1)))⟩,
           ⟨(some 3), none, .e (.mov (.t 17))⟩] [0, 3]))))))
    (.seq
     (.reg [⟨(some 2), none, .e (.mov (.c (.bool true)))⟩] [2])
     (.ret [2])))))
theorem p55 : sight Tryz.prog 55 c55 = some (40, [.t 2], c55) := by kernel_rfl
/-- ballast/ballastref5.CheckVec -/
def c56 : AC :=
 (.seq
  (.reg [⟨(some 2), none, .e (.mov (.c (.int .i64 0)))⟩] [0])
  (.seq
   (.seq
    (.reg [⟨(some 4), none, .e (.mov (.t 0))⟩,
      ⟨(some 5), none, .e (.lenL (.t 4))⟩,
      ⟨(some 6), none, .e (.bin .gtr (.t 5) (.c (.int .i64 8)))⟩] [0, 6])
    (.cond (.t 6) []
     (.seq
      (.reg [⟨(some 2), none, .e (.mov (.c (.int .i64 4)))⟩] [2])
      (.ret [2]))
     [0]
     .skip))
   (.seq
    (.seq
     (.reg [⟨(some 3), none, .e (.mov (.c (.int .i64 0)))⟩] [0, 3])
     (.block 0
      (.loop [0, 3]
       (.seq
        (.seq
         (.reg [⟨(some 7), none, .e (.mov (.t 3))⟩,
           ⟨(some 8), none, .e (.mov (.t 0))⟩,
           ⟨(some 9), none, .e (.lenL (.t 8))⟩,
           ⟨(some 10), none, .e (.bin .lss (.t 7) (.t 9))⟩] [0, 3, 10])
         (.cond (.t 10) [0, 3]
          .skip
          []
          (.exit 0 [])))
        (.seq
         (.block 1
          (.seq
           (.seq
            (.reg [⟨(some 13), none, .e (.mov (.t 0))⟩,
              ⟨(some 14), none, .e (.mov (.t 3))⟩,
              ⟨(some 15), none, .e (.iad 2 (.t 13) (.t 14))⟩,
              ⟨(some 16), none, .e (.fad 0 (.t 15))⟩,
              ⟨(some 17), none, .e (.load false 1 (.t 16))⟩,
              ⟨(some 18), none, .callV 55 [(.t 17)]⟩,
              ⟨(some 19), none, .e (.un .not (.t 18))⟩] [0, 3, 19])
            (.cond (.t 19) []
             (.seq
              (.reg [⟨(some 2), none, .e (.mov (.c (.int .i64 3)))⟩] [2])
              (.ret [2]))
             [0, 3]
             .skip))
           (.seq
            (.seq
             (.reg [⟨(some 20), none, .e (.mov (.t 0))⟩,
               ⟨(some 21), none, .e (.mov (.t 3))⟩,
               ⟨(some 22), none, .e (.iad 2 (.t 20) (.t 21))⟩,
               ⟨(some 23), none, .e (.fad 1 (.t 22))⟩,
               ⟨(some 24), none, .e (.load false 1 (.t 23))⟩,
               ⟨(some 25), none, .e (.bin .leq (.t 24) (.c (.int .i64 0)))⟩] [0, 3, 25])
             (.cond (.t 25) []
              (.seq
               (.reg [⟨(some 2), none, .e (.mov (.c (.int .i64 1)))⟩] [2])
               (.ret [2]))
              [0, 3]
              .skip))
            (.seq
             (.reg [⟨(some 26), none, .e (.mov (.t 3))⟩,
               ⟨(some 27), none, .e (.bin .gtr (.t 26) (.c (.int .i64 0)))⟩,
               ⟨(some 28), none, .e (.mov (.t 27))⟩,
               ⟨(some 29), (some (28, true)), .e (.mov (.t 0))⟩,
               ⟨(some 30), (some (28, true)), .e (.mov (.t 3))⟩,
               ⟨(some 31), (some (28, true)), .e (.iad 2 (.t 29) (.t 30))⟩,
               ⟨(some 32), (some (28, true)), .e (.fad 0 (.t 31))⟩,
               ⟨(some 33), (some (28, true)), .e (.load false 1 (.t 32))⟩,
               ⟨(some 34), (some (28, true)), .e (.mov (.t 0))⟩,
               ⟨(some 35), (some (28, true)), .e (.mov (.t 3))⟩,
               ⟨(some 36), (some (28, true)), .e (.bin .sub (.t 35) (.c (.int .i64 1)))⟩,
               ⟨(some 37), (some (28, true)), .e (.iad 2 (.t 34) (.t 36))⟩,
               ⟨(some 38), (some (28, true)), .e (.fad 0 (.t 37))⟩,
               ⟨(some 39), (some (28, true)), .e (.load false 1 (.t 38))⟩,
               ⟨(some 40), (some (28, true)), .e (.bin .leq (.t 33) (.t 39))⟩,
               ⟨(some 41), none, .e (.pick (.t 28) (.t 40) (.c (.bool false)))⟩] [0, 3, 41])
             (.cond (.t 41) []
              (.seq
               (.reg [⟨(some 2), none, .e (.mov (.c (.int .i64 13)))⟩] [2])
               (.ret [2]))
              [0, 3]
              .skip)))))
         (.reg [⟨(some 11), none, .e (.mov (.t 3))⟩,
           ⟨(some 12), none, .e (.bin .add (.t 11) (.c (.int .i64 1)))⟩,
           ⟨(some 3), none, .e (.mov (.t 12))⟩] [0, 3]))))))
    (.seq
     (.reg [⟨(some 2), none, .e (.mov (.c (.int .i64 0)))⟩] [2])
     (.ret [2])))))
theorem p56 : sight Tryz.prog 56 c56 = some (42, [.t 2], c56) := by kernel_rfl
/-- ballast/ballastref5.CheckSet -/
def c57 : AC :=
 (.seq
  (.reg [⟨(some 2), none, .e (.mov (.c (.int .i64 0)))⟩] [0])
  (.seq
   (.seq
    (.reg [⟨(some 4), none, .e (.mov (.t 0))⟩,
      ⟨(some 5), none, .e (.lenL (.t 4))⟩,
      ⟨(some 6), none, .e (.bin .gtr (.t 5) (.c (.int .i64 8)))⟩] [0, 6])
    (.cond (.t 6) []
     (.seq
      (.reg [⟨(some 2), none, .e (.mov (.c (.int .i64 4)))⟩] [2])
      (.ret [2]))
     [0]
     .skip))
   (.seq
    (.seq
     (.reg [⟨(some 3), none, .e (.mov (.c (.int .i64 0)))⟩] [0, 3])
     (.block 0
      (.loop [0, 3]
       (.seq
        (.seq
         (.reg [⟨(some 7), none, .e (.mov (.t 3))⟩,
           ⟨(some 8), none, .e (.mov (.t 0))⟩,
           ⟨(some 9), none, .e (.lenL (.t 8))⟩,
           ⟨(some 10), none, .e (.bin .lss (.t 7) (.t 9))⟩] [0, 3, 10])
         (.cond (.t 10) [0, 3]
          .skip
          []
          (.exit 0 [])))
        (.seq
         (.block 1
          (.seq
           (.seq
            (.reg [⟨(some 13), none, .e (.mov (.t 0))⟩,
              ⟨(some 14), none, .e (.mov (.t 3))⟩,
              ⟨(some 15), none, .e (.iad 2 (.t 13) (.t 14))⟩,
              ⟨(some 16), none, .e (.fad 0 (.t 15))⟩,
              ⟨(some 17), none, .e (.load false 1 (.t 16))⟩,
              ⟨(some 18), none, .callV 55 [(.t 17)]⟩,
              ⟨(some 19), none, .e (.un .not (.t 18))⟩,
              ⟨(some 20), none, .e (.mov (.t 19))⟩,
              ⟨(some 21), (some (20, false)), .e (.mov (.t 0))⟩,
              ⟨(some 22), (some (20, false)), .e (.mov (.t 3))⟩,
              ⟨(some 23), (some (20, false)), .e (.iad 2 (.t 21) (.t 22))⟩,
              ⟨(some 24), (some (20, false)), .e (.fad 1 (.t 23))⟩,
              ⟨(some 25), (some (20, false)), .e (.load false 1 (.t 24))⟩,
              ⟨(some 26), (some (20, false)), .callV 55 [(.t 25)]⟩,
              ⟨(some 27), (some (20, false)), .e (.un .not (.t 26))⟩,
              ⟨(some 28), none, .e (.pick (.t 20) (.c (.bool true)) (.t 27))⟩] [0, 3, 28])
            (.cond (.t 28) []
             (.seq
              (.reg [⟨(some 2), none, .e (.mov (.c (.int .i64 3)))⟩] [2])
              (.ret [2]))
             [0, 3]
             .skip))
           (.seq
            (.reg [⟨(some 29), none, .e (.mov (.t 3))⟩,
              ⟨(some 30), none, .e (.bin .gtr (.t 29) (.c (.int .i64 0)))⟩,
              ⟨(some 31), none, .e (.mov (.t 30))⟩,
              ⟨(some 32), (some (31, true)), .e (.mov (.t 0))⟩,
              ⟨(some 33), (some (31, true)), .e (.mov (.t 3))⟩,
              ⟨(some 34), (some (31, true)), .e (.iad 2 (.t 32) (.t 33))⟩,
              ⟨(some 35), (some (31, true)), .e (.fad 0 (.t 34))⟩,
              ⟨(some 36), (some (31, true)), .e (.load false 1 (.t 35))⟩,
              ⟨(some 37), (some (31, true)), .e (.mov (.t 0))⟩,
              ⟨(some 38), (some (31, true)), .e (.mov (.t 3))⟩,
              ⟨(some 39), (some (31, true)), .e (.bin .sub (.t 38) (.c (.int .i64 1)))⟩,
              ⟨(some 40), (some (31, true)), .e (.iad 2 (.t 37) (.t 39))⟩,
              ⟨(some 41), (some (31, true)), .e (.fad 0 (.t 40))⟩,
              ⟨(some 42), (some (31, true)), .e (.load false 1 (.t 41))⟩,
              ⟨(some 43), (some (31, true)), .e (.bin .leq (.t 36) (.t 42))⟩,
              ⟨(some 44), none, .e (.pick (.t 31) (.t 43) (.c (.bool false)))⟩] [0, 3, 44])
            (.cond (.t 44) []
             (.seq
              (.reg [⟨(some 2), none, .e (.mov (.c (.int .i64 13)))⟩] [2])
              (.ret [2]))
             [0, 3]
             .skip))))
         (.reg [⟨(some 11), none, .e (.mov (.t 3))⟩,
           ⟨(some 12), none, .e (.bin .add (.t 11) (.c (.int .i64 1)))⟩,
           ⟨(some 3), none, .e (.mov (.t 12))⟩] [0, 3]))))))
    (.seq
     (.reg [⟨(some 2), none, .e (.mov (.c (.int .i64 0)))⟩] [2])
     (.ret [2])))))
theorem p57 : sight Tryz.prog 57 c57 = some (45, [.t 2], c57) := by kernel_rfl
/-- ballast/ballastref5.CheckSel -/
def c58 : AC :=
 (.seq
  (.reg [⟨(some 2), none, .e (.mov (.c (.int .i64 0)))⟩] [0])
  (.seq
   (.seq
    (.reg [⟨(some 5), none, .e (.mov (.t 0))⟩,
      ⟨(some 6), none, .e (.lenL (.t 5))⟩,
      ⟨(some 7), none, .e (.bin .gtr (.t 6) (.c (.int .i64 8)))⟩] [0, 7])
    (.cond (.t 7) []
     (.seq
      (.reg [⟨(some 2), none, .e (.mov (.c (.int .i64 4)))⟩] [2])
      (.ret [2]))
     [0]
     .skip))
   (.seq
    (.seq
     (.reg [⟨(some 3), none, .e (.mov (.c (.int .i64 0)))⟩] [0, 3])
     (.block 0
      (.loop [0, 3]
       (.seq
        (.seq
         (.reg [⟨(some 8), none, .e (.mov (.t 3))⟩,
           ⟨(some 9), none, .e (.mov (.t 0))⟩,
           ⟨(some 10), none, .e (.lenL (.t 9))⟩,
           ⟨(some 11), none, .e (.bin .lss (.t 8) (.t 10))⟩] [0, 3, 11])
         (.cond (.t 11) [0, 3]
          .skip
          []
          (.exit 0 [])))
        (.seq
         (.block 1
          (.seq
           (.reg [⟨(some 14), none, .e (.mov (.t 0))⟩,
             ⟨(some 15), none, .e (.mov (.t 3))⟩,
             ⟨(some 16), none, .e (.iad 3 (.t 14) (.t 15))⟩,
             ⟨(some 17), none, .e (.load true 3 (.t 16))⟩,
             ⟨(some 4), none, .alloc 3 167 (.agg [(.int .i64 0), (.str []), (.str [])])⟩,
             ⟨none, none, .store 3 (.t 4) (.t 17)⟩] [0, 3, 4])
           (.seq
            (.seq
             (.reg [⟨(some 18), none, .e (.fad 0 (.t 4))⟩,
               ⟨(some 19), none, .e (.load false 1 (.t 18))⟩,
               ⟨(some 20), none, .e (.bin .lss (.t 19) (.c (.int .i64 1)))⟩,
               ⟨(some 21), none, .e (.mov (.t 20))⟩,
               ⟨(some 22), (some (21, false)), .e (.fad 0 (.t 4))⟩,
               ⟨(some 23), (some (21, false)), .e (.load false 1 (.t 22))⟩,
               ⟨(some 24), (some (21, false)), .e (.bin .gtr (.t 23) (.c (.int .i64 4)))⟩,
               ⟨(some 25), none, .e (.pick (.t 21) (.c (.bool true)) (.t 24))⟩] [0, 3, 4, 25])
             (.cond (.t 25) []
              (.seq
               (.reg [⟨(some 2), none, .e (.mov (.c (.int .i64 1)))⟩] [2])
               (.ret [2]))
              [0, 3, 4]
              .skip))
            (.seq
             (.reg [⟨(some 26), none, .e (.fad 1 (.t 4))⟩,
               ⟨(some 27), none, .e (.load false 1 (.t 26))⟩,
               ⟨(some 28), none, .callV 55 [(.t 27)]⟩,
               ⟨(some 29), none, .e (.un .not (.t 28))⟩,
               ⟨(some 30), none, .e (.mov (.t 29))⟩,
               ⟨(some 31), (some (30, false)), .e (.fad 0 (.t 4))⟩,
               ⟨(some 32), (some (30, false)), .e (.load false 1 (.t 31))⟩,
               ⟨(some 33), (some (30, false)), .e (.bin .leq (.t 32) (.c (.int .i64 2)))⟩,
               ⟨(some 34), (some (30, false)), .e (.mov (.t 33))⟩,
               ⟨(some 35), (some (34, true)), .e (.fad 2 (.t 4))⟩,
               ⟨(some 36), (some (34, true)), .e (.load false 1 (.t 35))⟩,
               ⟨(some 37), (some (34, true)), .callV 55 [(.t 36)]⟩,
               ⟨(some 38), (some (34, true)), .e (.un .not (.t 37))⟩,
               ⟨(some 39), (some (30, false)), .e (.pick (.t 34) (.t 38) (.c (.bool false)))⟩,
               ⟨(some 40), none, .e (.pick (.t 30) (.c (.bool true)) (.t 39))⟩,
               ⟨(some 41), none, .e (.mov (.t 40))⟩,
               ⟨(some 42), (some (41, false)), .e (.fad 0 (.t 4))⟩,
               ⟨(some 43), (some (41, false)), .e (.load false 1 (.t 42))⟩,
               ⟨(some 44), (some (41, false)), .e (.bin .geq (.t 43) (.c (.int .i64 3)))⟩,
               ⟨(some 45), (some (41, false)), .e (.mov (.t 44))⟩,
               ⟨(some 46), (some (45, true)), .e (.fad 2 (.t 4))⟩,
               ⟨(some 47), (some (45, true)), .e (.load false 1 (.t 46))⟩,
               ⟨(some 48), (some (45, true)), .e (.bin .neq (.t 47) (.c (.str [])))⟩,
               ⟨(some 49), (some (41, false)), .e (.pick (.t 45) (.t 48) (.c (.bool false)))⟩,
               ⟨(some 50), none, .e (.pick (.t 41) (.c (.bool true)) (.t 49))⟩] [0, 3, 50])
             (.cond (.t 50) []
              (.seq
               (.reg [⟨(some 2), none, .e (.mov (.c (.int .i64 3)))⟩] [2])
               (.ret [2]))
              [0, 3]
              .skip)))))
         (.reg [⟨(some 12), none, .e (.mov (.t 3))⟩,
           ⟨(some 13), none, .e (.bin .add (.t 12) (.c (.int .i64 1)))⟩,
           ⟨(some 3), none, .e (.mov (.t 13))⟩] [0, 3]))))))
    (.seq
     (.reg [⟨(some 2), none, .e (.mov (.c (.int .i64 0)))⟩] [2])
     (.ret [2])))))
theorem p58 : sight Tryz.prog 58 c58 = some (51, [.t 2], c58) := by kernel_rfl
/-- ballast/ballastref5.CheckTols -/
def c59 : AC :=
 (.seq
  (.reg [⟨(some 2), none, .e (.mov (.c (.int .i64 0)))⟩] [0])
  (.seq
   (.seq
    (.reg [⟨(some 5), none, .e (.mov (.t 0))⟩,
      ⟨(some 6), none, .e (.lenL (.t 5))⟩,
      ⟨(some 7), none, .e (.bin .gtr (.t 6) (.c (.int .i64 8)))⟩] [0, 7])
    (.cond (.t 7) []
     (.seq
      (.reg [⟨(some 2), none, .e (.mov (.c (.int .i64 4)))⟩] [2])
      (.ret [2]))
     [0]
     .skip))
   (.seq
    (.seq
     (.reg [⟨(some 3), none, .e (.mov (.c (.int .i64 0)))⟩] [0, 3])
     (.block 0
      (.loop [0, 3]
       (.seq
        (.seq
         (.reg [⟨(some 8), none, .e (.mov (.t 3))⟩,
           ⟨(some 9), none, .e (.mov (.t 0))⟩,
           ⟨(some 10), none, .e (.lenL (.t 9))⟩,
           ⟨(some 11), none, .e (.bin .lss (.t 8) (.t 10))⟩] [0, 3, 11])
         (.cond (.t 11) [0, 3]
          .skip
          []
          (.exit 0 [])))
        (.seq
         (.block 1
          (.seq
           (.reg [⟨(some 14), none, .e (.mov (.t 0))⟩,
             ⟨(some 15), none, .e (.mov (.t 3))⟩,
             ⟨(some 16), none, .e (.iad 3 (.t 14) (.t 15))⟩,
             ⟨(some 17), none, .e (.load true 3 (.t 16))⟩,
             ⟨(some 4), none, .alloc 3 168 (.agg [(.str []), (.str []), (.bool false)])⟩,
             ⟨none, none, .store 3 (.t 4) (.t 17)⟩] [0, 3, 4])
           (.seq
            (.reg [⟨(some 18), none, .e (.fad 0 (.t 4))⟩,
              ⟨(some 19), none, .e (.load false 1 (.t 18))⟩,
              ⟨(some 20), none, .e (.bin .neq (.t 19) (.c (.str [])))⟩,
              ⟨(some 21), none, .e (.mov (.t 20))⟩,
              ⟨(some 22), (some (21, true)), .e (.fad 0 (.t 4))⟩,
              ⟨(some 23), (some (21, true)), .e (.load false 1 (.t 22))⟩,
              ⟨(some 24), (some (21, true)), .callV 55 [(.t 23)]⟩,
              ⟨(some 25), (some (21, true)), .e (.un .not (.t 24))⟩,
              ⟨(some 26), none, .e (.pick (.t 21) (.t 25) (.c (.bool false)))⟩,
              ⟨(some 27), none, .e (.mov (.t 26))⟩,
              ⟨(some 28), (some (27, false)), .e (.fad 2 (.t 4))⟩,
              ⟨(some 29), (some (27, false)), .e (.load false 1 (.t 28))⟩,
              ⟨(some 30), (some (27, false)), .e (.mov (.t 29))⟩,
              ⟨(some 31), (some (30, true)), .e (.fad 1 (.t 4))⟩,
              ⟨(some 32), (some (30, true)), .e (.load false 1 (.t 31))⟩,
              ⟨(some 33), (some (30, true)), .e (.bin .neq (.t 32) (.c (.str [])))⟩,
              ⟨(some 34), (some (27, false)), .e (.pick (.t 30) (.t 33) (.c (.bool false)))⟩,
              ⟨(some 35), none, .e (.pick (.t 27) (.c (.bool true)) (.t 34))⟩,
              ⟨(some 36), none, .e (.mov (.t 35))⟩,
              ⟨(some 37), (some (36, false)), .e (.fad 2 (.t 4))⟩,
              ⟨(some 38), (some (36, false)), .e (.load false 1 (.t 37))⟩,
              ⟨(some 39), (some (36, false)), .e (.un .not (.t 38))⟩,
              ⟨(some 40), (some (36, false)), .e (.mov (.t 39))⟩,
              ⟨(some 41), (some (40, true)), .e (.fad 1 (.t 4))⟩,
              ⟨(some 42), (some (40, true)), .e (.load false 1 (.t 41))⟩,
              ⟨(some 43), (some (40, true)), .callV 55 [(.t 42)]⟩,
              ⟨(some 44), (some (40, true)), .e (.un .not (.t 43))⟩,
              ⟨(some 45), (some (36, false)), .e (.pick (.t 40) (.t 44) (.c (.bool false)))⟩,
              ⟨(some 46), none, .e (.pick (.t 36) (.c (.bool true)) (.t 45))⟩] [0, 3, 46])
            (.cond (.t 46) []
             (.seq
              (.reg [⟨(some 2), none, .e (.mov (.c (.int .i64 3)))⟩] [2])
              (.ret [2]))
             [0, 3]
             .skip))))
         (.reg [⟨(some 12), none, .e (.mov (.t 3))⟩,
           ⟨(some 13), none, .e (.bin .add (.t 12) (.c (.int .i64 1)))⟩,
           ⟨(some 3), none, .e (.mov (.t 13))⟩] [0, 3]))))))
    (.seq
     (.reg [⟨(some 2), none, .e (.mov (.c (.int .i64 0)))⟩] [2])
     (.ret [2])))))
theorem p59 : sight Tryz.prog 59 c59 = some (47, [.t 2], c59) := by kernel_rfl
/-- ballast/ballastref5.CheckTaints -/
def c88 : AC :=
 (.seq
  (.reg [⟨(some 2), none, .e (.mov (.c (.int .i64 0)))⟩] [0])
  (.seq
   (.seq
    (.reg [⟨(some 5), none, .e (.mov (.t 0))⟩,
      ⟨(some 6), none, .e (.lenL (.t 5))⟩,
      ⟨(some 7), none, .e (.bin .gtr (.t 6) (.c (.int .i64 8)))⟩] [0, 7])
    (.cond (.t 7) []
     (.seq
      (.reg [⟨(some 2), none, .e (.mov (.c (.int .i64 4)))⟩] [2])
      (.ret [2]))
     [0]
     .skip))
   (.seq
    (.seq
     (.reg [⟨(some 3), none, .e (.mov (.c (.int .i64 0)))⟩] [0, 3])
     (.block 0
      (.loop [0, 3]
       (.seq
        (.seq
         (.reg [⟨(some 8), none, .e (.mov (.t 3))⟩,
           ⟨(some 9), none, .e (.mov (.t 0))⟩,
           ⟨(some 10), none, .e (.lenL (.t 9))⟩,
           ⟨(some 11), none, .e (.bin .lss (.t 8) (.t 10))⟩] [0, 3, 11])
         (.cond (.t 11) [0, 3]
          .skip
          []
          (.exit 0 [])))
        (.seq
         (.block 1
          (.seq
           (.seq
            (.reg [⟨(some 14), none, .e (.mov (.t 0))⟩,
              ⟨(some 15), none, .e (.mov (.t 3))⟩,
              ⟨(some 16), none, .e (.iad 3 (.t 14) (.t 15))⟩,
              ⟨(some 17), none, .e (.fad 0 (.t 16))⟩,
              ⟨(some 18), none, .e (.load false 1 (.t 17))⟩,
              ⟨(some 19), none, .callV 55 [(.t 18)]⟩,
              ⟨(some 20), none, .e (.un .not (.t 19))⟩,
              ⟨(some 21), none, .e (.mov (.t 20))⟩,
              ⟨(some 22), (some (21, false)), .e (.mov (.t 0))⟩,
              ⟨(some 23), (some (21, false)), .e (.mov (.t 3))⟩,
              ⟨(some 24), (some (21, false)), .e (.iad 3 (.t 22) (.t 23))⟩,
              ⟨(some 25), (some (21, false)), .e (.fad 1 (.t 24))⟩,
              ⟨(some 26), (some (21, false)), .e (.load false 1 (.t 25))⟩,
              ⟨(some 27), (some (21, false)), .callV 55 [(.t 26)]⟩,
              ⟨(some 28), (some (21, false)), .e (.un .not (.t 27))⟩,
              ⟨(some 29), none, .e (.pick (.t 21) (.c (.bool true)) (.t 28))⟩] [0, 3, 29])
            (.cond (.t 29) []
             (.seq
              (.reg [⟨(some 2), none, .e (.mov (.c (.int .i64 3)))⟩] [2])
              (.ret [2]))
             [0, 3]
             .skip))
           (.seq
            (.reg [⟨(some 4), none, .e (.mov (.c (.int .i64 0)))⟩] [0, 3, 4])
            (.block 2
             (.loop [0, 3, 4]
              (.seq
               (.seq
                (.reg [⟨(some 30), none, .e (.mov (.t 4))⟩,
                  ⟨(some 31), none, .e (.mov (.t 3))⟩,
                  ⟨(some 32), none, .e (.bin .lss (.t 30) (.t 31))⟩] [0, 3, 4, 32])
                (.cond (.t 32) [0, 3, 4]
                 .skip
                 [0, 3]
                 (.exit 2 [0, 3])))
               (.seq
                (.block 3
                 (.seq
                  (.reg [⟨(some 35), none, .e (.mov (.t 0))⟩,
                    ⟨(some 36), none, .e (.mov (.t 4))⟩,
                    ⟨(some 37), none, .e (.iad 3 (.t 35) (.t 36))⟩,
                    ⟨(some 38), none, .e (.fad 0 (.t 37))⟩,
                    ⟨(some 39), none, .e (.load false 1 (.t 38))⟩,
                    ⟨(some 40), none, .e (.mov (.t 0))⟩,
                    ⟨(some 41), none, .e (.mov (.t 3))⟩,
                    ⟨(some 42), none, .e (.iad 3 (.t 40) (.t 41))⟩,
                    ⟨(some 43), none, .e (.fad 0 (.t 42))⟩,
                    ⟨(some 44), none, .e (.load false 1 (.t 43))⟩,
                    ⟨(some 45), none, .e (.bin .eql (.t 39) (.t 44))⟩,
                    ⟨(some 46), none, .e (.mov (.t 45))⟩,
                    ⟨(some 47), (some (46, true)), .e (.mov (.t 0))⟩,
                    ⟨(some 48), (some (46, true)), .e (.mov (.t 4))⟩,
                    ⟨(some 49), (some (46, true)), .e (.iad 3 (.t 47) (.t 48))⟩,
                    ⟨(some 50), (some (46, true)), .e (.fad 1 (.t 49))⟩,
                    ⟨(some 51), (some (46, true)), .e (.load false 1 (.t 50))⟩,
                    ⟨(some 52), (some (46, true)), .e (.mov (.t 0))⟩,
                    ⟨(some 53), (some (46, true)), .e (.mov (.t 3))⟩,
                    ⟨(some 54), (some (46, true)), .e (.iad 3 (.t 52) (.t 53))⟩,
                    ⟨(some 55), (some (46, true)), .e (.fad 1 (.t 54))⟩,
                    ⟨(some 56), (some (46, true)), .e (.load false 1 (.t 55))⟩,
                    ⟨(some 57), (some (46, true)), .e (.bin .eql (.t 51) (.t 56))⟩,
                    ⟨(some 58), none, .e (.pick (.t 46) (.t 57) (.c (.bool false)))⟩] [0, 3, 4, 58])
                  (.cond (.t 58) []
                   (.seq
                    (.reg [⟨(some 2), none, .e (.mov (.c (.int .i64 6)))⟩] [2])
                    (.ret [2]))
                   [0, 3, 4]
                   .skip)))
                (.reg [⟨(some 33), none, .e (.mov (.t 4))⟩,
                  ⟨(some 34), none, .e (.bin .add (.t 33) (.c (.int .i64 1)))⟩,
                  ⟨(some 4), none, .e (.mov (.t 34))⟩] [0, 3, 4]))))))))
         (.reg [⟨(some 12), none, .e (.mov (.t 3))⟩,
           ⟨(some 13), none, .e (.bin .add (.t 12) (.c (.int .i64 1)))⟩,
           ⟨(some 3), none, .e (.mov (.t 13))⟩] [0, 3]))))))
    (.seq
     (.reg [⟨(some 2), none, .e (.mov (.c (.int .i64 0)))⟩] [2])
     (.ret [2])))))
theorem p88 : sight Tryz.prog 88 c88 = some (59, [.t 2], c88) := by kernel_rfl
end Go.Proofs.YtmgoencdjkaobaaGreatDoor
