/- Functions of the seat as compact code, and that they are so compiled. No conditions. -/
import Derived.Test.YtmgoencdjkaobaaGreatDoorPeI
import Derived.Test.YtmgoencdjkaobaaGreatDoorProg
set_option linter.unusedVariables false
namespace Go.Proofs.YtmgoencdjkaobaaGreatDoor
open Go Go.Pe
/-- ballast/node.CheckAll -/
def c11 : AC :=
 (.seq
  (.reg [⟨(some 2), none, .e (.mov (.c (.int .i64 0)))⟩] [0])
  (.seq
   (.reg [⟨(some 3), none, .e (.mov (.t 0))⟩,
     ⟨(some 4), none, .callV 36 [(.t 3), (.c (.int .i64 32)), (.c (.fn 37 [])), (.c (.fn 31 []))]⟩,
     ⟨(some 2), none, .e (.mov (.t 4))⟩] [2])
   (.ret [2])))
theorem p11 : sight Tryz.prog 11 c11 = some (5, [.t 2], c11) := by kernel_rfl
/-- ballast/node.Find -/
def c12 : AC :=
 (.seq
  (.reg [⟨(some 4), none, .alloc 5 31 (.agg [(.str []), .nils, .nils, .nils, (.bool false)])⟩,
    ⟨(some 5), none, .e (.mov (.c (.bool false)))⟩] [0, 1, 4])
  (.seq
   (.seq
    (.reg [⟨(some 8), none, .e (.mov (.t 0))⟩,
      ⟨(some 9), none, .e (.lenL (.t 8))⟩,
      ⟨(some 10), none, .e (.mov (.c (.int .i64 0)))⟩] [1, 4, 8, 9, 10])
    (.block 0
     (.loop [1, 4, 8, 9, 10]
      (.seq
       (.reg [⟨(some 11), none, .e (.bin .lss (.t 10) (.t 9))⟩] [1, 4, 8, 9, 10, 11])
       (.seq
        (.cond (.t 11) [1, 4, 8, 9, 10]
         .skip
         [4]
         (.exit 0 [4]))
        (.seq
         (.block 1
          (.seq
           (.reg [⟨(some 12), none, .e (.iad 5 (.t 8) (.t 10))⟩,
             ⟨(some 13), none, .e (.load true 5 (.t 12))⟩,
             ⟨(some 7), none, .alloc 5 31 (.agg [(.str []), .nils, .nils, .nils, (.bool false)])⟩,
             ⟨none, none, .store 5 (.t 7) (.t 13)⟩] [1, 4, 7, 8, 9, 10])
           (.seq
            (.reg [⟨(some 14), none, .e (.fad 0 (.t 7))⟩,
              ⟨(some 15), none, .e (.load false 1 (.t 14))⟩,
              ⟨(some 16), none, .e (.mov (.t 1))⟩,
              ⟨(some 17), none, .e (.bin .eql (.t 15) (.t 16))⟩] [1, 4, 7, 8, 9, 10, 17])
            (.cond (.t 17) [4, 7]
             (.seq
              (.reg [⟨(some 18), none, .e (.load true 5 (.t 7))⟩,
                ⟨none, none, .store 5 (.t 4) (.t 18)⟩,
                ⟨(some 5), none, .e (.mov (.c (.bool true)))⟩] [4, 5])
              (.ret [4, 5]))
             [1, 4, 8, 9, 10]
             .skip))))
         (.reg [⟨(some 19), none, .e (.bin .add (.t 10) (.c (.int .i64 1)))⟩,
           ⟨(some 10), none, .e (.mov (.t 19))⟩] [1, 4, 8, 9, 10])))))))
   (.seq
    (.reg [⟨(some 20), none, .e (.bld [(.str []), .nils, .nils, .nils, (.bool false)] [])⟩,
      ⟨none, none, .store 5 (.t 4) (.t 20)⟩,
      ⟨(some 5), none, .e (.mov (.c (.bool false)))⟩] [4, 5])
    (.ret [4, 5]))))
theorem p12 : sight Tryz.prog 12 c12 = some (21, [.c 4 true 5, .t 5], c12) := by kernel_rfl
/-- ballast/pod.CheckAll -/
def c20 : AC :=
 (.seq
  (.reg [⟨(some 2), none, .e (.mov (.c (.int .i64 0)))⟩] [0])
  (.seq
   (.reg [⟨(some 3), none, .e (.mov (.t 0))⟩,
     ⟨(some 4), none, .callV 49 [(.t 3), (.c (.int .i64 128)), (.c (.fn 50 [])), (.c (.fn 46 []))]⟩,
     ⟨(some 2), none, .e (.mov (.t 4))⟩] [2])
   (.ret [2])))
theorem p20 : sight Tryz.prog 20 c20 = some (5, [.t 2], c20) := by kernel_rfl
/-- ballast/pod.Find -/
def c21 : AC :=
 (.seq
  (.reg [⟨(some 4), none, .alloc 11 59 (.agg [(.str []), (.str []), (.int .i64 0), .nils, .nils, .nils, .nils, (.str []), (.int .i64 0), (.str []), (.bool false)])⟩,
    ⟨(some 5), none, .e (.mov (.c (.bool false)))⟩] [0, 1, 4])
  (.seq
   (.seq
    (.reg [⟨(some 8), none, .e (.mov (.t 0))⟩,
      ⟨(some 9), none, .e (.lenL (.t 8))⟩,
      ⟨(some 10), none, .e (.mov (.c (.int .i64 0)))⟩] [1, 4, 8, 9, 10])
    (.block 0
     (.loop [1, 4, 8, 9, 10]
      (.seq
       (.reg [⟨(some 11), none, .e (.bin .lss (.t 10) (.t 9))⟩] [1, 4, 8, 9, 10, 11])
       (.seq
        (.cond (.t 11) [1, 4, 8, 9, 10]
         .skip
         [4]
         (.exit 0 [4]))
        (.seq
         (.block 1
          (.seq
           (.reg [⟨(some 12), none, .e (.iad 11 (.t 8) (.t 10))⟩,
             ⟨(some 13), none, .e (.load true 11 (.t 12))⟩,
             ⟨(some 7), none, .alloc 11 59 (.agg [(.str []), (.str []), (.int .i64 0), .nils, .nils, .nils, .nils, (.str []), (.int .i64 0), (.str []), (.bool false)])⟩,
             ⟨none, none, .store 11 (.t 7) (.t 13)⟩] [1, 4, 7, 8, 9, 10])
           (.seq
            (.reg [⟨(some 14), none, .e (.fad 0 (.t 7))⟩,
              ⟨(some 15), none, .e (.load false 1 (.t 14))⟩,
              ⟨(some 16), none, .e (.mov (.t 1))⟩,
              ⟨(some 17), none, .e (.bin .eql (.t 15) (.t 16))⟩] [1, 4, 7, 8, 9, 10, 17])
            (.cond (.t 17) [4, 7]
             (.seq
              (.reg [⟨(some 18), none, .e (.load true 11 (.t 7))⟩,
                ⟨none, none, .store 11 (.t 4) (.t 18)⟩,
                ⟨(some 5), none, .e (.mov (.c (.bool true)))⟩] [4, 5])
              (.ret [4, 5]))
             [1, 4, 8, 9, 10]
             .skip))))
         (.reg [⟨(some 19), none, .e (.bin .add (.t 10) (.c (.int .i64 1)))⟩,
           ⟨(some 10), none, .e (.mov (.t 19))⟩] [1, 4, 8, 9, 10])))))))
   (.seq
    (.reg [⟨(some 20), none, .e (.bld [(.str []), (.str []), (.int .i64 0), .nils, .nils, .nils, .nils, (.str []), (.int .i64 0), (.str []), (.bool false)] [])⟩,
      ⟨none, none, .store 11 (.t 4) (.t 20)⟩,
      ⟨(some 5), none, .e (.mov (.c (.bool false)))⟩] [4, 5])
    (.ret [4, 5]))))
theorem p21 : sight Tryz.prog 21 c21 = some (21, [.c 4 true 11, .t 5], c21) := by kernel_rfl
/-- ballast/pod.Text -/
def c26 : AC :=
 (.seq
  (.reg [⟨(some 1), none, .box 11 59 (.t 0)⟩,
    ⟨(some 2), none, .e (.mov (.c (.str [])))⟩] [1])
  (.seq
   (.reg [⟨(some 3), none, .e (.mov (.c (.str [45])))⟩,
     ⟨(some 4), none, .e (.mov (.c (.str [114, 101, 97, 108])))⟩] [1, 3, 4])
   (.seq
    (.seq
     (.reg [⟨(some 5), none, .e (.fad 7 (.t 1))⟩,
       ⟨(some 6), none, .e (.load false 1 (.t 5))⟩,
       ⟨(some 7), none, .e (.bin .neq (.t 6) (.c (.str [])))⟩] [1, 3, 4, 7])
     (.cond (.t 7) [1, 4]
      (.reg [⟨(some 8), none, .e (.fad 7 (.t 1))⟩,
        ⟨(some 9), none, .e (.load false 1 (.t 8))⟩,
        ⟨(some 10), none, .e (.bin .add (.t 9) (.c (.str [47])))⟩,
        ⟨(some 11), none, .e (.fad 8 (.t 1))⟩,
        ⟨(some 12), none, .e (.load false 1 (.t 11))⟩,
        ⟨(some 13), none, .callV 60 [(.t 12)]⟩,
        ⟨(some 14), none, .e (.bin .add (.t 10) (.t 13))⟩,
        ⟨(some 3), none, .e (.mov (.t 14))⟩] [1, 3, 4])
      [1, 3, 4]
      .skip))
    (.seq
     (.seq
      (.reg [⟨(some 15), none, .e (.fad 10 (.t 1))⟩,
        ⟨(some 16), none, .e (.load false 1 (.t 15))⟩] [1, 3, 4, 16])
      (.cond (.t 16) [1, 3]
       (.reg [⟨(some 4), none, .e (.mov (.c (.str [104, 111, 108, 100])))⟩] [1, 3, 4])
       [1, 3, 4]
       .skip))
     (.seq
      (.reg [⟨(some 17), none, .e (.fad 0 (.t 1))⟩,
        ⟨(some 18), none, .e (.load false 1 (.t 17))⟩,
        ⟨(some 19), none, .e (.fad 1 (.t 1))⟩,
        ⟨(some 20), none, .e (.load false 1 (.t 19))⟩,
        ⟨(some 21), none, .callV 62 [(.t 20)]⟩,
        ⟨(some 22), none, .e (.fad 2 (.t 1))⟩,
        ⟨(some 23), none, .e (.load false 1 (.t 22))⟩,
        ⟨(some 24), none, .callV 60 [(.t 23)]⟩,
        ⟨(some 25), none, .e (.fad 3 (.t 1))⟩,
        ⟨(some 26), none, .e (.load false 1 (.t 25))⟩,
        ⟨(some 27), none, .callV 63 [(.t 26)]⟩,
        ⟨(some 28), none, .e (.fad 4 (.t 1))⟩,
        ⟨(some 29), none, .e (.load false 1 (.t 28))⟩,
        ⟨(some 30), none, .callV 64 [(.t 29)]⟩,
        ⟨(some 31), none, .e (.fad 5 (.t 1))⟩,
        ⟨(some 32), none, .e (.load false 1 (.t 31))⟩,
        ⟨(some 33), none, .callV 65 [(.t 32)]⟩,
        ⟨(some 34), none, .e (.fad 6 (.t 1))⟩,
        ⟨(some 35), none, .e (.load false 1 (.t 34))⟩,
        ⟨(some 36), none, .callV 66 [(.t 35)]⟩,
        ⟨(some 37), none, .e (.mov (.t 3))⟩,
        ⟨(some 38), none, .e (.fad 9 (.t 1))⟩,
        ⟨(some 39), none, .e (.load false 1 (.t 38))⟩,
        ⟨(some 40), none, .callV 62 [(.t 39)]⟩,
        ⟨(some 41), none, .e (.mov (.t 4))⟩,
        ⟨(some 42), none, .lit 1 [(.t 18), (.t 21), (.t 24), (.t 27), (.t 30), (.t 33), (.t 36), (.t 37), (.t 40), (.t 41)]⟩,
        ⟨(some 43), none, .callV 61 [(.t 42), (.c (.str [32]))]⟩,
        ⟨(some 2), none, .e (.mov (.t 43))⟩] [2])
      (.ret [2]))))))
theorem p26 : sight Tryz.prog 26 c26 = some (44, [.t 2], c26) := by kernel_rfl
/-- ballast/pod.Same -/
def c27 : AC :=
 (.seq
  (.reg [⟨(some 2), none, .box 11 59 (.t 0)⟩,
    ⟨(some 3), none, .box 11 59 (.t 1)⟩,
    ⟨(some 4), none, .e (.mov (.c (.bool false)))⟩] [2, 3])
  (.seq
   (.reg [⟨(some 5), none, .e (.fad 0 (.t 2))⟩,
     ⟨(some 6), none, .e (.load false 1 (.t 5))⟩,
     ⟨(some 7), none, .e (.fad 0 (.t 3))⟩,
     ⟨(some 8), none, .e (.load false 1 (.t 7))⟩,
     ⟨(some 9), none, .e (.bin .eql (.t 6) (.t 8))⟩,
     ⟨(some 10), none, .e (.mov (.t 9))⟩,
     ⟨(some 11), (some (10, true)), .e (.fad 1 (.t 2))⟩,
     ⟨(some 12), (some (10, true)), .e (.load false 1 (.t 11))⟩,
     ⟨(some 13), (some (10, true)), .e (.fad 1 (.t 3))⟩,
     ⟨(some 14), (some (10, true)), .e (.load false 1 (.t 13))⟩,
     ⟨(some 15), (some (10, true)), .e (.bin .eql (.t 12) (.t 14))⟩,
     ⟨(some 16), none, .e (.pick (.t 10) (.t 15) (.c (.bool false)))⟩,
     ⟨(some 17), none, .e (.mov (.t 16))⟩,
     ⟨(some 18), (some (17, true)), .e (.fad 2 (.t 2))⟩,
     ⟨(some 19), (some (17, true)), .e (.load false 1 (.t 18))⟩,
     ⟨(some 20), (some (17, true)), .e (.fad 2 (.t 3))⟩,
     ⟨(some 21), (some (17, true)), .e (.load false 1 (.t 20))⟩,
     ⟨(some 22), (some (17, true)), .e (.bin .eql (.t 19) (.t 21))⟩,
     ⟨(some 23), none, .e (.pick (.t 17) (.t 22) (.c (.bool false)))⟩,
     ⟨(some 24), none, .e (.mov (.t 23))⟩,
     ⟨(some 25), (some (24, true)), .e (.fad 3 (.t 2))⟩,
     ⟨(some 26), (some (24, true)), .e (.load false 1 (.t 25))⟩,
     ⟨(some 27), (some (24, true)), .e (.fad 3 (.t 3))⟩,
     ⟨(some 28), (some (24, true)), .e (.load false 1 (.t 27))⟩,
     ⟨(some 29), (some (24, true)), .callV 67 [(.t 26), (.t 28)]⟩,
     ⟨(some 30), none, .e (.pick (.t 24) (.t 29) (.c (.bool false)))⟩,
     ⟨(some 31), none, .e (.mov (.t 30))⟩,
     ⟨(some 32), (some (31, true)), .e (.fad 4 (.t 2))⟩,
     ⟨(some 33), (some (31, true)), .e (.load false 1 (.t 32))⟩,
     ⟨(some 34), (some (31, true)), .e (.fad 4 (.t 3))⟩,
     ⟨(some 35), (some (31, true)), .e (.load false 1 (.t 34))⟩,
     ⟨(some 36), (some (31, true)), .callV 68 [(.t 33), (.t 35)]⟩,
     ⟨(some 37), none, .e (.pick (.t 31) (.t 36) (.c (.bool false)))⟩,
     ⟨(some 38), none, .e (.mov (.t 37))⟩,
     ⟨(some 39), (some (38, true)), .e (.fad 5 (.t 2))⟩,
     ⟨(some 40), (some (38, true)), .e (.load false 1 (.t 39))⟩,
     ⟨(some 41), (some (38, true)), .e (.fad 5 (.t 3))⟩,
     ⟨(some 42), (some (38, true)), .e (.load false 1 (.t 41))⟩,
     ⟨(some 43), (some (38, true)), .callV 69 [(.t 40), (.t 42)]⟩,
     ⟨(some 44), none, .e (.pick (.t 38) (.t 43) (.c (.bool false)))⟩,
     ⟨(some 45), none, .e (.mov (.t 44))⟩,
     ⟨(some 46), (some (45, true)), .e (.fad 6 (.t 2))⟩,
     ⟨(some 47), (some (45, true)), .e (.load false 1 (.t 46))⟩,
     ⟨(some 48), (some (45, true)), .e (.fad 6 (.t 3))⟩,
     ⟨(some 49), (some (45, true)), .e (.load false 1 (.t 48))⟩,
     ⟨(some 50), (some (45, true)), .callV 70 [(.t 47), (.t 49)]⟩,
     ⟨(some 51), none, .e (.pick (.t 45) (.t 50) (.c (.bool false)))⟩,
     ⟨(some 52), none, .e (.mov (.t 51))⟩,
     ⟨(some 53), (some (52, true)), .e (.fad 7 (.t 2))⟩,
     ⟨(some 54), (some (52, true)), .e (.load false 1 (.t 53))⟩,
     ⟨(some 55), (some (52, true)), .e (.fad 7 (.t 3))⟩,
     ⟨(some 56), (some (52, true)), .e (.load false 1 (.t 55))⟩,
     ⟨(some 57), (some (52, true)), .e (.bin .eql (.t 54) (.t 56))⟩,
     ⟨(some 58), none, .e (.pick (.t 52) (.t 57) (.c (.bool false)))⟩,
     ⟨(some 59), none, .e (.mov (.t 58))⟩,
     ⟨(some 60), (some (59, true)), .e (.fad 8 (.t 2))⟩,
     ⟨(some 61), (some (59, true)), .e (.load false 1 (.t 60))⟩,
     ⟨(some 62), (some (59, true)), .e (.fad 8 (.t 3))⟩,
     ⟨(some 63), (some (59, true)), .e (.load false 1 (.t 62))⟩,
     ⟨(some 64), (some (59, true)), .e (.bin .eql (.t 61) (.t 63))⟩,
     ⟨(some 65), none, .e (.pick (.t 59) (.t 64) (.c (.bool false)))⟩,
     ⟨(some 66), none, .e (.mov (.t 65))⟩,
     ⟨(some 67), (some (66, true)), .e (.fad 9 (.t 2))⟩,
     ⟨(some 68), (some (66, true)), .e (.load false 1 (.t 67))⟩,
     ⟨(some 69), (some (66, true)), .e (.fad 9 (.t 3))⟩,
     ⟨(some 70), (some (66, true)), .e (.load false 1 (.t 69))⟩,
     ⟨(some 71), (some (66, true)), .e (.bin .eql (.t 68) (.t 70))⟩,
     ⟨(some 72), none, .e (.pick (.t 66) (.t 71) (.c (.bool false)))⟩,
     ⟨(some 73), none, .e (.mov (.t 72))⟩,
     ⟨(some 74), (some (73, true)), .e (.fad 10 (.t 2))⟩,
     ⟨(some 75), (some (73, true)), .e (.load false 1 (.t 74))⟩,
     ⟨(some 76), (some (73, true)), .e (.fad 10 (.t 3))⟩,
     ⟨(some 77), (some (73, true)), .e (.load false 1 (.t 76))⟩,
     ⟨(some 78), (some (73, true)), .e (.binB .eql (.t 75) (.t 77))⟩,
     ⟨(some 79), none, .e (.pick (.t 73) (.t 78) (.c (.bool false)))⟩,
     ⟨(some 4), none, .e (.mov (.t 79))⟩] [4])
   (.ret [4])))
theorem p27 : sight Tryz.prog 27 c27 = some (80, [.t 4], c27) := by kernel_rfl
/-- ballast/node.Parse -/
def c28 : AC :=
 (.seq
  (.reg [⟨(some 1), none, .box 1 9 (.t 0)⟩,
    ⟨(some 2), none, .alloc 5 31 (.agg [(.str []), .nils, .nils, .nils, (.bool false)])⟩,
    ⟨(some 3), none, .e (.mov (.c (.int .i64 0)))⟩] [1, 2])
  (.seq
   (.reg [⟨(some 4), none, .alloc 5 31 (.agg [(.str []), .nils, .nils, .nils, (.bool false)])⟩] [1, 2, 4])
   (.seq
    (.reg [⟨(some 6), none, .e (.mkf 72 [(.t 1), (.t 4)])⟩,
      ⟨(some 7), none, .call 71 [(.t 6)]⟩,
      ⟨(some 5), none, .e (.mov (.t 7))⟩] [2, 4, 5])
    (.seq
     (.seq
      (.reg [⟨(some 8), none, .e (.mov (.t 5))⟩,
        ⟨(some 9), none, .e (.bin .neq (.t 8) (.c (.int .i64 0)))⟩] [2, 4, 5, 9])
      (.cond (.t 9) [2, 5]
       (.seq
        (.reg [⟨(some 10), none, .e (.bld [(.str []), .nils, .nils, .nils, (.bool false)] [])⟩,
          ⟨(some 11), none, .e (.mov (.t 5))⟩,
          ⟨none, none, .store 5 (.t 2) (.t 10)⟩,
          ⟨(some 3), none, .e (.mov (.t 11))⟩] [2, 3])
        (.ret [2, 3]))
       [2, 4]
       .skip))
     (.seq
      (.reg [⟨(some 12), none, .e (.load true 5 (.t 4))⟩,
        ⟨none, none, .store 5 (.t 2) (.t 12)⟩,
        ⟨(some 3), none, .e (.mov (.c (.int .i64 0)))⟩] [2, 3])
      (.ret [2, 3]))))))
theorem p28 : sight Tryz.prog 28 c28 = some (13, [.c 2 true 5, .t 3], c28) := by kernel_rfl
/-- ballast/node.Text -/
def c29 : AC :=
 (.seq
  (.reg [⟨(some 1), none, .box 5 31 (.t 0)⟩,
    ⟨(some 2), none, .e (.mov (.c (.str [])))⟩] [1])
  (.seq
   (.reg [⟨(some 3), none, .e (.mov (.c (.str [117, 112])))⟩] [1, 3])
   (.seq
    (.seq
     (.reg [⟨(some 4), none, .e (.fad 4 (.t 1))⟩,
       ⟨(some 5), none, .e (.load false 1 (.t 4))⟩] [1, 3, 5])
     (.cond (.t 5) [1]
      (.reg [⟨(some 3), none, .e (.mov (.c (.str [99, 111, 114, 100, 111, 110])))⟩] [1, 3])
      [1, 3]
      .skip))
    (.seq
     (.reg [⟨(some 6), none, .e (.fad 0 (.t 1))⟩,
       ⟨(some 7), none, .e (.load false 1 (.t 6))⟩,
       ⟨(some 8), none, .e (.fad 1 (.t 1))⟩,
       ⟨(some 9), none, .e (.load false 1 (.t 8))⟩,
       ⟨(some 10), none, .callV 63 [(.t 9)]⟩,
       ⟨(some 11), none, .e (.fad 2 (.t 1))⟩,
       ⟨(some 12), none, .e (.load false 1 (.t 11))⟩,
       ⟨(some 13), none, .callV 64 [(.t 12)]⟩,
       ⟨(some 14), none, .e (.fad 3 (.t 1))⟩,
       ⟨(some 15), none, .e (.load false 1 (.t 14))⟩,
       ⟨(some 16), none, .callV 81 [(.t 15)]⟩,
       ⟨(some 17), none, .e (.mov (.t 3))⟩,
       ⟨(some 18), none, .lit 1 [(.t 7), (.t 10), (.t 13), (.t 16), (.t 17)]⟩,
       ⟨(some 19), none, .callV 61 [(.t 18), (.c (.str [32]))]⟩,
       ⟨(some 2), none, .e (.mov (.t 19))⟩] [2])
     (.ret [2])))))
theorem p29 : sight Tryz.prog 29 c29 = some (20, [.t 2], c29) := by kernel_rfl
/-- ballast/node.Same -/
def c30 : AC :=
 (.seq
  (.reg [⟨(some 2), none, .box 5 31 (.t 0)⟩,
    ⟨(some 3), none, .box 5 31 (.t 1)⟩,
    ⟨(some 4), none, .e (.mov (.c (.bool false)))⟩] [2, 3])
  (.seq
   (.reg [⟨(some 5), none, .e (.fad 0 (.t 2))⟩,
     ⟨(some 6), none, .e (.load false 1 (.t 5))⟩,
     ⟨(some 7), none, .e (.fad 0 (.t 3))⟩,
     ⟨(some 8), none, .e (.load false 1 (.t 7))⟩,
     ⟨(some 9), none, .e (.bin .eql (.t 6) (.t 8))⟩,
     ⟨(some 10), none, .e (.mov (.t 9))⟩,
     ⟨(some 11), (some (10, true)), .e (.fad 4 (.t 2))⟩,
     ⟨(some 12), (some (10, true)), .e (.load false 1 (.t 11))⟩,
     ⟨(some 13), (some (10, true)), .e (.fad 4 (.t 3))⟩,
     ⟨(some 14), (some (10, true)), .e (.load false 1 (.t 13))⟩,
     ⟨(some 15), (some (10, true)), .e (.binB .eql (.t 12) (.t 14))⟩,
     ⟨(some 16), none, .e (.pick (.t 10) (.t 15) (.c (.bool false)))⟩,
     ⟨(some 17), none, .e (.mov (.t 16))⟩,
     ⟨(some 18), (some (17, true)), .e (.fad 1 (.t 2))⟩,
     ⟨(some 19), (some (17, true)), .e (.load false 1 (.t 18))⟩,
     ⟨(some 20), (some (17, true)), .e (.fad 1 (.t 3))⟩,
     ⟨(some 21), (some (17, true)), .e (.load false 1 (.t 20))⟩,
     ⟨(some 22), (some (17, true)), .callV 67 [(.t 19), (.t 21)]⟩,
     ⟨(some 23), none, .e (.pick (.t 17) (.t 22) (.c (.bool false)))⟩,
     ⟨(some 24), none, .e (.mov (.t 23))⟩,
     ⟨(some 25), (some (24, true)), .e (.fad 2 (.t 2))⟩,
     ⟨(some 26), (some (24, true)), .e (.load false 1 (.t 25))⟩,
     ⟨(some 27), (some (24, true)), .e (.fad 2 (.t 3))⟩,
     ⟨(some 28), (some (24, true)), .e (.load false 1 (.t 27))⟩,
     ⟨(some 29), (some (24, true)), .callV 68 [(.t 26), (.t 28)]⟩,
     ⟨(some 30), none, .e (.pick (.t 24) (.t 29) (.c (.bool false)))⟩,
     ⟨(some 31), none, .e (.mov (.t 30))⟩,
     ⟨(some 32), (some (31, true)), .e (.fad 3 (.t 2))⟩,
     ⟨(some 33), (some (31, true)), .e (.load false 1 (.t 32))⟩,
     ⟨(some 34), (some (31, true)), .e (.fad 3 (.t 3))⟩,
     ⟨(some 35), (some (31, true)), .e (.load false 1 (.t 34))⟩,
     ⟨(some 36), (some (31, true)), .callV 82 [(.t 33), (.t 35)]⟩,
     ⟨(some 37), none, .e (.pick (.t 31) (.t 36) (.c (.bool false)))⟩,
     ⟨(some 4), none, .e (.mov (.t 37))⟩] [4])
   (.ret [4])))
theorem p30 : sight Tryz.prog 30 c30 = some (38, [.t 4], c30) := by kernel_rfl
/-- ballast/node.Check -/
def c31 : AC :=
 (.seq
  (.reg [⟨(some 1), none, .box 5 31 (.t 0)⟩,
    ⟨(some 2), none, .e (.mov (.c (.int .i64 0)))⟩] [1])
  (.seq
   (.reg [⟨(some 3), none, .e (.fad 0 (.t 1))⟩,
     ⟨(some 4), none, .e (.load false 1 (.t 3))⟩,
     ⟨(some 5), none, .callV 84 [(.t 4)]⟩,
     ⟨(some 6), none, .e (.fad 1 (.t 1))⟩,
     ⟨(some 7), none, .e (.load false 1 (.t 6))⟩,
     ⟨(some 8), none, .callV 85 [(.t 7)]⟩,
     ⟨(some 9), none, .e (.fad 2 (.t 1))⟩,
     ⟨(some 10), none, .e (.load false 1 (.t 9))⟩,
     ⟨(some 11), none, .callV 86 [(.t 10)]⟩,
     ⟨(some 12), none, .e (.fad 3 (.t 1))⟩,
     ⟨(some 13), none, .e (.load false 1 (.t 12))⟩,
     ⟨(some 14), none, .callV 87 [(.t 13)]⟩,
     ⟨(some 15), none, .lit 1 [(.t 5), (.t 8), (.t 11), (.t 14)]⟩,
     ⟨(some 16), none, .callV 83 [(.t 15)]⟩,
     ⟨(some 2), none, .e (.mov (.t 16))⟩] [2])
   (.ret [2])))
theorem p31 : sight Tryz.prog 31 c31 = some (17, [.t 2], c31) := by kernel_rfl
/-- ballast/node.Rows[ballast/node.Node] -/
def c36 : AC :=
 (.seq
  (.reg [⟨(some 8), none, .e (.mov (.c (.int .i64 0)))⟩] [0, 1, 2, 3])
  (.seq
   (.seq
    (.reg [⟨(some 12), none, .e (.mov (.t 0))⟩,
      ⟨(some 13), none, .e (.lenL (.t 12))⟩,
      ⟨(some 14), none, .e (.mov (.t 1))⟩,
      ⟨(some 15), none, .e (.bin .gtr (.t 13) (.t 14))⟩] [0, 2, 3, 15])
    (.cond (.t 15) []
     (.seq
      (.reg [⟨(some 8), none, .e (.mov (.c (.int .i64 4)))⟩] [8])
      (.ret [8]))
     [0, 2, 3]
     .skip))
   (.seq
    (.seq
     (.reg [⟨(some 16), none, .e (.mov (.t 0))⟩,
       ⟨(some 17), none, .e (.lenL (.t 16))⟩,
       ⟨(some 18), none, .e (.mov (.c (.int .i64 0)))⟩] [0, 2, 3, 16, 17, 18])
     (.block 0
      (.loop [0, 2, 3, 16, 17, 18]
       (.seq
        (.reg [⟨(some 19), none, .e (.bin .lss (.t 18) (.t 17))⟩] [0, 2, 3, 16, 17, 18, 19])
        (.seq
         (.cond (.t 19) [0, 2, 3, 16, 17, 18]
          .skip
          []
          (.exit 0 []))
         (.seq
          (.block 1
           (.seq
            (.reg [⟨(some 20), none, .e (.mov (.t 18))⟩,
              ⟨(some 21), none, .e (.iad 5 (.t 16) (.t 18))⟩,
              ⟨(some 22), none, .e (.load true 5 (.t 21))⟩,
              ⟨(some 10), none, .alloc 5 31 (.agg [(.str []), .nils, .nils, .nils, (.bool false)])⟩,
              ⟨(some 9), none, .e (.mov (.t 20))⟩,
              ⟨none, none, .store 5 (.t 10) (.t 22)⟩] [0, 2, 3, 9, 10, 16, 17, 18])
            (.seq
             (.seq
              (.reg [⟨(some 23), none, .e (.mov (.t 3))⟩,
                ⟨(some 24), none, .e (.load true 5 (.t 10))⟩,
                ⟨(some 25), none, .cvalV (.t 23) [(.t 24)]⟩,
                ⟨(some 11), none, .e (.mov (.t 25))⟩] [0, 2, 3, 9, 10, 11, 16, 17, 18])
              (.seq
               (.reg [⟨(some 26), none, .e (.mov (.t 11))⟩,
                 ⟨(some 27), none, .e (.bin .neq (.t 26) (.c (.int .i64 0)))⟩] [0, 2, 3, 9, 10, 11, 16, 17, 18, 27])
               (.cond (.t 27) [11]
                (.seq
                 (.reg [⟨(some 28), none, .e (.mov (.t 11))⟩,
                   ⟨(some 8), none, .e (.mov (.t 28))⟩] [8])
                 (.ret [8]))
                [0, 2, 3, 9, 10, 16, 17, 18]
                .skip)))
             (.seq
              (.reg [⟨(some 29), none, .e (.mov (.t 9))⟩,
                ⟨(some 30), none, .e (.bin .gtr (.t 29) (.c (.int .i64 0)))⟩,
                ⟨(some 31), none, .e (.mov (.t 30))⟩,
                ⟨(some 32), (some (31, true)), .e (.mov (.t 2))⟩,
                ⟨(some 33), (some (31, true)), .e (.load true 5 (.t 10))⟩,
                ⟨(some 34), (some (31, true)), .cvalV (.t 32) [(.t 33)]⟩,
                ⟨(some 35), (some (31, true)), .e (.mov (.t 2))⟩,
                ⟨(some 36), (some (31, true)), .e (.mov (.t 0))⟩,
                ⟨(some 37), (some (31, true)), .e (.mov (.t 9))⟩,
                ⟨(some 38), (some (31, true)), .e (.bin .sub (.t 37) (.c (.int .i64 1)))⟩,
                ⟨(some 39), (some (31, true)), .e (.iad 5 (.t 36) (.t 38))⟩,
                ⟨(some 40), (some (31, true)), .e (.load true 5 (.t 39))⟩,
                ⟨(some 41), (some (31, true)), .cvalV (.t 35) [(.t 40)]⟩,
                ⟨(some 42), (some (31, true)), .e (.bin .leq (.t 34) (.t 41))⟩,
                ⟨(some 43), none, .e (.pick (.t 31) (.t 42) (.c (.bool false)))⟩] [0, 2, 3, 16, 17, 18, 43])
              (.cond (.t 43) []
               (.seq
                (.reg [⟨(some 8), none, .e (.mov (.c (.int .i64 13)))⟩] [8])
                (.ret [8]))
               [0, 2, 3, 16, 17, 18]
               .skip)))))
          (.reg [⟨(some 44), none, .e (.bin .add (.t 18) (.c (.int .i64 1)))⟩,
            ⟨(some 18), none, .e (.mov (.t 44))⟩] [0, 2, 3, 16, 17, 18])))))))
    (.seq
     (.reg [⟨(some 8), none, .e (.mov (.c (.int .i64 0)))⟩] [8])
     (.ret [8])))))
theorem p36 : sight Tryz.prog 36 c36 = some (45, [.t 8], c36) := by kernel_rfl
/-- ballast/node.CheckAll$1 -/
def c37 : AC :=
 (.seq
  (.reg [⟨(some 1), none, .box 5 31 (.t 0)⟩,
    ⟨(some 2), none, .e (.mov (.c (.str [])))⟩] [1])
  (.seq
   (.reg [⟨(some 3), none, .e (.fad 0 (.t 1))⟩,
     ⟨(some 4), none, .e (.load false 1 (.t 3))⟩,
     ⟨(some 2), none, .e (.mov (.t 4))⟩] [2])
   (.ret [2])))
theorem p37 : sight Tryz.prog 37 c37 = some (5, [.t 2], c37) := by kernel_rfl
/-- ballast/pod.Parse -/
def c44 : AC :=
 (.seq
  (.reg [⟨(some 1), none, .box 1 9 (.t 0)⟩,
    ⟨(some 2), none, .alloc 11 59 (.agg [(.str []), (.str []), (.int .i64 0), .nils, .nils, .nils, .nils, (.str []), (.int .i64 0), (.str []), (.bool false)])⟩,
    ⟨(some 3), none, .e (.mov (.c (.int .i64 0)))⟩] [1, 2])
  (.seq
   (.reg [⟨(some 4), none, .alloc 11 59 (.agg [(.str []), (.str []), (.int .i64 0), .nils, .nils, .nils, .nils, (.str []), (.int .i64 0), (.str []), (.bool false)])⟩] [1, 2, 4])
   (.seq
    (.reg [⟨(some 6), none, .e (.mkf 89 [(.t 1), (.t 4)])⟩,
      ⟨(some 7), none, .call 71 [(.t 6)]⟩,
      ⟨(some 5), none, .e (.mov (.t 7))⟩] [2, 4, 5])
    (.seq
     (.seq
      (.reg [⟨(some 8), none, .e (.mov (.t 5))⟩,
        ⟨(some 9), none, .e (.bin .neq (.t 8) (.c (.int .i64 0)))⟩] [2, 4, 5, 9])
      (.cond (.t 9) [2, 5]
       (.seq
        (.reg [⟨(some 10), none, .e (.bld [(.str []), (.str []), (.int .i64 0), .nils, .nils, .nils, .nils, (.str []), (.int .i64 0), (.str []), (.bool false)] [])⟩,
          ⟨(some 11), none, .e (.mov (.t 5))⟩,
          ⟨none, none, .store 11 (.t 2) (.t 10)⟩,
          ⟨(some 3), none, .e (.mov (.t 11))⟩] [2, 3])
        (.ret [2, 3]))
       [2, 4]
       .skip))
     (.seq
      (.reg [⟨(some 12), none, .e (.load true 11 (.t 4))⟩,
        ⟨none, none, .store 11 (.t 2) (.t 12)⟩,
        ⟨(some 3), none, .e (.mov (.c (.int .i64 0)))⟩] [2, 3])
      (.ret [2, 3]))))))
theorem p44 : sight Tryz.prog 44 c44 = some (13, [.c 2 true 11, .t 3], c44) := by kernel_rfl
/-- ballast/pod.Compare -/
def c45 : AC :=
 (.seq
  (.reg [⟨(some 2), none, .box 11 59 (.t 0)⟩,
    ⟨(some 3), none, .box 11 59 (.t 1)⟩,
    ⟨(some 4), none, .e (.mov (.c (.int .i64 0)))⟩] [2, 3])
  (.seq
   (.reg [⟨(some 5), none, .e (.fad 2 (.t 3))⟩,
     ⟨(some 6), none, .e (.load false 1 (.t 5))⟩,
     ⟨(some 7), none, .e (.fad 2 (.t 2))⟩,
     ⟨(some 8), none, .e (.load false 1 (.t 7))⟩,
     ⟨(some 9), none, .callV 98 [(.t 6), (.t 8)]⟩,
     ⟨(some 10), none, .e (.fad 0 (.t 2))⟩,
     ⟨(some 11), none, .e (.load false 1 (.t 10))⟩,
     ⟨(some 12), none, .e (.fad 0 (.t 3))⟩,
     ⟨(some 13), none, .e (.load false 1 (.t 12))⟩,
     ⟨(some 14), none, .callV 99 [(.t 11), (.t 13)]⟩,
     ⟨(some 15), none, .lit 1 [(.t 9), (.t 14)]⟩,
     ⟨(some 16), none, .callV 97 [(.t 15)]⟩,
     ⟨(some 4), none, .e (.mov (.t 16))⟩] [4])
   (.ret [4])))
theorem p45 : sight Tryz.prog 45 c45 = some (17, [.t 4], c45) := by kernel_rfl
/-- ballast/pod.Check -/
def c46 : AC :=
 (.seq
  (.reg [⟨(some 1), none, .box 11 59 (.t 0)⟩,
    ⟨(some 2), none, .e (.mov (.c (.int .i64 0)))⟩] [1])
  (.seq
   (.reg [⟨(some 3), none, .e (.fad 0 (.t 1))⟩,
     ⟨(some 4), none, .e (.load false 1 (.t 3))⟩,
     ⟨(some 5), none, .callV 84 [(.t 4)]⟩,
     ⟨(some 6), none, .e (.fad 1 (.t 1))⟩,
     ⟨(some 7), none, .e (.load false 1 (.t 6))⟩,
     ⟨(some 8), none, .callV 100 [(.t 7)]⟩,
     ⟨(some 9), none, .e (.load true 11 (.t 1))⟩,
     ⟨(some 10), none, .callV 101 [(.t 9)]⟩,
     ⟨(some 11), none, .e (.fad 3 (.t 1))⟩,
     ⟨(some 12), none, .e (.load false 1 (.t 11))⟩,
     ⟨(some 13), none, .callV 85 [(.t 12)]⟩,
     ⟨(some 14), none, .e (.fad 4 (.t 1))⟩,
     ⟨(some 15), none, .e (.load false 1 (.t 14))⟩,
     ⟨(some 16), none, .callV 86 [(.t 15)]⟩,
     ⟨(some 17), none, .e (.fad 5 (.t 1))⟩,
     ⟨(some 18), none, .e (.load false 1 (.t 17))⟩,
     ⟨(some 19), none, .callV 102 [(.t 18)]⟩,
     ⟨(some 20), none, .e (.fad 6 (.t 1))⟩,
     ⟨(some 21), none, .e (.load false 1 (.t 20))⟩,
     ⟨(some 22), none, .callV 103 [(.t 21)]⟩,
     ⟨(some 23), none, .e (.fad 7 (.t 1))⟩,
     ⟨(some 24), none, .e (.load false 1 (.t 23))⟩,
     ⟨(some 25), none, .callV 100 [(.t 24)]⟩,
     ⟨(some 26), none, .e (.load true 11 (.t 1))⟩,
     ⟨(some 27), none, .callV 104 [(.t 26)]⟩,
     ⟨(some 28), none, .e (.fad 9 (.t 1))⟩,
     ⟨(some 29), none, .e (.load false 1 (.t 28))⟩,
     ⟨(some 30), none, .callV 100 [(.t 29)]⟩,
     ⟨(some 31), none, .lit 1 [(.t 5), (.t 8), (.t 10), (.t 13), (.t 16), (.t 19), (.t 22), (.t 25), (.t 27), (.t 30)]⟩,
     ⟨(some 32), none, .callV 83 [(.t 31)]⟩,
     ⟨(some 2), none, .e (.mov (.t 32))⟩] [2])
   (.ret [2])))
theorem p46 : sight Tryz.prog 46 c46 = some (33, [.t 2], c46) := by kernel_rfl
/-- ballast/node.Rows[ballast/pod.Pod] -/
def c49 : AC :=
 (.seq
  (.reg [⟨(some 8), none, .e (.mov (.c (.int .i64 0)))⟩] [0, 1, 2, 3])
  (.seq
   (.seq
    (.reg [⟨(some 12), none, .e (.mov (.t 0))⟩,
      ⟨(some 13), none, .e (.lenL (.t 12))⟩,
      ⟨(some 14), none, .e (.mov (.t 1))⟩,
      ⟨(some 15), none, .e (.bin .gtr (.t 13) (.t 14))⟩] [0, 2, 3, 15])
    (.cond (.t 15) []
     (.seq
      (.reg [⟨(some 8), none, .e (.mov (.c (.int .i64 4)))⟩] [8])
      (.ret [8]))
     [0, 2, 3]
     .skip))
   (.seq
    (.seq
     (.reg [⟨(some 16), none, .e (.mov (.t 0))⟩,
       ⟨(some 17), none, .e (.lenL (.t 16))⟩,
       ⟨(some 18), none, .e (.mov (.c (.int .i64 0)))⟩] [0, 2, 3, 16, 17, 18])
     (.block 0
      (.loop [0, 2, 3, 16, 17, 18]
       (.seq
        (.reg [⟨(some 19), none, .e (.bin .lss (.t 18) (.t 17))⟩] [0, 2, 3, 16, 17, 18, 19])
        (.seq
         (.cond (.t 19) [0, 2, 3, 16, 17, 18]
          .skip
          []
          (.exit 0 []))
         (.seq
          (.block 1
           (.seq
            (.reg [⟨(some 20), none, .e (.mov (.t 18))⟩,
              ⟨(some 21), none, .e (.iad 11 (.t 16) (.t 18))⟩,
              ⟨(some 22), none, .e (.load true 11 (.t 21))⟩,
              ⟨(some 10), none, .alloc 11 59 (.agg [(.str []), (.str []), (.int .i64 0), .nils, .nils, .nils, .nils, (.str []), (.int .i64 0), (.str []), (.bool false)])⟩,
              ⟨(some 9), none, .e (.mov (.t 20))⟩,
              ⟨none, none, .store 11 (.t 10) (.t 22)⟩] [0, 2, 3, 9, 10, 16, 17, 18])
            (.seq
             (.seq
              (.reg [⟨(some 23), none, .e (.mov (.t 3))⟩,
                ⟨(some 24), none, .e (.load true 11 (.t 10))⟩,
                ⟨(some 25), none, .cvalV (.t 23) [(.t 24)]⟩,
                ⟨(some 11), none, .e (.mov (.t 25))⟩] [0, 2, 3, 9, 10, 11, 16, 17, 18])
              (.seq
               (.reg [⟨(some 26), none, .e (.mov (.t 11))⟩,
                 ⟨(some 27), none, .e (.bin .neq (.t 26) (.c (.int .i64 0)))⟩] [0, 2, 3, 9, 10, 11, 16, 17, 18, 27])
               (.cond (.t 27) [11]
                (.seq
                 (.reg [⟨(some 28), none, .e (.mov (.t 11))⟩,
                   ⟨(some 8), none, .e (.mov (.t 28))⟩] [8])
                 (.ret [8]))
                [0, 2, 3, 9, 10, 16, 17, 18]
                .skip)))
             (.seq
              (.reg [⟨(some 29), none, .e (.mov (.t 9))⟩,
                ⟨(some 30), none, .e (.bin .gtr (.t 29) (.c (.int .i64 0)))⟩,
                ⟨(some 31), none, .e (.mov (.t 30))⟩,
                ⟨(some 32), (some (31, true)), .e (.mov (.t 2))⟩,
                ⟨(some 33), (some (31, true)), .e (.load true 11 (.t 10))⟩,
                ⟨(some 34), (some (31, true)), .cvalV (.t 32) [(.t 33)]⟩,
                ⟨(some 35), (some (31, true)), .e (.mov (.t 2))⟩,
                ⟨(some 36), (some (31, true)), .e (.mov (.t 0))⟩,
                ⟨(some 37), (some (31, true)), .e (.mov (.t 9))⟩,
                ⟨(some 38), (some (31, true)), .e (.bin .sub (.t 37) (.c (.int .i64 1)))⟩,
                ⟨(some 39), (some (31, true)), .e (.iad 11 (.t 36) (.t 38))⟩,
                ⟨(some 40), (some (31, true)), .e (.load true 11 (.t 39))⟩,
                ⟨(some 41), (some (31, true)), .cvalV (.t 35) [(.t 40)]⟩,
                ⟨(some 42), (some (31, true)), .e (.bin .leq (.t 34) (.t 41))⟩,
                ⟨(some 43), none, .e (.pick (.t 31) (.t 42) (.c (.bool false)))⟩] [0, 2, 3, 16, 17, 18, 43])
              (.cond (.t 43) []
               (.seq
                (.reg [⟨(some 8), none, .e (.mov (.c (.int .i64 13)))⟩] [8])
                (.ret [8]))
               [0, 2, 3, 16, 17, 18]
               .skip)))))
          (.reg [⟨(some 44), none, .e (.bin .add (.t 18) (.c (.int .i64 1)))⟩,
            ⟨(some 18), none, .e (.mov (.t 44))⟩] [0, 2, 3, 16, 17, 18])))))))
    (.seq
     (.reg [⟨(some 8), none, .e (.mov (.c (.int .i64 0)))⟩] [8])
     (.ret [8])))))
theorem p49 : sight Tryz.prog 49 c49 = some (45, [.t 8], c49) := by kernel_rfl
/-- ballast/pod.CheckAll$1 -/
def c50 : AC :=
 (.seq
  (.reg [⟨(some 1), none, .box 11 59 (.t 0)⟩,
    ⟨(some 2), none, .e (.mov (.c (.str [])))⟩] [1])
  (.seq
   (.reg [⟨(some 3), none, .e (.fad 0 (.t 1))⟩,
     ⟨(some 4), none, .e (.load false 1 (.t 3))⟩,
     ⟨(some 2), none, .e (.mov (.t 4))⟩] [2])
   (.ret [2])))
theorem p50 : sight Tryz.prog 50 c50 = some (5, [.t 2], c50) := by kernel_rfl
/-- ballast/pod.dash -/
def c62 : AC :=
 (.seq
  (.reg [⟨(some 2), none, .e (.mov (.c (.str [])))⟩] [0])
  (.seq
   (.seq
    (.reg [⟨(some 3), none, .e (.mov (.t 0))⟩,
      ⟨(some 4), none, .e (.bin .eql (.t 3) (.c (.str [])))⟩] [0, 4])
    (.cond (.t 4) []
     (.seq
      (.reg [⟨(some 2), none, .e (.mov (.c (.str [45])))⟩] [2])
      (.ret [2]))
     [0]
     .skip))
   (.seq
    (.reg [⟨(some 5), none, .e (.mov (.t 0))⟩,
      ⟨(some 2), none, .e (.mov (.t 5))⟩] [2])
    (.ret [2]))))
theorem p62 : sight Tryz.prog 62 c62 = some (6, [.t 2], c62) := by kernel_rfl
/-- ballast/res.Text -/
def c63 : AC :=
 (.seq
  (.reg [⟨(some 2), none, .e (.mov (.c (.str [])))⟩] [0])
  (.seq
   (.seq
    (.reg [⟨(some 6), none, .e (.mov (.t 0))⟩,
      ⟨(some 7), none, .e (.lenL (.t 6))⟩,
      ⟨(some 8), none, .e (.bin .eql (.t 7) (.c (.int .i64 0)))⟩] [0, 8])
    (.cond (.t 8) []
     (.seq
      (.reg [⟨(some 2), none, .e (.mov (.c (.str [45])))⟩] [2])
      (.ret [2]))
     [0]
     .skip))
   (.seq
    (.reg [⟨(some 3), none, .e (.mov (.c .nils))⟩] [0, 3])
    (.seq
     (.seq
      (.reg [⟨(some 9), none, .e (.mov (.t 0))⟩,
        ⟨(some 10), none, .e (.lenL (.t 9))⟩,
        ⟨(some 11), none, .e (.mov (.c (.int .i64 0)))⟩] [3, 9, 10, 11])
      (.block 0
       (.loop [3, 9, 10, 11]
        (.seq
         (.reg [⟨(some 12), none, .e (.bin .lss (.t 11) (.t 10))⟩] [3, 9, 10, 11, 12])
         (.seq
          (.cond (.t 12) [3, 9, 10, 11]
           .skip
           [3]
           (.exit 0 [3]))
          (.seq
           (.block 1
            (.seq
             (.reg [⟨(some 13), none, .e (.iad 2 (.t 9) (.t 11))⟩,
               ⟨(some 14), none, .e (.load true 2 (.t 13))⟩,
               ⟨(some 5), none, .alloc 2 51 (.agg [(.str []), (.int .i64 0)])⟩,
               ⟨none, none, .store 2 (.t 5) (.t 14)⟩] [3, 5, 9, 10, 11])
             (.reg [⟨(some 15), none, .e (.mov (.t 3))⟩,
               ⟨(some 16), none, .e (.fad 0 (.t 5))⟩,
               ⟨(some 17), none, .e (.load false 1 (.t 16))⟩,
               ⟨(some 18), none, .e (.bin .add (.t 17) (.c (.str [61])))⟩,
               ⟨(some 19), none, .e (.fad 1 (.t 5))⟩,
               ⟨(some 20), none, .e (.load false 1 (.t 19))⟩,
               ⟨(some 21), none, .callV 109 [(.t 20), (.c (.int .i64 10))]⟩,
               ⟨(some 22), none, .e (.bin .add (.t 18) (.t 21))⟩,
               ⟨(some 23), none, .lit 1 [(.t 22)]⟩,
               ⟨(some 24), none, .app 1 9 16 (.t 15) (.t 23)⟩,
               ⟨(some 3), none, .e (.mov (.t 24))⟩] [3, 9, 10, 11])))
           (.reg [⟨(some 25), none, .e (.bin .add (.t 11) (.c (.int .i64 1)))⟩,
             ⟨(some 11), none, .e (.mov (.t 25))⟩] [3, 9, 10, 11])))))))
     (.seq
      (.reg [⟨(some 26), none, .e (.mov (.t 3))⟩,
        ⟨(some 27), none, .callO 61 [(.t 26), (.c (.str [44]))]⟩,
        ⟨(some 2), none, .e (.mov (.t 27))⟩] [2])
      (.ret [2]))))))
theorem p63 : sight Tryz.prog 63 c63 = some (28, [.t 2], c63) := by kernel_rfl
/-- ballast/label.Text -/
def c64 : AC :=
 (.seq
  (.reg [⟨(some 2), none, .e (.mov (.c (.str [])))⟩] [0])
  (.seq
   (.reg [⟨(some 3), none, .e (.mov (.t 0))⟩,
     ⟨(some 4), none, .callV 110 [(.t 3), (.c (.fn 111 []))]⟩,
     ⟨(some 2), none, .e (.mov (.t 4))⟩] [2])
   (.ret [2])))
theorem p64 : sight Tryz.prog 64 c64 = some (5, [.t 2], c64) := by kernel_rfl
/-- ballast/label.SelText -/
def c65 : AC :=
 (.seq
  (.reg [⟨(some 2), none, .e (.mov (.c (.str [])))⟩] [0])
  (.seq
   (.reg [⟨(some 3), none, .e (.mov (.t 0))⟩,
     ⟨(some 4), none, .callV 112 [(.t 3), (.c (.fn 113 []))]⟩,
     ⟨(some 2), none, .e (.mov (.t 4))⟩] [2])
   (.ret [2])))
theorem p65 : sight Tryz.prog 65 c65 = some (5, [.t 2], c65) := by kernel_rfl
/-- ballast/taint.TolText -/
def c66 : AC :=
 (.seq
  (.reg [⟨(some 2), none, .e (.mov (.c (.str [])))⟩] [0])
  (.seq
   (.reg [⟨(some 3), none, .e (.mov (.t 0))⟩,
     ⟨(some 4), none, .callV 114 [(.t 3), (.c (.fn 115 []))]⟩,
     ⟨(some 2), none, .e (.mov (.t 4))⟩] [2])
   (.ret [2])))
theorem p66 : sight Tryz.prog 66 c66 = some (5, [.t 2], c66) := by kernel_rfl
/-- ballast/res.Same -/
def c67 : AC :=
 (.seq
  (.reg [⟨(some 4), none, .e (.mov (.c (.bool false)))⟩] [0, 1])
  (.seq
   (.reg [⟨(some 5), none, .e (.mov (.t 0))⟩,
     ⟨(some 6), none, .e (.mov (.t 1))⟩,
     ⟨(some 7), none, .callV 116 [(.t 5), (.t 6)]⟩,
     ⟨(some 4), none, .e (.mov (.t 7))⟩] [4])
   (.ret [4])))
theorem p67 : sight Tryz.prog 67 c67 = some (8, [.t 4], c67) := by kernel_rfl
/-- ballast/node.Parse$1 -/
def c72 : AC :=
 (.seq
  (.reg [⟨(some 3), none, .e (.load false 1 (.t 0))⟩,
    ⟨(some 4), none, .callV 73 [(.t 3), (.c (.str [32]))]⟩,
    ⟨(some 2), none, .e (.mov (.t 4))⟩] [1, 2])
  (.seq
   (.seq
    (.reg [⟨(some 5), none, .e (.mov (.t 2))⟩,
      ⟨(some 6), none, .e (.lenL (.t 5))⟩,
      ⟨(some 7), none, .e (.bin .neq (.t 6) (.c (.int .i64 5)))⟩,
      ⟨(some 8), none, .e (.mov (.t 7))⟩,
      ⟨(some 9), (some (8, false)), .e (.mov (.t 2))⟩,
      ⟨(some 10), (some (8, false)), .e (.iad 1 (.t 9) (.c (.int .i64 4)))⟩,
      ⟨(some 11), (some (8, false)), .e (.load false 1 (.t 10))⟩,
      ⟨(some 12), (some (8, false)), .e (.bin .neq (.t 11) (.c (.str [117, 112])))⟩,
      ⟨(some 13), (some (8, false)), .e (.mov (.t 12))⟩,
      ⟨(some 14), (some (13, true)), .e (.mov (.t 2))⟩,
      ⟨(some 15), (some (13, true)), .e (.iad 1 (.t 14) (.c (.int .i64 4)))⟩,
      ⟨(some 16), (some (13, true)), .e (.load false 1 (.t 15))⟩,
      ⟨(some 17), (some (13, true)), .e (.bin .neq (.t 16) (.c (.str [99, 111, 114, 100, 111, 110])))⟩,
      ⟨(some 18), (some (8, false)), .e (.pick (.t 13) (.t 17) (.c (.bool false)))⟩,
      ⟨(some 19), none, .e (.pick (.t 8) (.c (.bool true)) (.t 18))⟩] [1, 2, 19])
    (.cond (.t 19) [1, 2]
     (.reg [⟨(some 20), none, .callP 74 [(.c (.int .i64 2))]⟩] [1, 2])
     [1, 2]
     .skip))
   (.seq
    (.regp [0, 1, 2, 3, 4, 5, 6, 7, 8, 10, 11, 12, 17, 18, 19, 24, 25, 26, 27, 9, 13, 14, 15, 16, 20, 21, 22, 23, 28, 29] [⟨(some 21), none, .e (.mov (.t 2))⟩,
      ⟨(some 22), none, .e (.iad 1 (.t 21) (.c (.int .i64 0)))⟩,
      ⟨(some 23), none, .e (.load false 1 (.t 22))⟩,
      ⟨(some 24), none, .e (.mov (.t 2))⟩,
      ⟨(some 25), none, .e (.iad 1 (.t 24) (.c (.int .i64 1)))⟩,
      ⟨(some 26), none, .e (.load false 1 (.t 25))⟩,
      ⟨(some 27), none, .callV 76 [(.t 26)]⟩,
      ⟨(some 28), none, .e (.ext (.t 27) 0)⟩,
      ⟨(some 29), none, .e (.ext (.t 27) 1)⟩,
      ⟨(some 31), none, .e (.mov (.t 2))⟩,
      ⟨(some 32), none, .e (.iad 1 (.t 31) (.c (.int .i64 2)))⟩,
      ⟨(some 33), none, .e (.load false 1 (.t 32))⟩,
      ⟨(some 38), none, .e (.mov (.t 2))⟩,
      ⟨(some 39), none, .e (.iad 1 (.t 38) (.c (.int .i64 3)))⟩,
      ⟨(some 40), none, .e (.load false 1 (.t 39))⟩,
      ⟨(some 45), none, .e (.mov (.t 2))⟩,
      ⟨(some 46), none, .e (.iad 1 (.t 45) (.c (.int .i64 4)))⟩,
      ⟨(some 47), none, .e (.load false 1 (.t 46))⟩,
      ⟨(some 48), none, .e (.bin .eql (.t 47) (.c (.str [99, 111, 114, 100, 111, 110])))⟩,
      ⟨(some 30), none, .callP 75 [(.t 28), (.t 29)]⟩,
      ⟨(some 34), none, .callV 78 [(.t 33)]⟩,
      ⟨(some 35), none, .e (.ext (.t 34) 0)⟩,
      ⟨(some 36), none, .e (.ext (.t 34) 1)⟩,
      ⟨(some 37), none, .callP 77 [(.t 35), (.t 36)]⟩,
      ⟨(some 41), none, .callV 80 [(.t 40)]⟩,
      ⟨(some 42), none, .e (.ext (.t 41) 0)⟩,
      ⟨(some 43), none, .e (.ext (.t 41) 1)⟩,
      ⟨(some 44), none, .callP 79 [(.t 42), (.t 43)]⟩,
      ⟨(some 49), none, .e (.bld [(.str []), .nils, .nils, .nils, (.bool false)] [(0, 1, (.t 23)), (1, 1, (.t 30)), (2, 1, (.t 37)), (3, 1, (.t 44)), (4, 1, (.t 48))])⟩,
      ⟨none, none, .store 5 (.t 1) (.t 49)⟩] [1])
    (.reg [⟨(some 50), none, .e (.load true 5 (.t 1))⟩,
      ⟨(some 51), none, .callV 31 [(.t 50)]⟩,
      ⟨(some 52), none, .callP 74 [(.t 51)]⟩] []))))
theorem p72 : sight Tryz.prog 72 c72 = some (53, [], c72) := by kernel_rfl
/-- ballast/qty.Stop -/
def c74 : AC :=
 (.seq
  (.reg [⟨(some 2), none, .e (.mov (.t 0))⟩,
    ⟨(some 3), none, .e (.bin .neq (.t 2) (.c (.int .i64 0)))⟩] [0, 3])
  (.cond (.t 3) [0]
   (.reg [⟨(some 4), none, .e (.mov (.t 0))⟩,
     ⟨(some 5), none, .e (.bld [(.int .i64 0)] [(0, 1, (.t 4))])⟩,
     ⟨(some 6), none, .e (.mki 186 (.t 5))⟩,
     ⟨none, none, .pan (.t 6)⟩] [])
   []
   .skip))
theorem p74 : sight Tryz.prog 74 c74 = some (7, [], c74) := by kernel_rfl
/-- ballast/node.Take[ballast/res.Vec] -/
def c75 : AC :=
 (.seq
  (.reg [⟨(some 4), none, .e (.mov (.c .nils))⟩] [0, 1])
  (.seq
   (.reg [⟨(some 5), none, .e (.mov (.t 1))⟩,
     ⟨(some 6), none, .callP 74 [(.t 5)]⟩] [0])
   (.seq
    (.reg [⟨(some 7), none, .e (.mov (.t 0))⟩,
      ⟨(some 4), none, .e (.mov (.t 7))⟩] [4])
    (.ret [4]))))
theorem p75 : sight Tryz.prog 75 c75 = some (8, [.t 4], c75) := by kernel_rfl
/-- ballast/res.Parse -/
def c76 : AC :=
 (.seq
  (.reg [⟨(some 1), none, .box 1 9 (.t 0)⟩,
    ⟨(some 2), none, .e (.mov (.c .nils))⟩,
    ⟨(some 3), none, .e (.mov (.c (.int .i64 0)))⟩] [1])
  (.seq
   (.seq
    (.reg [⟨(some 6), none, .e (.load false 1 (.t 1))⟩,
      ⟨(some 7), none, .e (.bin .eql (.t 6) (.c (.str [45])))⟩] [1, 7])
    (.cond (.t 7) []
     (.seq
      (.reg [⟨(some 2), none, .e (.mov (.c .nils))⟩,
        ⟨(some 3), none, .e (.mov (.c (.int .i64 0)))⟩] [2, 3])
      (.ret [2, 3]))
     [1]
     .skip))
   (.seq
    (.reg [⟨(some 4), none, .alloc 1 26 .nils⟩] [1, 4])
    (.seq
     (.reg [⟨(some 8), none, .e (.mkf 119 [(.t 1), (.t 4)])⟩,
       ⟨(some 9), none, .call 71 [(.t 8)]⟩,
       ⟨(some 5), none, .e (.mov (.t 9))⟩] [4, 5])
     (.seq
      (.seq
       (.reg [⟨(some 10), none, .e (.mov (.t 5))⟩,
         ⟨(some 11), none, .e (.bin .neq (.t 10) (.c (.int .i64 0)))⟩] [4, 5, 11])
       (.cond (.t 11) [5]
        (.seq
         (.reg [⟨(some 12), none, .e (.mov (.t 5))⟩,
           ⟨(some 2), none, .e (.mov (.c .nils))⟩,
           ⟨(some 3), none, .e (.mov (.t 12))⟩] [2, 3])
         (.ret [2, 3]))
        [4]
        .skip))
      (.seq
       (.reg [⟨(some 13), none, .e (.load false 1 (.t 4))⟩,
         ⟨(some 2), none, .e (.mov (.t 13))⟩,
         ⟨(some 3), none, .e (.mov (.c (.int .i64 0)))⟩] [2, 3])
       (.ret [2, 3])))))))
theorem p76 : sight Tryz.prog 76 c76 = some (14, [.t 2, .t 3], c76) := by kernel_rfl
/-- ballast/node.Take[ballast/label.Set] -/
def c77 : AC :=
 (.seq
  (.reg [⟨(some 4), none, .e (.mov (.c .nils))⟩] [0, 1])
  (.seq
   (.reg [⟨(some 5), none, .e (.mov (.t 1))⟩,
     ⟨(some 6), none, .callP 74 [(.t 5)]⟩] [0])
   (.seq
    (.reg [⟨(some 7), none, .e (.mov (.t 0))⟩,
      ⟨(some 4), none, .e (.mov (.t 7))⟩] [4])
    (.ret [4]))))
theorem p77 : sight Tryz.prog 77 c77 = some (8, [.t 4], c77) := by kernel_rfl
/-- ballast/label.Parse -/
def c78 : AC :=
 (.seq
  (.reg [⟨(some 2), none, .e (.mov (.c .nils))⟩,
    ⟨(some 3), none, .e (.mov (.c (.int .i64 0)))⟩] [0])
  (.seq
   (.reg [⟨(some 4), none, .e (.mov (.t 0))⟩,
     ⟨(some 5), none, .callV 122 [(.t 4), (.c (.fn 123 [])), (.c (.fn 125 []))]⟩,
     ⟨(some 6), none, .e (.ext (.t 5) 0)⟩,
     ⟨(some 7), none, .e (.ext (.t 5) 1)⟩,
     ⟨(some 2), none, .e (.mov (.t 6))⟩,
     ⟨(some 3), none, .e (.mov (.t 7))⟩] [2, 3])
   (.ret [2, 3])))
theorem p78 : sight Tryz.prog 78 c78 = some (8, [.t 2, .t 3], c78) := by kernel_rfl
/-- ballast/node.Take[[]ballast/taint.Taint] -/
def c79 : AC :=
 (.seq
  (.reg [⟨(some 4), none, .e (.mov (.c .nils))⟩] [0, 1])
  (.seq
   (.reg [⟨(some 5), none, .e (.mov (.t 1))⟩,
     ⟨(some 6), none, .callP 74 [(.t 5)]⟩] [0])
   (.seq
    (.reg [⟨(some 7), none, .e (.mov (.t 0))⟩,
      ⟨(some 4), none, .e (.mov (.t 7))⟩] [4])
    (.ret [4]))))
theorem p79 : sight Tryz.prog 79 c79 = some (8, [.t 4], c79) := by kernel_rfl
/-- ballast/taint.Parse -/
def c80 : AC :=
 (.seq
  (.reg [⟨(some 2), none, .e (.mov (.c .nils))⟩,
    ⟨(some 3), none, .e (.mov (.c (.int .i64 0)))⟩] [0])
  (.seq
   (.reg [⟨(some 4), none, .e (.mov (.t 0))⟩,
     ⟨(some 5), none, .callV 126 [(.t 4), (.c (.fn 127 [])), (.c (.fn 87 []))]⟩,
     ⟨(some 6), none, .e (.ext (.t 5) 0)⟩,
     ⟨(some 7), none, .e (.ext (.t 5) 1)⟩,
     ⟨(some 2), none, .e (.mov (.t 6))⟩,
     ⟨(some 3), none, .e (.mov (.t 7))⟩] [2, 3])
   (.ret [2, 3])))
theorem p80 : sight Tryz.prog 80 c80 = some (8, [.t 2, .t 3], c80) := by kernel_rfl
/-- ballast/taint.Text -/
def c81 : AC :=
 (.seq
  (.reg [⟨(some 2), none, .e (.mov (.c (.str [])))⟩] [0])
  (.seq
   (.reg [⟨(some 3), none, .e (.mov (.t 0))⟩,
     ⟨(some 4), none, .callV 129 [(.t 3), (.c (.fn 130 []))]⟩,
     ⟨(some 2), none, .e (.mov (.t 4))⟩] [2])
   (.ret [2])))
theorem p81 : sight Tryz.prog 81 c81 = some (5, [.t 2], c81) := by kernel_rfl
/-- ballast/node.First -/
def c83 : AC :=
 (.seq
  (.reg [⟨(some 2), none, .e (.mov (.c (.int .i64 0)))⟩] [0])
  (.seq
   (.seq
    (.reg [⟨(some 5), none, .e (.mov (.t 0))⟩,
      ⟨(some 6), none, .e (.lenL (.t 5))⟩,
      ⟨(some 7), none, .e (.mov (.c (.int .i64 0)))⟩] [5, 6, 7])
    (.block 0
     (.loop [5, 6, 7]
      (.seq
       (.reg [⟨(some 8), none, .e (.bin .lss (.t 7) (.t 6))⟩] [5, 6, 7, 8])
       (.seq
        (.cond (.t 8) [5, 6, 7]
         .skip
         []
         (.exit 0 []))
        (.seq
         (.block 1
          (.seq
           (.reg [⟨(some 9), none, .e (.iad 1 (.t 5) (.t 7))⟩,
             ⟨(some 10), none, .e (.load false 1 (.t 9))⟩,
             ⟨(some 4), none, .e (.mov (.t 10))⟩] [4, 5, 6, 7])
           (.seq
            (.reg [⟨(some 11), none, .e (.mov (.t 4))⟩,
              ⟨(some 12), none, .e (.bin .neq (.t 11) (.c (.int .i64 0)))⟩] [4, 5, 6, 7, 12])
            (.cond (.t 12) [4]
             (.seq
              (.reg [⟨(some 13), none, .e (.mov (.t 4))⟩,
                ⟨(some 2), none, .e (.mov (.t 13))⟩] [2])
              (.ret [2]))
             [5, 6, 7]
             .skip))))
         (.reg [⟨(some 14), none, .e (.bin .add (.t 7) (.c (.int .i64 1)))⟩,
           ⟨(some 7), none, .e (.mov (.t 14))⟩] [5, 6, 7])))))))
   (.seq
    (.reg [⟨(some 2), none, .e (.mov (.c (.int .i64 0)))⟩] [2])
    (.ret [2]))))
theorem p83 : sight Tryz.prog 83 c83 = some (15, [.t 2], c83) := by kernel_rfl
/-- ballast/node.Named -/
def c84 : AC :=
 (.seq
  (.reg [⟨(some 2), none, .e (.mov (.c (.int .i64 0)))⟩] [0])
  (.seq
   (.seq
    (.reg [⟨(some 3), none, .e (.mov (.t 0))⟩,
      ⟨(some 4), none, .callV 131 [(.t 3)]⟩,
      ⟨(some 5), none, .e (.un .not (.t 4))⟩] [5])
    (.cond (.t 5) []
     (.seq
      (.reg [⟨(some 2), none, .e (.mov (.c (.int .i64 3)))⟩] [2])
      (.ret [2]))
     []
     .skip))
   (.seq
    (.reg [⟨(some 2), none, .e (.mov (.c (.int .i64 0)))⟩] [2])
    (.ret [2]))))
theorem p84 : sight Tryz.prog 84 c84 = some (6, [.t 2], c84) := by kernel_rfl
/-- ballast/res.Check -/
def c85 : AC :=
 (.seq
  (.reg [⟨(some 2), none, .e (.mov (.c (.int .i64 0)))⟩] [0])
  (.seq
   (.seq
    (.reg [⟨(some 5), none, .e (.mov (.t 0))⟩,
      ⟨(some 6), none, .e (.lenL (.t 5))⟩,
      ⟨(some 7), none, .e (.bin .gtr (.t 6) (.c (.int .i64 8)))⟩] [0, 7])
    (.cond (.t 7) []
     (.seq
      (.reg [⟨(some 2), none, .e (.mov (.c (.int .i64 4)))⟩] [2])
      (.ret [2]))
     [0]
     .skip))
   (.seq
    (.seq
     (.reg [⟨(some 8), none, .e (.mov (.t 0))⟩,
       ⟨(some 9), none, .e (.lenL (.t 8))⟩,
       ⟨(some 10), none, .e (.mov (.c (.int .i64 0)))⟩] [0, 8, 9, 10])
     (.block 0
      (.loop [0, 8, 9, 10]
       (.seq
        (.reg [⟨(some 11), none, .e (.bin .lss (.t 10) (.t 9))⟩] [0, 8, 9, 10, 11])
        (.seq
         (.cond (.t 11) [0, 8, 9, 10]
          .skip
          []
          (.exit 0 []))
         (.seq
          (.block 1
           (.seq
            (.reg [⟨(some 12), none, .e (.mov (.t 10))⟩,
              ⟨(some 13), none, .e (.iad 2 (.t 8) (.t 10))⟩,
              ⟨(some 14), none, .e (.load true 2 (.t 13))⟩,
              ⟨(some 4), none, .alloc 2 51 (.agg [(.str []), (.int .i64 0)])⟩,
              ⟨(some 3), none, .e (.mov (.t 12))⟩,
              ⟨none, none, .store 2 (.t 4) (.t 14)⟩] [0, 3, 4, 8, 9, 10])
            (.block 2
             (.seq
              (.reg [⟨(some 16), none, .e (.fad 0 (.t 4))⟩,
                ⟨(some 17), none, .e (.load false 1 (.t 16))⟩,
                ⟨(some 18), none, .callV 131 [(.t 17)]⟩,
                ⟨(some 19), none, .e (.un .not (.t 18))⟩,
                ⟨(some 15), none, .e (.mov (.t 19))⟩] [0, 3, 4, 8, 9, 10, 15])
              (.cond (.t 15) []
               (.seq
                (.reg [⟨(some 2), none, .e (.mov (.c (.int .i64 3)))⟩] [2])
                (.ret [2]))
               [0, 3, 4, 8, 9, 10]
               (.seq
                (.reg [⟨(some 21), none, .e (.fad 1 (.t 4))⟩,
                  ⟨(some 22), none, .e (.load false 1 (.t 21))⟩,
                  ⟨(some 23), none, .e (.bin .leq (.t 22) (.c (.int .i64 0)))⟩,
                  ⟨(some 20), none, .e (.mov (.t 23))⟩] [0, 3, 4, 8, 9, 10, 20])
                (.cond (.t 20) []
                 (.seq
                  (.reg [⟨(some 2), none, .e (.mov (.c (.int .i64 1)))⟩] [2])
                  (.ret [2]))
                 [0, 3, 4, 8, 9, 10]
                 (.seq
                  (.reg [⟨(some 25), none, .e (.mov (.t 3))⟩,
                    ⟨(some 26), none, .e (.bin .gtr (.t 25) (.c (.int .i64 0)))⟩,
                    ⟨(some 27), none, .e (.mov (.t 26))⟩,
                    ⟨(some 28), (some (27, true)), .e (.fad 0 (.t 4))⟩,
                    ⟨(some 29), (some (27, true)), .e (.load false 1 (.t 28))⟩,
                    ⟨(some 30), (some (27, true)), .e (.mov (.t 0))⟩,
                    ⟨(some 31), (some (27, true)), .e (.mov (.t 3))⟩,
                    ⟨(some 32), (some (27, true)), .e (.bin .sub (.t 31) (.c (.int .i64 1)))⟩,
                    ⟨(some 33), (some (27, true)), .e (.iad 2 (.t 30) (.t 32))⟩,
                    ⟨(some 34), (some (27, true)), .e (.fad 0 (.t 33))⟩,
                    ⟨(some 35), (some (27, true)), .e (.load false 1 (.t 34))⟩,
                    ⟨(some 36), (some (27, true)), .e (.bin .leq (.t 29) (.t 35))⟩,
                    ⟨(some 37), none, .e (.pick (.t 27) (.t 36) (.c (.bool false)))⟩,
                    ⟨(some 24), none, .e (.mov (.t 37))⟩] [0, 8, 9, 10, 24])
                  (.cond (.t 24) []
                   (.seq
                    (.reg [⟨(some 2), none, .e (.mov (.c (.int .i64 13)))⟩] [2])
                    (.ret [2]))
                   [0, 8, 9, 10]
                   .skip)))))))))
          (.reg [⟨(some 38), none, .e (.bin .add (.t 10) (.c (.int .i64 1)))⟩,
            ⟨(some 10), none, .e (.mov (.t 38))⟩] [0, 8, 9, 10])))))))
    (.seq
     (.reg [⟨(some 2), none, .e (.mov (.c (.int .i64 0)))⟩] [2])
     (.ret [2])))))
theorem p85 : sight Tryz.prog 85 c85 = some (39, [.t 2], c85) := by kernel_rfl
/-- ballast/label.Check -/
def c86 : AC :=
 (.seq
  (.reg [⟨(some 2), none, .e (.mov (.c (.int .i64 0)))⟩] [0])
  (.seq
   (.seq
    (.reg [⟨(some 5), none, .e (.mov (.t 0))⟩,
      ⟨(some 6), none, .e (.lenL (.t 5))⟩,
      ⟨(some 7), none, .e (.bin .gtr (.t 6) (.c (.int .i64 8)))⟩] [0, 7])
    (.cond (.t 7) []
     (.seq
      (.reg [⟨(some 2), none, .e (.mov (.c (.int .i64 4)))⟩] [2])
      (.ret [2]))
     [0]
     .skip))
   (.seq
    (.seq
     (.reg [⟨(some 8), none, .e (.mov (.t 0))⟩,
       ⟨(some 9), none, .e (.lenL (.t 8))⟩,
       ⟨(some 10), none, .e (.mov (.c (.int .i64 0)))⟩] [0, 8, 9, 10])
     (.block 0
      (.loop [0, 8, 9, 10]
       (.seq
        (.reg [⟨(some 11), none, .e (.bin .lss (.t 10) (.t 9))⟩] [0, 8, 9, 10, 11])
        (.seq
         (.cond (.t 11) [0, 8, 9, 10]
          .skip
          []
          (.exit 0 []))
         (.seq
          (.block 1
           (.seq
            (.reg [⟨(some 12), none, .e (.mov (.t 10))⟩,
              ⟨(some 13), none, .e (.iad 2 (.t 8) (.t 10))⟩,
              ⟨(some 14), none, .e (.load true 2 (.t 13))⟩,
              ⟨(some 4), none, .alloc 2 121 (.agg [(.str []), (.str [])])⟩,
              ⟨(some 3), none, .e (.mov (.t 12))⟩,
              ⟨none, none, .store 2 (.t 4) (.t 14)⟩] [0, 3, 4, 8, 9, 10])
            (.block 2
             (.seq
              (.reg [⟨(some 16), none, .e (.fad 0 (.t 4))⟩,
                ⟨(some 17), none, .e (.load false 1 (.t 16))⟩,
                ⟨(some 18), none, .callV 131 [(.t 17)]⟩,
                ⟨(some 19), none, .e (.un .not (.t 18))⟩,
                ⟨(some 20), none, .e (.mov (.t 19))⟩,
                ⟨(some 21), (some (20, false)), .e (.fad 1 (.t 4))⟩,
                ⟨(some 22), (some (20, false)), .e (.load false 1 (.t 21))⟩,
                ⟨(some 23), (some (20, false)), .callV 131 [(.t 22)]⟩,
                ⟨(some 24), (some (20, false)), .e (.un .not (.t 23))⟩,
                ⟨(some 25), none, .e (.pick (.t 20) (.c (.bool true)) (.t 24))⟩,
                ⟨(some 15), none, .e (.mov (.t 25))⟩] [0, 3, 4, 8, 9, 10, 15])
              (.cond (.t 15) []
               (.seq
                (.reg [⟨(some 2), none, .e (.mov (.c (.int .i64 3)))⟩] [2])
                (.ret [2]))
               [0, 3, 4, 8, 9, 10]
               (.seq
                (.reg [⟨(some 27), none, .e (.mov (.t 3))⟩,
                  ⟨(some 28), none, .e (.bin .gtr (.t 27) (.c (.int .i64 0)))⟩,
                  ⟨(some 29), none, .e (.mov (.t 28))⟩,
                  ⟨(some 30), (some (29, true)), .e (.fad 0 (.t 4))⟩,
                  ⟨(some 31), (some (29, true)), .e (.load false 1 (.t 30))⟩,
                  ⟨(some 32), (some (29, true)), .e (.mov (.t 0))⟩,
                  ⟨(some 33), (some (29, true)), .e (.mov (.t 3))⟩,
                  ⟨(some 34), (some (29, true)), .e (.bin .sub (.t 33) (.c (.int .i64 1)))⟩,
                  ⟨(some 35), (some (29, true)), .e (.iad 2 (.t 32) (.t 34))⟩,
                  ⟨(some 36), (some (29, true)), .e (.fad 0 (.t 35))⟩,
                  ⟨(some 37), (some (29, true)), .e (.load false 1 (.t 36))⟩,
                  ⟨(some 38), (some (29, true)), .e (.bin .leq (.t 31) (.t 37))⟩,
                  ⟨(some 39), none, .e (.pick (.t 29) (.t 38) (.c (.bool false)))⟩,
                  ⟨(some 26), none, .e (.mov (.t 39))⟩] [0, 8, 9, 10, 26])
                (.cond (.t 26) []
                 (.seq
                  (.reg [⟨(some 2), none, .e (.mov (.c (.int .i64 13)))⟩] [2])
                  (.ret [2]))
                 [0, 8, 9, 10]
                 .skip)))))))
          (.reg [⟨(some 40), none, .e (.bin .add (.t 10) (.c (.int .i64 1)))⟩,
            ⟨(some 10), none, .e (.mov (.t 40))⟩] [0, 8, 9, 10])))))))
    (.seq
     (.reg [⟨(some 2), none, .e (.mov (.c (.int .i64 0)))⟩] [2])
     (.ret [2])))))
theorem p86 : sight Tryz.prog 86 c86 = some (41, [.t 2], c86) := by kernel_rfl
/-- ballast/taint.Check -/
def c87 : AC :=
 (.seq
  (.reg [⟨(some 2), none, .e (.mov (.c (.int .i64 0)))⟩] [0])
  (.seq
   (.seq
    (.reg [⟨(some 5), none, .e (.mov (.t 0))⟩,
      ⟨(some 6), none, .e (.lenL (.t 5))⟩,
      ⟨(some 7), none, .e (.bin .gtr (.t 6) (.c (.int .i64 8)))⟩] [0, 7])
    (.cond (.t 7) []
     (.seq
      (.reg [⟨(some 2), none, .e (.mov (.c (.int .i64 4)))⟩] [2])
      (.ret [2]))
     [0]
     .skip))
   (.seq
    (.seq
     (.reg [⟨(some 8), none, .e (.mov (.t 0))⟩,
       ⟨(some 9), none, .e (.lenL (.t 8))⟩,
       ⟨(some 10), none, .e (.mov (.c (.int .i64 0)))⟩] [0, 8, 9, 10])
     (.block 0
      (.loop [0, 8, 9, 10]
       (.seq
        (.reg [⟨(some 11), none, .e (.bin .lss (.t 10) (.t 9))⟩] [0, 8, 9, 10, 11])
        (.seq
         (.cond (.t 11) [0, 8, 9, 10]
          .skip
          []
          (.exit 0 []))
         (.seq
          (.block 1
           (.seq
            (.reg [⟨(some 12), none, .e (.mov (.t 10))⟩,
              ⟨(some 13), none, .e (.iad 3 (.t 8) (.t 10))⟩,
              ⟨(some 14), none, .e (.load true 3 (.t 13))⟩,
              ⟨(some 4), none, .alloc 3 143 (.agg [(.str []), (.str []), (.bool false)])⟩,
              ⟨(some 3), none, .e (.mov (.t 12))⟩,
              ⟨none, none, .store 3 (.t 4) (.t 14)⟩] [0, 3, 4, 8, 9, 10])
            (.block 2
             (.seq
              (.reg [⟨(some 16), none, .e (.fad 0 (.t 4))⟩,
                ⟨(some 17), none, .e (.load false 1 (.t 16))⟩,
                ⟨(some 18), none, .callV 131 [(.t 17)]⟩,
                ⟨(some 19), none, .e (.un .not (.t 18))⟩,
                ⟨(some 20), none, .e (.mov (.t 19))⟩,
                ⟨(some 21), (some (20, false)), .e (.fad 1 (.t 4))⟩,
                ⟨(some 22), (some (20, false)), .e (.load false 1 (.t 21))⟩,
                ⟨(some 23), (some (20, false)), .callV 131 [(.t 22)]⟩,
                ⟨(some 24), (some (20, false)), .e (.un .not (.t 23))⟩,
                ⟨(some 25), none, .e (.pick (.t 20) (.c (.bool true)) (.t 24))⟩,
                ⟨(some 15), none, .e (.mov (.t 25))⟩] [0, 3, 4, 8, 9, 10, 15])
              (.cond (.t 15) []
               (.seq
                (.reg [⟨(some 2), none, .e (.mov (.c (.int .i64 3)))⟩] [2])
                (.ret [2]))
               [0, 3, 4, 8, 9, 10]
               (.seq
                (.reg [⟨(some 27), none, .e (.mov (.t 0))⟩,
                  ⟨(some 28), none, .e (.mov (.t 3))⟩,
                  ⟨(some 29), none, .e (.slL 3 (.t 27) none (some (.t 28)))⟩,
                  ⟨(some 30), none, .e (.mkf 133 [(.t 4)])⟩,
                  ⟨(some 31), none, .callO 132 [(.t 29), (.t 30)]⟩,
                  ⟨(some 26), none, .e (.mov (.t 31))⟩] [0, 8, 9, 10, 26])
                (.cond (.t 26) []
                 (.seq
                  (.reg [⟨(some 2), none, .e (.mov (.c (.int .i64 6)))⟩] [2])
                  (.ret [2]))
                 [0, 8, 9, 10]
                 .skip)))))))
          (.reg [⟨(some 32), none, .e (.bin .add (.t 10) (.c (.int .i64 1)))⟩,
            ⟨(some 10), none, .e (.mov (.t 32))⟩] [0, 8, 9, 10])))))))
    (.seq
     (.reg [⟨(some 2), none, .e (.mov (.c (.int .i64 0)))⟩] [2])
     (.ret [2])))))
theorem p87 : sight Tryz.prog 87 c87 = some (33, [.t 2], c87) := by kernel_rfl
/-- ballast/pod.Parse$1 -/
def c89 : AC :=
 (.seq
  (.reg [⟨(some 6), none, .e (.load false 1 (.t 0))⟩,
    ⟨(some 7), none, .callV 73 [(.t 6), (.c (.str [32]))]⟩,
    ⟨(some 2), none, .e (.mov (.t 7))⟩] [1, 2])
  (.seq
   (.seq
    (.reg [⟨(some 8), none, .e (.mov (.t 2))⟩,
      ⟨(some 9), none, .e (.lenL (.t 8))⟩,
      ⟨(some 10), none, .e (.bin .neq (.t 9) (.c (.int .i64 10)))⟩,
      ⟨(some 11), none, .e (.mov (.t 10))⟩,
      ⟨(some 12), (some (11, false)), .e (.mov (.t 2))⟩,
      ⟨(some 13), (some (11, false)), .e (.iad 1 (.t 12) (.c (.int .i64 9)))⟩,
      ⟨(some 14), (some (11, false)), .e (.load false 1 (.t 13))⟩,
      ⟨(some 15), (some (11, false)), .e (.bin .neq (.t 14) (.c (.str [114, 101, 97, 108])))⟩,
      ⟨(some 16), (some (11, false)), .e (.mov (.t 15))⟩,
      ⟨(some 17), (some (16, true)), .e (.mov (.t 2))⟩,
      ⟨(some 18), (some (16, true)), .e (.iad 1 (.t 17) (.c (.int .i64 9)))⟩,
      ⟨(some 19), (some (16, true)), .e (.load false 1 (.t 18))⟩,
      ⟨(some 20), (some (16, true)), .e (.bin .neq (.t 19) (.c (.str [104, 111, 108, 100])))⟩,
      ⟨(some 21), (some (11, false)), .e (.pick (.t 16) (.t 20) (.c (.bool false)))⟩,
      ⟨(some 22), none, .e (.pick (.t 11) (.c (.bool true)) (.t 21))⟩] [1, 2, 22])
    (.cond (.t 22) [1, 2]
     (.reg [⟨(some 23), none, .callP 74 [(.c (.int .i64 2))]⟩] [1, 2])
     [1, 2]
     .skip))
   (.seq
    (.reg [⟨(some 24), none, .e (.mov (.t 2))⟩,
      ⟨(some 25), none, .e (.iad 1 (.t 24) (.c (.int .i64 0)))⟩,
      ⟨(some 26), none, .e (.load false 1 (.t 25))⟩,
      ⟨(some 27), none, .e (.mov (.t 2))⟩,
      ⟨(some 28), none, .e (.iad 1 (.t 27) (.c (.int .i64 1)))⟩,
      ⟨(some 29), none, .e (.load false 1 (.t 28))⟩,
      ⟨(some 30), none, .callV 90 [(.t 29)]⟩,
      ⟨(some 31), none, .e (.mov (.t 2))⟩,
      ⟨(some 32), none, .e (.iad 1 (.t 31) (.c (.int .i64 8)))⟩,
      ⟨(some 33), none, .e (.load false 1 (.t 32))⟩,
      ⟨(some 34), none, .callV 90 [(.t 33)]⟩,
      ⟨(some 35), none, .e (.mov (.t 2))⟩,
      ⟨(some 36), none, .e (.iad 1 (.t 35) (.c (.int .i64 9)))⟩,
      ⟨(some 37), none, .e (.load false 1 (.t 36))⟩,
      ⟨(some 38), none, .e (.bin .eql (.t 37) (.c (.str [104, 111, 108, 100])))⟩,
      ⟨(some 39), none, .e (.bld [(.str []), (.str []), (.int .i64 0), .nils, .nils, .nils, .nils, (.str []), (.int .i64 0), (.str []), (.bool false)] [(0, 1, (.t 26)), (1, 1, (.t 30)), (2, 1, (.c (.int .i64 (-1)))), (9, 1, (.t 34)), (10, 1, (.t 38))])⟩,
      ⟨none, none, .store 11 (.t 1) (.t 39)⟩] [1, 2])
    (.seq
     (.seq
      (.reg [⟨(some 40), none, .e (.mov (.t 2))⟩,
        ⟨(some 41), none, .e (.iad 1 (.t 40) (.c (.int .i64 2)))⟩,
        ⟨(some 42), none, .e (.load false 1 (.t 41))⟩,
        ⟨(some 43), none, .e (.bin .neq (.t 42) (.c (.str [45, 49])))⟩] [1, 2, 43])
      (.cond (.t 43) [1, 2]
       (.reg [⟨(some 44), none, .e (.mov (.t 2))⟩,
         ⟨(some 45), none, .e (.iad 1 (.t 44) (.c (.int .i64 2)))⟩,
         ⟨(some 46), none, .e (.load false 1 (.t 45))⟩,
         ⟨(some 47), none, .callP 91 [(.t 46)]⟩,
         ⟨(some 48), none, .e (.fad 2 (.t 1))⟩,
         ⟨none, none, .store 1 (.t 48) (.t 47)⟩] [1, 2])
       [1, 2]
       .skip))
     (.seq
      (.seq
       (.reg [⟨(some 49), none, .e (.mov (.t 2))⟩,
         ⟨(some 50), none, .e (.iad 1 (.t 49) (.c (.int .i64 7)))⟩,
         ⟨(some 51), none, .e (.load false 1 (.t 50))⟩,
         ⟨(some 52), none, .e (.bin .neq (.t 51) (.c (.str [45])))⟩] [1, 2, 52])
       (.cond (.t 52) [1, 2]
        (.seq
         (.reg [⟨(some 54), none, .e (.mov (.t 2))⟩,
           ⟨(some 55), none, .e (.iad 1 (.t 54) (.c (.int .i64 7)))⟩,
           ⟨(some 56), none, .e (.load false 1 (.t 55))⟩,
           ⟨(some 57), none, .callV 92 [(.t 56), (.c (.str [47]))]⟩,
           ⟨(some 53), none, .e (.mov (.t 57))⟩,
           ⟨(some 58), none, .e (.ext (.t 53) 0)⟩,
           ⟨(some 59), none, .e (.ext (.t 53) 1)⟩,
           ⟨(some 60), none, .e (.ext (.t 53) 2)⟩,
           ⟨(some 3), none, .e (.mov (.t 58))⟩,
           ⟨(some 4), none, .e (.mov (.t 59))⟩,
           ⟨(some 5), none, .e (.mov (.t 60))⟩] [1, 2, 3, 4, 5])
         (.seq
          (.seq
           (.reg [⟨(some 61), none, .e (.mov (.t 5))⟩,
             ⟨(some 62), none, .e (.un .not (.t 61))⟩,
             ⟨(some 63), none, .e (.mov (.t 62))⟩,
             ⟨(some 64), (some (63, false)), .e (.mov (.t 3))⟩,
             ⟨(some 65), (some (63, false)), .e (.bin .eql (.t 64) (.c (.str [])))⟩,
             ⟨(some 66), none, .e (.pick (.t 63) (.c (.bool true)) (.t 65))⟩] [1, 2, 3, 4, 66])
           (.cond (.t 66) [1, 2, 3, 4]
            (.reg [⟨(some 67), none, .callP 74 [(.c (.int .i64 2))]⟩] [1, 2, 3, 4])
            [1, 2, 3, 4]
            .skip))
          (.reg [⟨(some 68), none, .e (.mov (.t 3))⟩,
            ⟨(some 69), none, .e (.mov (.t 4))⟩,
            ⟨(some 70), none, .callP 91 [(.t 69)]⟩,
            ⟨(some 71), none, .e (.fad 7 (.t 1))⟩,
            ⟨none, none, .store 1 (.t 71) (.t 68)⟩,
            ⟨(some 72), none, .e (.fad 8 (.t 1))⟩,
            ⟨none, none, .store 1 (.t 72) (.t 70)⟩] [1, 2])))
        [1, 2]
        .skip))
      (.seq
       (.regp [0, 1, 2, 3, 4, 5, 7, 8, 9, 6, 10, 11, 12, 13, 14, 15, 16, 17] [⟨(some 73), none, .e (.mov (.t 2))⟩,
         ⟨(some 74), none, .e (.iad 1 (.t 73) (.c (.int .i64 3)))⟩,
         ⟨(some 75), none, .e (.load false 1 (.t 74))⟩,
         ⟨(some 76), none, .callV 76 [(.t 75)]⟩,
         ⟨(some 77), none, .e (.ext (.t 76) 0)⟩,
         ⟨(some 78), none, .e (.ext (.t 76) 1)⟩,
         ⟨(some 80), none, .e (.mov (.t 2))⟩,
         ⟨(some 81), none, .e (.iad 1 (.t 80) (.c (.int .i64 4)))⟩,
         ⟨(some 82), none, .e (.load false 1 (.t 81))⟩,
         ⟨(some 79), none, .callP 75 [(.t 77), (.t 78)]⟩,
         ⟨(some 83), none, .callV 78 [(.t 82)]⟩,
         ⟨(some 84), none, .e (.ext (.t 83) 0)⟩,
         ⟨(some 85), none, .e (.ext (.t 83) 1)⟩,
         ⟨(some 86), none, .callP 77 [(.t 84), (.t 85)]⟩,
         ⟨(some 87), none, .e (.fad 3 (.t 1))⟩,
         ⟨none, none, .store 1 (.t 87) (.t 79)⟩,
         ⟨(some 88), none, .e (.fad 4 (.t 1))⟩,
         ⟨none, none, .store 1 (.t 88) (.t 86)⟩] [1, 2])
       (.seq
        (.regp [0, 1, 2, 3, 4, 5, 7, 8, 9, 6, 10, 11, 12, 13, 14, 15, 16, 17] [⟨(some 89), none, .e (.mov (.t 2))⟩,
          ⟨(some 90), none, .e (.iad 1 (.t 89) (.c (.int .i64 5)))⟩,
          ⟨(some 91), none, .e (.load false 1 (.t 90))⟩,
          ⟨(some 92), none, .callV 94 [(.t 91)]⟩,
          ⟨(some 93), none, .e (.ext (.t 92) 0)⟩,
          ⟨(some 94), none, .e (.ext (.t 92) 1)⟩,
          ⟨(some 96), none, .e (.mov (.t 2))⟩,
          ⟨(some 97), none, .e (.iad 1 (.t 96) (.c (.int .i64 6)))⟩,
          ⟨(some 98), none, .e (.load false 1 (.t 97))⟩,
          ⟨(some 95), none, .callP 93 [(.t 93), (.t 94)]⟩,
          ⟨(some 99), none, .callV 96 [(.t 98)]⟩,
          ⟨(some 100), none, .e (.ext (.t 99) 0)⟩,
          ⟨(some 101), none, .e (.ext (.t 99) 1)⟩,
          ⟨(some 102), none, .callP 95 [(.t 100), (.t 101)]⟩,
          ⟨(some 103), none, .e (.fad 5 (.t 1))⟩,
          ⟨none, none, .store 1 (.t 103) (.t 95)⟩,
          ⟨(some 104), none, .e (.fad 6 (.t 1))⟩,
          ⟨none, none, .store 1 (.t 104) (.t 102)⟩] [1])
        (.reg [⟨(some 105), none, .e (.load true 11 (.t 1))⟩,
          ⟨(some 106), none, .callV 46 [(.t 105)]⟩,
          ⟨(some 107), none, .callP 74 [(.t 106)]⟩] []))))))))
theorem p89 : sight Tryz.prog 89 c89 = some (108, [], c89) := by kernel_rfl
/-- ballast/pod.undash -/
def c90 : AC :=
 (.seq
  (.reg [⟨(some 2), none, .e (.mov (.c (.str [])))⟩] [0])
  (.seq
   (.seq
    (.reg [⟨(some 3), none, .e (.mov (.t 0))⟩,
      ⟨(some 4), none, .e (.bin .eql (.t 3) (.c (.str [45])))⟩] [0, 4])
    (.cond (.t 4) []
     (.seq
      (.reg [⟨(some 2), none, .e (.mov (.c (.str [])))⟩] [2])
      (.ret [2]))
     [0]
     .skip))
   (.seq
    (.reg [⟨(some 5), none, .e (.mov (.t 0))⟩,
      ⟨(some 2), none, .e (.mov (.t 5))⟩] [2])
    (.ret [2]))))
theorem p90 : sight Tryz.prog 90 c90 = some (6, [.t 2], c90) := by kernel_rfl
/-- ballast/pod.Number -/
def c91 : AC :=
 (.seq
  (.reg [⟨(some 2), none, .e (.mov (.c (.int .i64 0)))⟩] [0])
  (.seq
   (.reg [⟨(some 6), none, .e (.mov (.t 0))⟩,
     ⟨(some 7), none, .callV 121 [(.t 6)]⟩,
     ⟨(some 5), none, .e (.mov (.t 7))⟩,
     ⟨(some 8), none, .e (.ext (.t 5) 0)⟩,
     ⟨(some 9), none, .e (.ext (.t 5) 1)⟩,
     ⟨(some 3), none, .e (.mov (.t 8))⟩,
     ⟨(some 4), none, .e (.mov (.t 9))⟩] [3, 4])
   (.seq
    (.seq
     (.reg [⟨(some 10), none, .e (.mov (.t 4))⟩,
       ⟨(some 11), none, .e (.bin .neq (.t 10) (.c (.int .i64 0)))⟩,
       ⟨(some 12), none, .e (.mov (.t 11))⟩,
       ⟨(some 13), (some (12, false)), .e (.mov (.t 3))⟩,
       ⟨(some 14), (some (12, false)), .e (.bin .gtr (.t 13) (.c (.int .i64 2147483647)))⟩,
       ⟨(some 15), none, .e (.pick (.t 12) (.c (.bool true)) (.t 14))⟩] [3, 15])
     (.cond (.t 15) [3]
      (.reg [⟨(some 16), none, .callP 74 [(.c (.int .i64 2))]⟩] [3])
      [3]
      .skip))
    (.seq
     (.reg [⟨(some 17), none, .e (.mov (.t 3))⟩,
       ⟨(some 2), none, .e (.mov (.t 17))⟩] [2])
     (.ret [2])))))
theorem p91 : sight Tryz.prog 91 c91 = some (18, [.t 2], c91) := by kernel_rfl
/-- ballast/node.Take[ballast/label.Sel] -/
def c93 : AC :=
 (.seq
  (.reg [⟨(some 4), none, .e (.mov (.c .nils))⟩] [0, 1])
  (.seq
   (.reg [⟨(some 5), none, .e (.mov (.t 1))⟩,
     ⟨(some 6), none, .callP 74 [(.t 5)]⟩] [0])
   (.seq
    (.reg [⟨(some 7), none, .e (.mov (.t 0))⟩,
      ⟨(some 4), none, .e (.mov (.t 7))⟩] [4])
    (.ret [4]))))
theorem p93 : sight Tryz.prog 93 c93 = some (8, [.t 4], c93) := by kernel_rfl
/-- ballast/label.ParseSel -/
def c94 : AC :=
 (.seq
  (.reg [⟨(some 2), none, .e (.mov (.c .nils))⟩,
    ⟨(some 3), none, .e (.mov (.c (.int .i64 0)))⟩] [0])
  (.seq
   (.reg [⟨(some 4), none, .e (.mov (.t 0))⟩,
     ⟨(some 5), none, .callV 135 [(.t 4), (.c (.fn 136 [])), (.c (.fn 139 []))]⟩,
     ⟨(some 6), none, .e (.ext (.t 5) 0)⟩,
     ⟨(some 7), none, .e (.ext (.t 5) 1)⟩,
     ⟨(some 2), none, .e (.mov (.t 6))⟩,
     ⟨(some 3), none, .e (.mov (.t 7))⟩] [2, 3])
   (.ret [2, 3])))
theorem p94 : sight Tryz.prog 94 c94 = some (8, [.t 2, .t 3], c94) := by kernel_rfl
/-- ballast/node.Take[[]ballast/taint.Tol] -/
def c95 : AC :=
 (.seq
  (.reg [⟨(some 4), none, .e (.mov (.c .nils))⟩] [0, 1])
  (.seq
   (.reg [⟨(some 5), none, .e (.mov (.t 1))⟩,
     ⟨(some 6), none, .callP 74 [(.t 5)]⟩] [0])
   (.seq
    (.reg [⟨(some 7), none, .e (.mov (.t 0))⟩,
      ⟨(some 4), none, .e (.mov (.t 7))⟩] [4])
    (.ret [4]))))
theorem p95 : sight Tryz.prog 95 c95 = some (8, [.t 4], c95) := by kernel_rfl
/-- ballast/taint.ParseTols -/
def c96 : AC :=
 (.seq
  (.reg [⟨(some 2), none, .e (.mov (.c .nils))⟩,
    ⟨(some 3), none, .e (.mov (.c (.int .i64 0)))⟩] [0])
  (.seq
   (.reg [⟨(some 4), none, .e (.mov (.t 0))⟩,
     ⟨(some 5), none, .callV 140 [(.t 4), (.c (.fn 141 [])), (.c (.fn 103 []))]⟩,
     ⟨(some 6), none, .e (.ext (.t 5) 0)⟩,
     ⟨(some 7), none, .e (.ext (.t 5) 1)⟩,
     ⟨(some 2), none, .e (.mov (.t 6))⟩,
     ⟨(some 3), none, .e (.mov (.t 7))⟩] [2, 3])
   (.ret [2, 3])))
theorem p96 : sight Tryz.prog 96 c96 = some (8, [.t 2, .t 3], c96) := by kernel_rfl
/-- ballast/pod.maybe -/
def c100 : AC :=
 (.seq
  (.reg [⟨(some 2), none, .e (.mov (.c (.int .i64 0)))⟩] [0])
  (.seq
   (.seq
    (.reg [⟨(some 3), none, .e (.mov (.t 0))⟩,
      ⟨(some 4), none, .e (.bin .eql (.t 3) (.c (.str [])))⟩] [0, 4])
    (.cond (.t 4) []
     (.seq
      (.reg [⟨(some 2), none, .e (.mov (.c (.int .i64 0)))⟩] [2])
      (.ret [2]))
     [0]
     .skip))
   (.seq
    (.reg [⟨(some 5), none, .e (.mov (.t 0))⟩,
      ⟨(some 6), none, .callV 84 [(.t 5)]⟩,
      ⟨(some 2), none, .e (.mov (.t 6))⟩] [2])
    (.ret [2]))))
theorem p100 : sight Tryz.prog 100 c100 = some (7, [.t 2], c100) := by kernel_rfl
/-- ballast/pod.prio -/
def c101 : AC :=
 (.seq
  (.reg [⟨(some 1), none, .box 11 59 (.t 0)⟩,
    ⟨(some 2), none, .e (.mov (.c (.int .i64 0)))⟩] [1])
  (.seq
   (.seq
    (.reg [⟨(some 3), none, .e (.fad 10 (.t 1))⟩,
      ⟨(some 4), none, .e (.load false 1 (.t 3))⟩] [1, 4])
    (.cond (.t 4) [1]
     (.seq
      (.reg [⟨(some 5), none, .e (.fad 2 (.t 1))⟩,
        ⟨(some 6), none, .e (.load false 1 (.t 5))⟩,
        ⟨(some 7), none, .callV 144 [(.t 6), (.c (.int .i64 (-1))), (.c (.int .i64 (-1)))]⟩,
        ⟨(some 2), none, .e (.mov (.t 7))⟩] [2])
      (.ret [2]))
     [1]
     .skip))
   (.seq
    (.reg [⟨(some 8), none, .e (.fad 2 (.t 1))⟩,
      ⟨(some 9), none, .e (.load false 1 (.t 8))⟩,
      ⟨(some 10), none, .callV 144 [(.t 9), (.c (.int .i64 0)), (.c (.int .i64 1000000))]⟩,
      ⟨(some 2), none, .e (.mov (.t 10))⟩] [2])
    (.ret [2]))))
theorem p101 : sight Tryz.prog 101 c101 = some (11, [.t 2], c101) := by kernel_rfl
/-- ballast/label.CheckSel -/
def c102 : AC :=
 (.seq
  (.reg [⟨(some 2), none, .e (.mov (.c (.int .i64 0)))⟩] [0])
  (.seq
   (.seq
    (.reg [⟨(some 6), none, .e (.mov (.t 0))⟩,
      ⟨(some 7), none, .e (.lenL (.t 6))⟩,
      ⟨(some 8), none, .e (.bin .gtr (.t 7) (.c (.int .i64 8)))⟩] [0, 8])
    (.cond (.t 8) []
     (.seq
      (.reg [⟨(some 2), none, .e (.mov (.c (.int .i64 4)))⟩] [2])
      (.ret [2]))
     [0]
     .skip))
   (.seq
    (.seq
     (.reg [⟨(some 9), none, .e (.mov (.t 0))⟩,
       ⟨(some 10), none, .e (.lenL (.t 9))⟩,
       ⟨(some 11), none, .e (.mov (.c (.int .i64 0)))⟩] [9, 10, 11])
     (.block 0
      (.loop [9, 10, 11]
       (.seq
        (.reg [⟨(some 12), none, .e (.bin .lss (.t 11) (.t 10))⟩] [9, 10, 11, 12])
        (.seq
         (.cond (.t 12) [9, 10, 11]
          .skip
          []
          (.exit 0 []))
         (.seq
          (.block 1
           (.seq
            (.reg [⟨(some 13), none, .e (.iad 3 (.t 9) (.t 11))⟩,
              ⟨(some 14), none, .e (.load true 3 (.t 13))⟩,
              ⟨(some 4), none, .alloc 3 124 (.agg [(.int .i64 0), (.str []), (.str [])])⟩,
              ⟨none, none, .store 3 (.t 4) (.t 14)⟩] [4, 9, 10, 11])
            (.seq
             (.reg [⟨(some 15), none, .e (.fad 2 (.t 4))⟩,
               ⟨(some 16), none, .e (.load false 1 (.t 15))⟩,
               ⟨(some 17), none, .e (.bin .eql (.t 16) (.c (.str [])))⟩,
               ⟨(some 5), none, .e (.mov (.t 17))⟩] [4, 5, 9, 10, 11])
             (.seq
              (.seq
               (.reg [⟨(some 18), none, .e (.fad 0 (.t 4))⟩,
                 ⟨(some 19), none, .e (.load false 1 (.t 18))⟩] [4, 5, 9, 10, 11, 19])
               (.block 2
                (.seq
                 (.seq
                  (.reg [⟨(some 21), none, .e (.bin .eql (.t 19) (.c (.int .i64 1)))⟩,
                    ⟨(some 20), none, .e (.mov (.t 21))⟩] [4, 5, 9, 10, 11, 19, 20])
                  (.cond (.t 20) [4, 5, 9, 10, 11, 19, 20]
                   .skip
                   [4, 5, 9, 10, 11, 19]
                   (.reg [⟨(some 22), none, .e (.bin .eql (.t 19) (.c (.int .i64 2)))⟩,
                     ⟨(some 20), none, .e (.mov (.t 22))⟩] [4, 5, 9, 10, 11, 19, 20])))
                 (.cond (.t 20) [4, 9, 10, 11]
                  (.reg [⟨(some 23), none, .e (.fad 2 (.t 4))⟩,
                    ⟨(some 24), none, .e (.load false 1 (.t 23))⟩,
                    ⟨(some 25), none, .callV 131 [(.t 24)]⟩,
                    ⟨(some 5), none, .e (.mov (.t 25))⟩] [4, 5, 9, 10, 11])
                  [4, 5, 9, 10, 11, 19]
                  (.seq
                   (.seq
                    (.reg [⟨(some 27), none, .e (.bin .eql (.t 19) (.c (.int .i64 3)))⟩,
                      ⟨(some 26), none, .e (.mov (.t 27))⟩] [4, 5, 9, 10, 11, 19, 26])
                    (.cond (.t 26) [4, 5, 9, 10, 11, 26]
                     .skip
                     [4, 5, 9, 10, 11, 19]
                     (.reg [⟨(some 28), none, .e (.bin .eql (.t 19) (.c (.int .i64 4)))⟩,
                       ⟨(some 26), none, .e (.mov (.t 28))⟩] [4, 5, 9, 10, 11, 26])))
                   (.cond (.t 26) [4, 5, 9, 10, 11]
                    .skip
                    []
                    (.seq
                     (.reg [⟨(some 2), none, .e (.mov (.c (.int .i64 1)))⟩] [2])
                     (.ret [2]))))))))
              (.seq
               (.reg [⟨(some 29), none, .e (.fad 1 (.t 4))⟩,
                 ⟨(some 30), none, .e (.load false 1 (.t 29))⟩,
                 ⟨(some 31), none, .callV 131 [(.t 30)]⟩,
                 ⟨(some 32), none, .e (.un .not (.t 31))⟩,
                 ⟨(some 33), none, .e (.mov (.t 32))⟩,
                 ⟨(some 34), (some (33, false)), .e (.mov (.t 5))⟩,
                 ⟨(some 35), (some (33, false)), .e (.un .not (.t 34))⟩,
                 ⟨(some 36), none, .e (.pick (.t 33) (.c (.bool true)) (.t 35))⟩] [9, 10, 11, 36])
               (.cond (.t 36) []
                (.seq
                 (.reg [⟨(some 2), none, .e (.mov (.c (.int .i64 3)))⟩] [2])
                 (.ret [2]))
                [9, 10, 11]
                .skip))))))
          (.reg [⟨(some 37), none, .e (.bin .add (.t 11) (.c (.int .i64 1)))⟩,
            ⟨(some 11), none, .e (.mov (.t 37))⟩] [9, 10, 11])))))))
    (.seq
     (.reg [⟨(some 2), none, .e (.mov (.c (.int .i64 0)))⟩] [2])
     (.ret [2])))))
theorem p102 : sight Tryz.prog 102 c102 = some (38, [.t 2], c102) := by kernel_rfl
/-- ballast/taint.CheckTols -/
def c103 : AC :=
 (.seq
  (.reg [⟨(some 2), none, .e (.mov (.c (.int .i64 0)))⟩] [0])
  (.seq
   (.seq
    (.reg [⟨(some 5), none, .e (.mov (.t 0))⟩,
      ⟨(some 6), none, .e (.lenL (.t 5))⟩,
      ⟨(some 7), none, .e (.bin .gtr (.t 6) (.c (.int .i64 8)))⟩] [0, 7])
    (.cond (.t 7) []
     (.seq
      (.reg [⟨(some 2), none, .e (.mov (.c (.int .i64 4)))⟩] [2])
      (.ret [2]))
     [0]
     .skip))
   (.seq
    (.seq
     (.reg [⟨(some 8), none, .e (.mov (.t 0))⟩,
       ⟨(some 9), none, .e (.lenL (.t 8))⟩,
       ⟨(some 10), none, .e (.mov (.c (.int .i64 0)))⟩] [8, 9, 10])
     (.block 0
      (.loop [8, 9, 10]
       (.seq
        (.reg [⟨(some 11), none, .e (.bin .lss (.t 10) (.t 9))⟩] [8, 9, 10, 11])
        (.seq
         (.cond (.t 11) [8, 9, 10]
          .skip
          []
          (.exit 0 []))
         (.seq
          (.block 1
           (.seq
            (.reg [⟨(some 12), none, .e (.iad 3 (.t 8) (.t 10))⟩,
              ⟨(some 13), none, .e (.load true 3 (.t 12))⟩,
              ⟨(some 4), none, .alloc 3 127 (.agg [(.str []), (.str []), (.bool false)])⟩,
              ⟨none, none, .store 3 (.t 4) (.t 13)⟩] [4, 8, 9, 10])
            (.seq
             (.reg [⟨(some 14), none, .e (.fad 0 (.t 4))⟩,
               ⟨(some 15), none, .e (.load false 1 (.t 14))⟩,
               ⟨(some 16), none, .e (.bin .neq (.t 15) (.c (.str [])))⟩,
               ⟨(some 17), none, .e (.mov (.t 16))⟩,
               ⟨(some 18), (some (17, true)), .e (.fad 0 (.t 4))⟩,
               ⟨(some 19), (some (17, true)), .e (.load false 1 (.t 18))⟩,
               ⟨(some 20), (some (17, true)), .callV 131 [(.t 19)]⟩,
               ⟨(some 21), (some (17, true)), .e (.un .not (.t 20))⟩,
               ⟨(some 22), none, .e (.pick (.t 17) (.t 21) (.c (.bool false)))⟩,
               ⟨(some 23), none, .e (.mov (.t 22))⟩,
               ⟨(some 24), (some (23, false)), .e (.fad 2 (.t 4))⟩,
               ⟨(some 25), (some (23, false)), .e (.load false 1 (.t 24))⟩,
               ⟨(some 26), (some (23, false)), .e (.fad 1 (.t 4))⟩,
               ⟨(some 27), (some (23, false)), .e (.load false 1 (.t 26))⟩,
               ⟨(some 28), (some (23, false)), .e (.bin .eql (.t 27) (.c (.str [])))⟩,
               ⟨(some 29), (some (23, false)), .e (.binB .neq (.t 25) (.t 28))⟩,
               ⟨(some 30), none, .e (.pick (.t 23) (.c (.bool true)) (.t 29))⟩,
               ⟨(some 31), none, .e (.mov (.t 30))⟩,
               ⟨(some 32), (some (31, false)), .e (.fad 2 (.t 4))⟩,
               ⟨(some 33), (some (31, false)), .e (.load false 1 (.t 32))⟩,
               ⟨(some 34), (some (31, false)), .e (.un .not (.t 33))⟩,
               ⟨(some 35), (some (31, false)), .e (.mov (.t 34))⟩,
               ⟨(some 36), (some (35, true)), .e (.fad 1 (.t 4))⟩,
               ⟨(some 37), (some (35, true)), .e (.load false 1 (.t 36))⟩,
               ⟨(some 38), (some (35, true)), .callV 131 [(.t 37)]⟩,
               ⟨(some 39), (some (35, true)), .e (.un .not (.t 38))⟩,
               ⟨(some 40), (some (31, false)), .e (.pick (.t 35) (.t 39) (.c (.bool false)))⟩,
               ⟨(some 41), none, .e (.pick (.t 31) (.c (.bool true)) (.t 40))⟩] [8, 9, 10, 41])
             (.cond (.t 41) []
              (.seq
               (.reg [⟨(some 2), none, .e (.mov (.c (.int .i64 3)))⟩] [2])
               (.ret [2]))
              [8, 9, 10]
              .skip))))
          (.reg [⟨(some 42), none, .e (.bin .add (.t 10) (.c (.int .i64 1)))⟩,
            ⟨(some 10), none, .e (.mov (.t 42))⟩] [8, 9, 10])))))))
    (.seq
     (.reg [⟨(some 2), none, .e (.mov (.c (.int .i64 0)))⟩] [2])
     (.ret [2])))))
theorem p103 : sight Tryz.prog 103 c103 = some (43, [.t 2], c103) := by kernel_rfl
/-- ballast/pod.most -/
def c104 : AC :=
 (.seq
  (.reg [⟨(some 1), none, .box 11 59 (.t 0)⟩,
    ⟨(some 2), none, .e (.mov (.c (.int .i64 0)))⟩] [1])
  (.seq
   (.seq
    (.reg [⟨(some 3), none, .e (.fad 7 (.t 1))⟩,
      ⟨(some 4), none, .e (.load false 1 (.t 3))⟩,
      ⟨(some 5), none, .e (.bin .eql (.t 4) (.c (.str [])))⟩] [1, 5])
    (.cond (.t 5) [1]
     (.seq
      (.reg [⟨(some 6), none, .e (.fad 8 (.t 1))⟩,
        ⟨(some 7), none, .e (.load false 1 (.t 6))⟩,
        ⟨(some 8), none, .callV 144 [(.t 7), (.c (.int .i64 0)), (.c (.int .i64 0))]⟩,
        ⟨(some 2), none, .e (.mov (.t 8))⟩] [2])
      (.ret [2]))
     [1]
     .skip))
   (.seq
    (.reg [⟨(some 9), none, .e (.fad 8 (.t 1))⟩,
      ⟨(some 10), none, .e (.load false 1 (.t 9))⟩,
      ⟨(some 11), none, .callV 144 [(.t 10), (.c (.int .i64 1)), (.c (.int .i64 128))]⟩,
      ⟨(some 2), none, .e (.mov (.t 11))⟩] [2])
    (.ret [2]))))
theorem p104 : sight Tryz.prog 104 c104 = some (12, [.t 2], c104) := by kernel_rfl
/-- ballast/label.Join[ballast/label.Pair] -/
def c110 : AC :=
 (.seq
  (.reg [⟨(some 4), none, .e (.mov (.c (.str [])))⟩] [0, 1])
  (.seq
   (.seq
    (.reg [⟨(some 8), none, .e (.mov (.t 0))⟩,
      ⟨(some 9), none, .e (.lenL (.t 8))⟩,
      ⟨(some 10), none, .e (.bin .eql (.t 9) (.c (.int .i64 0)))⟩] [0, 1, 10])
    (.cond (.t 10) []
     (.seq
      (.reg [⟨(some 4), none, .e (.mov (.c (.str [45])))⟩] [4])
      (.ret [4]))
     [0, 1]
     .skip))
   (.seq
    (.reg [⟨(some 5), none, .e (.mov (.c .nils))⟩] [0, 1, 5])
    (.seq
     (.seq
      (.reg [⟨(some 11), none, .e (.mov (.t 0))⟩,
        ⟨(some 12), none, .e (.lenL (.t 11))⟩,
        ⟨(some 13), none, .e (.mov (.c (.int .i64 0)))⟩] [1, 5, 11, 12, 13])
      (.block 0
       (.loop [1, 5, 11, 12, 13]
        (.seq
         (.reg [⟨(some 14), none, .e (.bin .lss (.t 13) (.t 12))⟩] [1, 5, 11, 12, 13, 14])
         (.seq
          (.cond (.t 14) [1, 5, 11, 12, 13]
           .skip
           [5]
           (.exit 0 [5]))
          (.seq
           (.block 1
            (.seq
             (.reg [⟨(some 15), none, .e (.iad 2 (.t 11) (.t 13))⟩,
               ⟨(some 16), none, .e (.load true 2 (.t 15))⟩,
               ⟨(some 7), none, .alloc 2 121 (.agg [(.str []), (.str [])])⟩,
               ⟨none, none, .store 2 (.t 7) (.t 16)⟩] [1, 5, 7, 11, 12, 13])
             (.reg [⟨(some 17), none, .e (.mov (.t 5))⟩,
               ⟨(some 18), none, .e (.mov (.t 1))⟩,
               ⟨(some 19), none, .e (.load true 2 (.t 7))⟩,
               ⟨(some 20), none, .cvalV (.t 18) [(.t 19)]⟩,
               ⟨(some 21), none, .lit 1 [(.t 20)]⟩,
               ⟨(some 22), none, .app 1 9 16 (.t 17) (.t 21)⟩,
               ⟨(some 5), none, .e (.mov (.t 22))⟩] [1, 5, 11, 12, 13])))
           (.reg [⟨(some 23), none, .e (.bin .add (.t 13) (.c (.int .i64 1)))⟩,
             ⟨(some 13), none, .e (.mov (.t 23))⟩] [1, 5, 11, 12, 13])))))))
     (.seq
      (.reg [⟨(some 24), none, .e (.mov (.t 5))⟩,
        ⟨(some 25), none, .callO 61 [(.t 24), (.c (.str [44]))]⟩,
        ⟨(some 4), none, .e (.mov (.t 25))⟩] [4])
      (.ret [4]))))))
theorem p110 : sight Tryz.prog 110 c110 = some (26, [.t 4], c110) := by kernel_rfl
/-- ballast/label.Text$1 -/
def c111 : AC :=
 (.seq
  (.reg [⟨(some 1), none, .box 2 121 (.t 0)⟩,
    ⟨(some 2), none, .e (.mov (.c (.str [])))⟩] [1])
  (.seq
   (.reg [⟨(some 3), none, .e (.fad 0 (.t 1))⟩,
     ⟨(some 4), none, .e (.load false 1 (.t 3))⟩,
     ⟨(some 5), none, .e (.bin .add (.t 4) (.c (.str [58])))⟩,
     ⟨(some 6), none, .e (.fad 1 (.t 1))⟩,
     ⟨(some 7), none, .e (.load false 1 (.t 6))⟩,
     ⟨(some 8), none, .e (.bin .add (.t 5) (.t 7))⟩,
     ⟨(some 2), none, .e (.mov (.t 8))⟩] [2])
   (.ret [2])))
theorem p111 : sight Tryz.prog 111 c111 = some (9, [.t 2], c111) := by kernel_rfl
/-- ballast/label.Join[ballast/label.Term] -/
def c112 : AC :=
 (.seq
  (.reg [⟨(some 4), none, .e (.mov (.c (.str [])))⟩] [0, 1])
  (.seq
   (.seq
    (.reg [⟨(some 8), none, .e (.mov (.t 0))⟩,
      ⟨(some 9), none, .e (.lenL (.t 8))⟩,
      ⟨(some 10), none, .e (.bin .eql (.t 9) (.c (.int .i64 0)))⟩] [0, 1, 10])
    (.cond (.t 10) []
     (.seq
      (.reg [⟨(some 4), none, .e (.mov (.c (.str [45])))⟩] [4])
      (.ret [4]))
     [0, 1]
     .skip))
   (.seq
    (.reg [⟨(some 5), none, .e (.mov (.c .nils))⟩] [0, 1, 5])
    (.seq
     (.seq
      (.reg [⟨(some 11), none, .e (.mov (.t 0))⟩,
        ⟨(some 12), none, .e (.lenL (.t 11))⟩,
        ⟨(some 13), none, .e (.mov (.c (.int .i64 0)))⟩] [1, 5, 11, 12, 13])
      (.block 0
       (.loop [1, 5, 11, 12, 13]
        (.seq
         (.reg [⟨(some 14), none, .e (.bin .lss (.t 13) (.t 12))⟩] [1, 5, 11, 12, 13, 14])
         (.seq
          (.cond (.t 14) [1, 5, 11, 12, 13]
           .skip
           [5]
           (.exit 0 [5]))
          (.seq
           (.block 1
            (.seq
             (.reg [⟨(some 15), none, .e (.iad 3 (.t 11) (.t 13))⟩,
               ⟨(some 16), none, .e (.load true 3 (.t 15))⟩,
               ⟨(some 7), none, .alloc 3 124 (.agg [(.int .i64 0), (.str []), (.str [])])⟩,
               ⟨none, none, .store 3 (.t 7) (.t 16)⟩] [1, 5, 7, 11, 12, 13])
             (.reg [⟨(some 17), none, .e (.mov (.t 5))⟩,
               ⟨(some 18), none, .e (.mov (.t 1))⟩,
               ⟨(some 19), none, .e (.load true 3 (.t 7))⟩,
               ⟨(some 20), none, .cvalV (.t 18) [(.t 19)]⟩,
               ⟨(some 21), none, .lit 1 [(.t 20)]⟩,
               ⟨(some 22), none, .app 1 9 16 (.t 17) (.t 21)⟩,
               ⟨(some 5), none, .e (.mov (.t 22))⟩] [1, 5, 11, 12, 13])))
           (.reg [⟨(some 23), none, .e (.bin .add (.t 13) (.c (.int .i64 1)))⟩,
             ⟨(some 13), none, .e (.mov (.t 23))⟩] [1, 5, 11, 12, 13])))))))
     (.seq
      (.reg [⟨(some 24), none, .e (.mov (.t 5))⟩,
        ⟨(some 25), none, .callO 61 [(.t 24), (.c (.str [44]))]⟩,
        ⟨(some 4), none, .e (.mov (.t 25))⟩] [4])
      (.ret [4]))))))
theorem p112 : sight Tryz.prog 112 c112 = some (26, [.t 4], c112) := by kernel_rfl
/-- ballast/label.SelText$1 -/
def c113 : AC :=
 (.seq
  (.reg [⟨(some 1), none, .box 3 124 (.t 0)⟩,
    ⟨(some 2), none, .e (.mov (.c (.str [])))⟩] [1])
  (.seq
   (.seq
    (.reg [⟨(some 3), none, .e (.fad 0 (.t 1))⟩,
      ⟨(some 4), none, .e (.load false 1 (.t 3))⟩] [1, 4])
    (.block 0
     (.seq
      (.reg [⟨(some 6), none, .e (.bin .eql (.t 4) (.c (.int .i64 1)))⟩,
        ⟨(some 5), none, .e (.mov (.t 6))⟩] [1, 4, 5])
      (.cond (.t 5) [1]
       (.seq
        (.reg [⟨(some 7), none, .e (.fad 1 (.t 1))⟩,
          ⟨(some 8), none, .e (.load false 1 (.t 7))⟩,
          ⟨(some 9), none, .e (.bin .add (.t 8) (.c (.str [58])))⟩,
          ⟨(some 10), none, .e (.fad 2 (.t 1))⟩,
          ⟨(some 11), none, .e (.load false 1 (.t 10))⟩,
          ⟨(some 12), none, .e (.bin .add (.t 9) (.t 11))⟩,
          ⟨(some 2), none, .e (.mov (.t 12))⟩] [2])
        (.ret [2]))
       [1, 4]
       (.seq
        (.reg [⟨(some 14), none, .e (.bin .eql (.t 4) (.c (.int .i64 2)))⟩,
          ⟨(some 13), none, .e (.mov (.t 14))⟩] [1, 4, 13])
        (.cond (.t 13) [1]
         (.seq
          (.reg [⟨(some 15), none, .e (.fad 1 (.t 1))⟩,
            ⟨(some 16), none, .e (.load false 1 (.t 15))⟩,
            ⟨(some 17), none, .e (.bin .add (.t 16) (.c (.str [33])))⟩,
            ⟨(some 18), none, .e (.fad 2 (.t 1))⟩,
            ⟨(some 19), none, .e (.load false 1 (.t 18))⟩,
            ⟨(some 20), none, .e (.bin .add (.t 17) (.t 19))⟩,
            ⟨(some 2), none, .e (.mov (.t 20))⟩] [2])
          (.ret [2]))
         [1, 4]
         (.seq
          (.reg [⟨(some 22), none, .e (.bin .eql (.t 4) (.c (.int .i64 4)))⟩,
            ⟨(some 21), none, .e (.mov (.t 22))⟩] [1, 21])
          (.cond (.t 21) [1]
           (.seq
            (.reg [⟨(some 23), none, .e (.fad 1 (.t 1))⟩,
              ⟨(some 24), none, .e (.load false 1 (.t 23))⟩,
              ⟨(some 25), none, .e (.bin .add (.c (.str [45])) (.t 24))⟩,
              ⟨(some 2), none, .e (.mov (.t 25))⟩] [2])
            (.ret [2]))
           [1]
           .skip))))))))
   (.seq
    (.reg [⟨(some 26), none, .e (.fad 1 (.t 1))⟩,
      ⟨(some 27), none, .e (.load false 1 (.t 26))⟩,
      ⟨(some 2), none, .e (.mov (.t 27))⟩] [2])
    (.ret [2]))))
theorem p113 : sight Tryz.prog 113 c113 = some (28, [.t 2], c113) := by kernel_rfl
/-- ballast/label.Join[ballast/taint.Tol] -/
def c114 : AC :=
 (.seq
  (.reg [⟨(some 4), none, .e (.mov (.c (.str [])))⟩] [0, 1])
  (.seq
   (.seq
    (.reg [⟨(some 8), none, .e (.mov (.t 0))⟩,
      ⟨(some 9), none, .e (.lenL (.t 8))⟩,
      ⟨(some 10), none, .e (.bin .eql (.t 9) (.c (.int .i64 0)))⟩] [0, 1, 10])
    (.cond (.t 10) []
     (.seq
      (.reg [⟨(some 4), none, .e (.mov (.c (.str [45])))⟩] [4])
      (.ret [4]))
     [0, 1]
     .skip))
   (.seq
    (.reg [⟨(some 5), none, .e (.mov (.c .nils))⟩] [0, 1, 5])
    (.seq
     (.seq
      (.reg [⟨(some 11), none, .e (.mov (.t 0))⟩,
        ⟨(some 12), none, .e (.lenL (.t 11))⟩,
        ⟨(some 13), none, .e (.mov (.c (.int .i64 0)))⟩] [1, 5, 11, 12, 13])
      (.block 0
       (.loop [1, 5, 11, 12, 13]
        (.seq
         (.reg [⟨(some 14), none, .e (.bin .lss (.t 13) (.t 12))⟩] [1, 5, 11, 12, 13, 14])
         (.seq
          (.cond (.t 14) [1, 5, 11, 12, 13]
           .skip
           [5]
           (.exit 0 [5]))
          (.seq
           (.block 1
            (.seq
             (.reg [⟨(some 15), none, .e (.iad 3 (.t 11) (.t 13))⟩,
               ⟨(some 16), none, .e (.load true 3 (.t 15))⟩,
               ⟨(some 7), none, .alloc 3 127 (.agg [(.str []), (.str []), (.bool false)])⟩,
               ⟨none, none, .store 3 (.t 7) (.t 16)⟩] [1, 5, 7, 11, 12, 13])
             (.reg [⟨(some 17), none, .e (.mov (.t 5))⟩,
               ⟨(some 18), none, .e (.mov (.t 1))⟩,
               ⟨(some 19), none, .e (.load true 3 (.t 7))⟩,
               ⟨(some 20), none, .cvalV (.t 18) [(.t 19)]⟩,
               ⟨(some 21), none, .lit 1 [(.t 20)]⟩,
               ⟨(some 22), none, .app 1 9 16 (.t 17) (.t 21)⟩,
               ⟨(some 5), none, .e (.mov (.t 22))⟩] [1, 5, 11, 12, 13])))
           (.reg [⟨(some 23), none, .e (.bin .add (.t 13) (.c (.int .i64 1)))⟩,
             ⟨(some 13), none, .e (.mov (.t 23))⟩] [1, 5, 11, 12, 13])))))))
     (.seq
      (.reg [⟨(some 24), none, .e (.mov (.t 5))⟩,
        ⟨(some 25), none, .callO 61 [(.t 24), (.c (.str [44]))]⟩,
        ⟨(some 4), none, .e (.mov (.t 25))⟩] [4])
      (.ret [4]))))))
theorem p114 : sight Tryz.prog 114 c114 = some (26, [.t 4], c114) := by kernel_rfl
/-- ballast/taint.TolText$1 -/
def c115 : AC :=
 (.seq
  (.reg [⟨(some 1), none, .box 3 127 (.t 0)⟩,
    ⟨(some 2), none, .e (.mov (.c (.str [])))⟩] [1])
  (.seq
   (.reg [⟨(some 4), none, .e (.fad 0 (.t 1))⟩,
     ⟨(some 5), none, .e (.load false 1 (.t 4))⟩,
     ⟨(some 3), none, .e (.mov (.t 5))⟩] [1, 3])
   (.seq
    (.seq
     (.reg [⟨(some 6), none, .e (.mov (.t 3))⟩,
       ⟨(some 7), none, .e (.bin .eql (.t 6) (.c (.str [])))⟩] [1, 3, 7])
     (.cond (.t 7) [1]
      (.reg [⟨(some 3), none, .e (.mov (.c (.str [42])))⟩] [1, 3])
      [1, 3]
      .skip))
    (.seq
     (.seq
      (.reg [⟨(some 8), none, .e (.fad 2 (.t 1))⟩,
        ⟨(some 9), none, .e (.load false 1 (.t 8))⟩] [1, 3, 9])
      (.cond (.t 9) [3]
       (.seq
        (.reg [⟨(some 10), none, .e (.mov (.t 3))⟩,
          ⟨(some 2), none, .e (.mov (.t 10))⟩] [2])
        (.ret [2]))
       [1, 3]
       .skip))
     (.seq
      (.reg [⟨(some 11), none, .e (.mov (.t 3))⟩,
        ⟨(some 12), none, .e (.bin .add (.t 11) (.c (.str [58])))⟩,
        ⟨(some 13), none, .e (.fad 1 (.t 1))⟩,
        ⟨(some 14), none, .e (.load false 1 (.t 13))⟩,
        ⟨(some 15), none, .e (.bin .add (.t 12) (.t 14))⟩,
        ⟨(some 2), none, .e (.mov (.t 15))⟩] [2])
      (.ret [2]))))))
theorem p115 : sight Tryz.prog 115 c115 = some (16, [.t 2], c115) := by kernel_rfl
/-- ballast/res.Parse$1 -/
def c119 : AC :=
 (.seq
  (.reg [⟨(some 2), none, .alloc 1 35 (.int .i64 0)⟩,
    ⟨none, none, .store 1 (.t 2) (.c (.int .i64 0))⟩] [0, 1, 2])
  (.seq
   (.seq
    (.reg [⟨(some 9), none, .e (.load false 1 (.t 0))⟩,
      ⟨(some 10), none, .call 120 [(.t 9), (.c (.str [44]))]⟩] [1, 2, 10])
    (.block 0
     (.rng [1, 2, 10] (.t 10) [11]
      (.reg [⟨(some 3), none, .e (.mov (.t 11))⟩] [1, 2, 3])
      (.block 1
       (.seq
        (.reg [⟨(some 13), none, .e (.mov (.t 3))⟩,
          ⟨(some 14), none, .callV 92 [(.t 13), (.c (.str [61]))]⟩,
          ⟨(some 12), none, .e (.mov (.t 14))⟩,
          ⟨(some 15), none, .e (.ext (.t 12) 0)⟩,
          ⟨(some 16), none, .e (.ext (.t 12) 1)⟩,
          ⟨(some 17), none, .e (.ext (.t 12) 2)⟩,
          ⟨(some 4), none, .e (.mov (.t 15))⟩,
          ⟨(some 5), none, .e (.mov (.t 16))⟩,
          ⟨(some 6), none, .e (.mov (.t 17))⟩] [1, 2, 4, 5, 6])
        (.seq
         (.reg [⟨(some 19), none, .e (.mov (.t 5))⟩,
           ⟨(some 20), none, .callV 121 [(.t 19)]⟩,
           ⟨(some 18), none, .e (.mov (.t 20))⟩,
           ⟨(some 21), none, .e (.ext (.t 18) 0)⟩,
           ⟨(some 22), none, .e (.ext (.t 18) 1)⟩,
           ⟨(some 7), none, .e (.mov (.t 21))⟩,
           ⟨(some 8), none, .e (.mov (.t 22))⟩] [1, 2, 4, 6, 7, 8])
         (.seq
          (.seq
           (.reg [⟨(some 23), none, .e (.mov (.t 6))⟩,
             ⟨(some 24), none, .e (.un .not (.t 23))⟩,
             ⟨(some 25), none, .e (.mov (.t 24))⟩,
             ⟨(some 26), (some (25, false)), .e (.mov (.t 8))⟩,
             ⟨(some 27), (some (25, false)), .e (.bin .eql (.t 26) (.c (.int .i64 2)))⟩,
             ⟨(some 28), none, .e (.pick (.t 25) (.c (.bool true)) (.t 27))⟩] [1, 2, 4, 7, 8, 28])
           (.cond (.t 28) [1, 2, 4, 7, 8]
            (.reg [⟨(some 29), none, .callP 74 [(.c (.int .i64 2))]⟩] [1, 2, 4, 7, 8])
            [1, 2, 4, 7, 8]
            .skip))
          (.seq
           (.reg [⟨(some 30), none, .e (.load false 1 (.t 2))⟩,
             ⟨(some 31), none, .e (.mov (.t 8))⟩,
             ⟨(some 32), none, .e (.mx true (.t 30) (.t 31))⟩,
             ⟨none, none, .store 1 (.t 2) (.t 32)⟩] [1, 4, 7])
           (.reg [⟨(some 33), none, .e (.load false 1 (.t 1))⟩,
             ⟨(some 34), none, .e (.mov (.t 4))⟩,
             ⟨(some 35), none, .e (.mov (.t 7))⟩,
             ⟨(some 36), none, .e (.bld [(.str []), (.int .i64 0)] [(0, 1, (.t 34)), (1, 1, (.t 35))])⟩,
             ⟨(some 37), none, .lit 2 [(.t 36)]⟩,
             ⟨(some 38), none, .app 2 51 24 (.t 33) (.t 37)⟩,
             ⟨none, none, .store 1 (.t 1) (.t 38)⟩] [])))))))))
   (.seq
    (.reg [⟨(some 39), none, .e (.load false 1 (.t 2))⟩,
      ⟨(some 40), none, .callP 74 [(.t 39)]⟩] [1])
    (.reg [⟨(some 41), none, .e (.load false 1 (.t 1))⟩,
      ⟨(some 42), none, .callO 85 [(.t 41)]⟩,
      ⟨(some 43), none, .callP 74 [(.t 42)]⟩] []))))
theorem p119 : sight Tryz.prog 119 c119 = some (44, [], c119) := by kernel_rfl
/-- ballast/res.Number -/
def c121 : AC :=
 (.seq
  (.reg [⟨(some 2), none, .e (.mov (.c (.int .i64 0)))⟩,
    ⟨(some 3), none, .e (.mov (.c (.int .i64 0)))⟩] [0])
  (.seq
   (.seq
    (.reg [⟨(some 6), none, .e (.mov (.t 0))⟩,
      ⟨(some 7), none, .e (.bin .eql (.t 6) (.c (.str [])))⟩,
      ⟨(some 8), none, .e (.mov (.t 7))⟩,
      ⟨(some 9), (some (8, false)), .e (.mov (.t 0))⟩,
      ⟨(some 10), (some (8, false)), .callV 152 [(.t 9), (.c (.str [48, 49, 50, 51, 52, 53, 54, 55, 56, 57]))]⟩,
      ⟨(some 11), (some (8, false)), .e (.bin .neq (.t 10) (.c (.str [])))⟩,
      ⟨(some 12), none, .e (.pick (.t 8) (.c (.bool true)) (.t 11))⟩,
      ⟨(some 13), none, .e (.mov (.t 12))⟩,
      ⟨(some 14), (some (13, false)), .e (.mov (.t 0))⟩,
      ⟨(some 15), (some (13, false)), .e (.idx (.t 14) (.c (.int .i64 0)))⟩,
      ⟨(some 16), (some (13, false)), .e (.bin .eql (.t 15) (.c (.int .u8 48)))⟩,
      ⟨(some 17), (some (13, false)), .e (.mov (.t 16))⟩,
      ⟨(some 18), (some (17, true)), .e (.mov (.t 0))⟩,
      ⟨(some 19), (some (17, true)), .e (.bin .neq (.t 18) (.c (.str [48])))⟩,
      ⟨(some 20), (some (13, false)), .e (.pick (.t 17) (.t 19) (.c (.bool false)))⟩,
      ⟨(some 21), none, .e (.pick (.t 13) (.c (.bool true)) (.t 20))⟩] [0, 21])
    (.cond (.t 21) []
     (.seq
      (.reg [⟨(some 2), none, .e (.mov (.c (.int .i64 0)))⟩,
        ⟨(some 3), none, .e (.mov (.c (.int .i64 2)))⟩] [2, 3])
      (.ret [2, 3]))
     [0]
     .skip))
   (.seq
    (.reg [⟨(some 23), none, .e (.mov (.t 0))⟩,
      ⟨(some 24), none, .callV 153 [(.t 23), (.c (.int .i64 10)), (.c (.int .i64 64))]⟩,
      ⟨(some 22), none, .e (.mov (.t 24))⟩,
      ⟨(some 25), none, .e (.ext (.t 22) 0)⟩,
      ⟨(some 26), none, .e (.ext (.t 22) 1)⟩,
      ⟨(some 4), none, .e (.mov (.t 25))⟩,
      ⟨(some 5), none, .e (.mov (.t 26))⟩] [4, 5])
    (.seq
     (.seq
      (.reg [⟨(some 27), none, .e (.mov (.t 5))⟩,
        ⟨(some 28), none, .e (.isN true .i (.t 27))⟩] [4, 28])
      (.cond (.t 28) []
       (.seq
        (.reg [⟨(some 2), none, .e (.mov (.c (.int .i64 0)))⟩,
          ⟨(some 3), none, .e (.mov (.c (.int .i64 5)))⟩] [2, 3])
        (.ret [2, 3]))
       [4]
       .skip))
     (.seq
      (.reg [⟨(some 29), none, .e (.mov (.t 4))⟩,
        ⟨(some 2), none, .e (.mov (.t 29))⟩,
        ⟨(some 3), none, .e (.mov (.c (.int .i64 0)))⟩] [2, 3])
      (.ret [2, 3]))))))
theorem p121 : sight Tryz.prog 121 c121 = some (30, [.t 2, .t 3], c121) := by kernel_rfl
/-- ballast/label.Parts[ballast/label.Pair] -/
def c122 : AC :=
 (.seq
  (.reg [⟨(some 3), none, .box 1 9 (.t 0)⟩,
    ⟨(some 4), none, .box 1 196 (.t 1)⟩,
    ⟨(some 5), none, .box 1 197 (.t 2)⟩,
    ⟨(some 6), none, .e (.mov (.c .nils))⟩,
    ⟨(some 7), none, .e (.mov (.c (.int .i64 0)))⟩] [3, 4, 5])
  (.seq
   (.seq
    (.reg [⟨(some 10), none, .e (.load false 1 (.t 3))⟩,
      ⟨(some 11), none, .e (.bin .eql (.t 10) (.c (.str [45])))⟩] [3, 4, 5, 11])
    (.cond (.t 11) []
     (.seq
      (.reg [⟨(some 6), none, .e (.mov (.c .nils))⟩,
        ⟨(some 7), none, .e (.mov (.c (.int .i64 0)))⟩] [6, 7])
      (.ret [6, 7]))
     [3, 4, 5]
     .skip))
   (.seq
    (.reg [⟨(some 8), none, .alloc 1 27 .nils⟩] [3, 4, 5, 8])
    (.seq
     (.reg [⟨(some 12), none, .e (.mkf 154 [(.t 3), (.t 8), (.t 4), (.t 5)])⟩,
       ⟨(some 13), none, .call 71 [(.t 12)]⟩,
       ⟨(some 9), none, .e (.mov (.t 13))⟩] [8, 9])
     (.seq
      (.seq
       (.reg [⟨(some 14), none, .e (.mov (.t 9))⟩,
         ⟨(some 15), none, .e (.bin .neq (.t 14) (.c (.int .i64 0)))⟩] [8, 9, 15])
       (.cond (.t 15) [9]
        (.seq
         (.reg [⟨(some 16), none, .e (.mov (.t 9))⟩,
           ⟨(some 6), none, .e (.mov (.c .nils))⟩,
           ⟨(some 7), none, .e (.mov (.t 16))⟩] [6, 7])
         (.ret [6, 7]))
        [8]
        .skip))
      (.seq
       (.reg [⟨(some 17), none, .e (.load false 1 (.t 8))⟩,
         ⟨(some 6), none, .e (.mov (.t 17))⟩,
         ⟨(some 7), none, .e (.mov (.c (.int .i64 0)))⟩] [6, 7])
       (.ret [6, 7])))))))
theorem p122 : sight Tryz.prog 122 c122 = some (18, [.t 6, .t 7], c122) := by kernel_rfl
/-- ballast/label.Parse$1 -/
def c123 : AC :=
 (.seq
  (.reg [⟨(some 2), none, .alloc 2 121 (.agg [(.str []), (.str [])])⟩] [0, 2])
  (.seq
   (.reg [⟨(some 7), none, .e (.mov (.t 0))⟩,
     ⟨(some 8), none, .callV 92 [(.t 7), (.c (.str [58]))]⟩,
     ⟨(some 6), none, .e (.mov (.t 8))⟩,
     ⟨(some 9), none, .e (.ext (.t 6) 0)⟩,
     ⟨(some 10), none, .e (.ext (.t 6) 1)⟩,
     ⟨(some 11), none, .e (.ext (.t 6) 2)⟩,
     ⟨(some 3), none, .e (.mov (.t 9))⟩,
     ⟨(some 4), none, .e (.mov (.t 10))⟩,
     ⟨(some 5), none, .e (.mov (.t 11))⟩] [2, 3, 4, 5])
   (.seq
    (.seq
     (.reg [⟨(some 12), none, .e (.mov (.t 5))⟩,
       ⟨(some 13), none, .e (.un .not (.t 12))⟩,
       ⟨(some 14), none, .e (.mov (.t 13))⟩,
       ⟨(some 15), (some (14, false)), .e (.mov (.t 4))⟩,
       ⟨(some 16), (some (14, false)), .callV 124 [(.t 15), (.c (.str [58]))]⟩,
       ⟨(some 17), none, .e (.pick (.t 14) (.c (.bool true)) (.t 16))⟩] [2, 3, 4, 17])
     (.cond (.t 17) [2, 3, 4]
      (.reg [⟨(some 18), none, .callP 74 [(.c (.int .i64 2))]⟩] [2, 3, 4])
      [2, 3, 4]
      .skip))
    (.seq
     (.reg [⟨(some 19), none, .e (.mov (.t 3))⟩,
       ⟨(some 20), none, .e (.mov (.t 4))⟩,
       ⟨(some 21), none, .e (.bld [(.str []), (.str [])] [(0, 1, (.t 19)), (1, 1, (.t 20))])⟩,
       ⟨none, none, .store 2 (.t 2) (.t 21)⟩] [2])
     (.ret [2])))))
theorem p123 : sight Tryz.prog 123 c123 = some (22, [.c 2 true 2], c123) := by kernel_rfl
/-- ballast/label.Parse$2 -/
def c125 : AC :=
 (.seq
  (.reg [⟨(some 2), none, .e (.mov (.c (.int .i64 0)))⟩] [0])
  (.seq
   (.reg [⟨(some 3), none, .e (.mov (.t 0))⟩,
     ⟨(some 4), none, .callV 86 [(.t 3)]⟩,
     ⟨(some 2), none, .e (.mov (.t 4))⟩] [2])
   (.ret [2])))
theorem p125 : sight Tryz.prog 125 c125 = some (5, [.t 2], c125) := by kernel_rfl
/-- ballast/label.Parts[ballast/taint.Taint] -/
def c126 : AC :=
 (.seq
  (.reg [⟨(some 3), none, .box 1 9 (.t 0)⟩,
    ⟨(some 4), none, .box 1 201 (.t 1)⟩,
    ⟨(some 5), none, .box 1 148 (.t 2)⟩,
    ⟨(some 6), none, .e (.mov (.c .nils))⟩,
    ⟨(some 7), none, .e (.mov (.c (.int .i64 0)))⟩] [3, 4, 5])
  (.seq
   (.seq
    (.reg [⟨(some 10), none, .e (.load false 1 (.t 3))⟩,
      ⟨(some 11), none, .e (.bin .eql (.t 10) (.c (.str [45])))⟩] [3, 4, 5, 11])
    (.cond (.t 11) []
     (.seq
      (.reg [⟨(some 6), none, .e (.mov (.c .nils))⟩,
        ⟨(some 7), none, .e (.mov (.c (.int .i64 0)))⟩] [6, 7])
      (.ret [6, 7]))
     [3, 4, 5]
     .skip))
   (.seq
    (.reg [⟨(some 8), none, .alloc 1 29 .nils⟩] [3, 4, 5, 8])
    (.seq
     (.reg [⟨(some 12), none, .e (.mkf 155 [(.t 3), (.t 8), (.t 4), (.t 5)])⟩,
       ⟨(some 13), none, .call 71 [(.t 12)]⟩,
       ⟨(some 9), none, .e (.mov (.t 13))⟩] [8, 9])
     (.seq
      (.seq
       (.reg [⟨(some 14), none, .e (.mov (.t 9))⟩,
         ⟨(some 15), none, .e (.bin .neq (.t 14) (.c (.int .i64 0)))⟩] [8, 9, 15])
       (.cond (.t 15) [9]
        (.seq
         (.reg [⟨(some 16), none, .e (.mov (.t 9))⟩,
           ⟨(some 6), none, .e (.mov (.c .nils))⟩,
           ⟨(some 7), none, .e (.mov (.t 16))⟩] [6, 7])
         (.ret [6, 7]))
        [8]
        .skip))
      (.seq
       (.reg [⟨(some 17), none, .e (.load false 1 (.t 8))⟩,
         ⟨(some 6), none, .e (.mov (.t 17))⟩,
         ⟨(some 7), none, .e (.mov (.c (.int .i64 0)))⟩] [6, 7])
       (.ret [6, 7])))))))
theorem p126 : sight Tryz.prog 126 c126 = some (18, [.t 6, .t 7], c126) := by kernel_rfl
/-- ballast/taint.Parse$1 -/
def c127 : AC :=
 (.seq
  (.reg [⟨(some 2), none, .alloc 3 143 (.agg [(.str []), (.str []), (.bool false)])⟩] [0, 2])
  (.seq
   (.reg [⟨(some 8), none, .e (.mov (.t 0))⟩,
     ⟨(some 9), none, .callV 92 [(.t 8), (.c (.str [58]))]⟩,
     ⟨(some 7), none, .e (.mov (.t 9))⟩,
     ⟨(some 10), none, .e (.ext (.t 7) 0)⟩,
     ⟨(some 11), none, .e (.ext (.t 7) 1)⟩,
     ⟨(some 12), none, .e (.ext (.t 7) 2)⟩,
     ⟨(some 3), none, .e (.mov (.t 10))⟩,
     ⟨(some 4), none, .e (.mov (.t 11))⟩,
     ⟨(some 5), none, .e (.mov (.t 12))⟩] [2, 3, 4, 5])
   (.seq
    (.seq
     (.reg [⟨(some 13), none, .e (.mov (.t 5))⟩,
       ⟨(some 14), none, .e (.un .not (.t 13))⟩,
       ⟨(some 15), none, .e (.mov (.t 14))⟩,
       ⟨(some 16), (some (15, false)), .e (.mov (.t 4))⟩,
       ⟨(some 17), (some (15, false)), .callV 124 [(.t 16), (.c (.str [58]))]⟩,
       ⟨(some 18), none, .e (.pick (.t 15) (.c (.bool true)) (.t 17))⟩] [2, 3, 4, 18])
     (.cond (.t 18) [2, 3, 4]
      (.reg [⟨(some 19), none, .callP 74 [(.c (.int .i64 2))]⟩] [2, 3, 4])
      [2, 3, 4]
      .skip))
    (.seq
     (.reg [⟨(some 21), none, .e (.mov (.t 4))⟩,
       ⟨(some 22), none, .callV 128 [(.t 21), (.c (.str [33]))]⟩,
       ⟨(some 20), none, .e (.mov (.t 22))⟩,
       ⟨(some 23), none, .e (.ext (.t 20) 0)⟩,
       ⟨(some 24), none, .e (.ext (.t 20) 1)⟩,
       ⟨(some 4), none, .e (.mov (.t 23))⟩,
       ⟨(some 6), none, .e (.mov (.t 24))⟩] [2, 3, 4, 6])
     (.seq
      (.reg [⟨(some 25), none, .e (.mov (.t 3))⟩,
        ⟨(some 26), none, .e (.mov (.t 4))⟩,
        ⟨(some 27), none, .e (.mov (.t 6))⟩,
        ⟨(some 28), none, .e (.bld [(.str []), (.str []), (.bool false)] [(0, 1, (.t 25)), (1, 1, (.t 26)), (2, 1, (.t 27))])⟩,
        ⟨none, none, .store 3 (.t 2) (.t 28)⟩] [2])
      (.ret [2]))))))
theorem p127 : sight Tryz.prog 127 c127 = some (29, [.c 2 true 3], c127) := by kernel_rfl
/-- ballast/label.Join[ballast/taint.Taint] -/
def c129 : AC :=
 (.seq
  (.reg [⟨(some 4), none, .e (.mov (.c (.str [])))⟩] [0, 1])
  (.seq
   (.seq
    (.reg [⟨(some 8), none, .e (.mov (.t 0))⟩,
      ⟨(some 9), none, .e (.lenL (.t 8))⟩,
      ⟨(some 10), none, .e (.bin .eql (.t 9) (.c (.int .i64 0)))⟩] [0, 1, 10])
    (.cond (.t 10) []
     (.seq
      (.reg [⟨(some 4), none, .e (.mov (.c (.str [45])))⟩] [4])
      (.ret [4]))
     [0, 1]
     .skip))
   (.seq
    (.reg [⟨(some 5), none, .e (.mov (.c .nils))⟩] [0, 1, 5])
    (.seq
     (.seq
      (.reg [⟨(some 11), none, .e (.mov (.t 0))⟩,
        ⟨(some 12), none, .e (.lenL (.t 11))⟩,
        ⟨(some 13), none, .e (.mov (.c (.int .i64 0)))⟩] [1, 5, 11, 12, 13])
      (.block 0
       (.loop [1, 5, 11, 12, 13]
        (.seq
         (.reg [⟨(some 14), none, .e (.bin .lss (.t 13) (.t 12))⟩] [1, 5, 11, 12, 13, 14])
         (.seq
          (.cond (.t 14) [1, 5, 11, 12, 13]
           .skip
           [5]
           (.exit 0 [5]))
          (.seq
           (.block 1
            (.seq
             (.reg [⟨(some 15), none, .e (.iad 3 (.t 11) (.t 13))⟩,
               ⟨(some 16), none, .e (.load true 3 (.t 15))⟩,
               ⟨(some 7), none, .alloc 3 143 (.agg [(.str []), (.str []), (.bool false)])⟩,
               ⟨none, none, .store 3 (.t 7) (.t 16)⟩] [1, 5, 7, 11, 12, 13])
             (.reg [⟨(some 17), none, .e (.mov (.t 5))⟩,
               ⟨(some 18), none, .e (.mov (.t 1))⟩,
               ⟨(some 19), none, .e (.load true 3 (.t 7))⟩,
               ⟨(some 20), none, .cvalV (.t 18) [(.t 19)]⟩,
               ⟨(some 21), none, .lit 1 [(.t 20)]⟩,
               ⟨(some 22), none, .app 1 9 16 (.t 17) (.t 21)⟩,
               ⟨(some 5), none, .e (.mov (.t 22))⟩] [1, 5, 11, 12, 13])))
           (.reg [⟨(some 23), none, .e (.bin .add (.t 13) (.c (.int .i64 1)))⟩,
             ⟨(some 13), none, .e (.mov (.t 23))⟩] [1, 5, 11, 12, 13])))))))
     (.seq
      (.reg [⟨(some 24), none, .e (.mov (.t 5))⟩,
        ⟨(some 25), none, .callO 61 [(.t 24), (.c (.str [44]))]⟩,
        ⟨(some 4), none, .e (.mov (.t 25))⟩] [4])
      (.ret [4]))))))
theorem p129 : sight Tryz.prog 129 c129 = some (26, [.t 4], c129) := by kernel_rfl
/-- ballast/taint.Text$1 -/
def c130 : AC :=
 (.seq
  (.reg [⟨(some 1), none, .box 3 143 (.t 0)⟩,
    ⟨(some 2), none, .e (.mov (.c (.str [])))⟩] [1])
  (.seq
   (.seq
    (.reg [⟨(some 3), none, .e (.fad 2 (.t 1))⟩,
      ⟨(some 4), none, .e (.load false 1 (.t 3))⟩] [1, 4])
    (.cond (.t 4) [1]
     (.seq
      (.reg [⟨(some 5), none, .e (.fad 0 (.t 1))⟩,
        ⟨(some 6), none, .e (.load false 1 (.t 5))⟩,
        ⟨(some 7), none, .e (.bin .add (.t 6) (.c (.str [58])))⟩,
        ⟨(some 8), none, .e (.fad 1 (.t 1))⟩,
        ⟨(some 9), none, .e (.load false 1 (.t 8))⟩,
        ⟨(some 10), none, .e (.bin .add (.t 7) (.t 9))⟩,
        ⟨(some 11), none, .e (.bin .add (.t 10) (.c (.str [33])))⟩,
        ⟨(some 2), none, .e (.mov (.t 11))⟩] [2])
      (.ret [2]))
     [1]
     .skip))
   (.seq
    (.reg [⟨(some 12), none, .e (.fad 0 (.t 1))⟩,
      ⟨(some 13), none, .e (.load false 1 (.t 12))⟩,
      ⟨(some 14), none, .e (.bin .add (.t 13) (.c (.str [58])))⟩,
      ⟨(some 15), none, .e (.fad 1 (.t 1))⟩,
      ⟨(some 16), none, .e (.load false 1 (.t 15))⟩,
      ⟨(some 17), none, .e (.bin .add (.t 14) (.t 16))⟩,
      ⟨(some 2), none, .e (.mov (.t 17))⟩] [2])
    (.ret [2]))))
theorem p130 : sight Tryz.prog 130 c130 = some (18, [.t 2], c130) := by kernel_rfl
/-- ballast/res.Name -/
def c131 : AC :=
 (.seq
  (.reg [⟨(some 2), none, .e (.mov (.c (.bool false)))⟩] [0])
  (.seq
   (.reg [⟨(some 3), none, .e (.mov (.t 0))⟩,
     ⟨(some 4), none, .e (.lenS (.t 3))⟩,
     ⟨(some 5), none, .e (.bin .geq (.t 4) (.c (.int .i64 1)))⟩,
     ⟨(some 6), none, .e (.mov (.t 5))⟩,
     ⟨(some 7), (some (6, true)), .e (.mov (.t 0))⟩,
     ⟨(some 8), (some (6, true)), .e (.lenS (.t 7))⟩,
     ⟨(some 9), (some (6, true)), .e (.bin .leq (.t 8) (.c (.int .i64 12)))⟩,
     ⟨(some 10), none, .e (.pick (.t 6) (.t 9) (.c (.bool false)))⟩,
     ⟨(some 11), none, .e (.mov (.t 10))⟩,
     ⟨(some 12), (some (11, true)), .e (.mov (.t 0))⟩,
     ⟨(some 13), (some (11, true)), .callV 152 [(.t 12), (.c (.str [97, 98, 99, 100, 101, 102, 103, 104, 105, 106, 107, 108, 109, 110, 111, 112, 113, 114, 115, 116, 117, 118, 119, 120, 121, 122, 48, 49, 50, 51, 52, 53, 54, 55, 56, 57]))]⟩,
     ⟨(some 14), (some (11, true)), .e (.bin .eql (.t 13) (.c (.str [])))⟩,
     ⟨(some 15), none, .e (.pick (.t 11) (.t 14) (.c (.bool false)))⟩,
     ⟨(some 2), none, .e (.mov (.t 15))⟩] [2])
   (.ret [2])))
theorem p131 : sight Tryz.prog 131 c131 = some (16, [.t 2], c131) := by kernel_rfl
/-- ballast/taint.Check$1 -/
def c133 : AC :=
 (.seq
  (.reg [⟨(some 2), none, .box 3 143 (.t 0)⟩,
    ⟨(some 3), none, .e (.mov (.c (.bool false)))⟩] [1, 2])
  (.seq
   (.reg [⟨(some 4), none, .e (.fad 0 (.t 2))⟩,
     ⟨(some 5), none, .e (.load false 1 (.t 4))⟩,
     ⟨(some 6), none, .e (.fad 0 (.t 1))⟩,
     ⟨(some 7), none, .e (.load false 1 (.t 6))⟩,
     ⟨(some 8), none, .e (.bin .eql (.t 5) (.t 7))⟩,
     ⟨(some 9), none, .e (.mov (.t 8))⟩,
     ⟨(some 10), (some (9, true)), .e (.fad 1 (.t 2))⟩,
     ⟨(some 11), (some (9, true)), .e (.load false 1 (.t 10))⟩,
     ⟨(some 12), (some (9, true)), .e (.fad 1 (.t 1))⟩,
     ⟨(some 13), (some (9, true)), .e (.load false 1 (.t 12))⟩,
     ⟨(some 14), (some (9, true)), .e (.bin .eql (.t 11) (.t 13))⟩,
     ⟨(some 15), none, .e (.pick (.t 9) (.t 14) (.c (.bool false)))⟩,
     ⟨(some 3), none, .e (.mov (.t 15))⟩] [3])
   (.ret [3])))
theorem p133 : sight Tryz.prog 133 c133 = some (16, [.t 3], c133) := by kernel_rfl
/-- ballast/label.Parts[ballast/label.Term] -/
def c135 : AC :=
 (.seq
  (.reg [⟨(some 3), none, .box 1 9 (.t 0)⟩,
    ⟨(some 4), none, .box 1 209 (.t 1)⟩,
    ⟨(some 5), none, .box 1 210 (.t 2)⟩,
    ⟨(some 6), none, .e (.mov (.c .nils))⟩,
    ⟨(some 7), none, .e (.mov (.c (.int .i64 0)))⟩] [3, 4, 5])
  (.seq
   (.seq
    (.reg [⟨(some 10), none, .e (.load false 1 (.t 3))⟩,
      ⟨(some 11), none, .e (.bin .eql (.t 10) (.c (.str [45])))⟩] [3, 4, 5, 11])
    (.cond (.t 11) []
     (.seq
      (.reg [⟨(some 6), none, .e (.mov (.c .nils))⟩,
        ⟨(some 7), none, .e (.mov (.c (.int .i64 0)))⟩] [6, 7])
      (.ret [6, 7]))
     [3, 4, 5]
     .skip))
   (.seq
    (.reg [⟨(some 8), none, .alloc 1 55 .nils⟩] [3, 4, 5, 8])
    (.seq
     (.reg [⟨(some 12), none, .e (.mkf 159 [(.t 3), (.t 8), (.t 4), (.t 5)])⟩,
       ⟨(some 13), none, .call 71 [(.t 12)]⟩,
       ⟨(some 9), none, .e (.mov (.t 13))⟩] [8, 9])
     (.seq
      (.seq
       (.reg [⟨(some 14), none, .e (.mov (.t 9))⟩,
         ⟨(some 15), none, .e (.bin .neq (.t 14) (.c (.int .i64 0)))⟩] [8, 9, 15])
       (.cond (.t 15) [9]
        (.seq
         (.reg [⟨(some 16), none, .e (.mov (.t 9))⟩,
           ⟨(some 6), none, .e (.mov (.c .nils))⟩,
           ⟨(some 7), none, .e (.mov (.t 16))⟩] [6, 7])
         (.ret [6, 7]))
        [8]
        .skip))
      (.seq
       (.reg [⟨(some 17), none, .e (.load false 1 (.t 8))⟩,
         ⟨(some 6), none, .e (.mov (.t 17))⟩,
         ⟨(some 7), none, .e (.mov (.c (.int .i64 0)))⟩] [6, 7])
       (.ret [6, 7])))))))
theorem p135 : sight Tryz.prog 135 c135 = some (18, [.t 6, .t 7], c135) := by kernel_rfl
/-- ballast/label.ParseSel$1 -/
def c136 : AC :=
 (.seq
  (.reg [⟨(some 2), none, .alloc 3 124 (.agg [(.int .i64 0), (.str []), (.str [])])⟩] [0, 2])
  (.seq
   (.reg [⟨(some 13), none, .e (.mov (.t 0))⟩,
     ⟨(some 14), none, .callV 137 [(.t 13), (.c (.str [45]))]⟩,
     ⟨(some 12), none, .e (.mov (.t 14))⟩,
     ⟨(some 15), none, .e (.ext (.t 12) 0)⟩,
     ⟨(some 16), none, .e (.ext (.t 12) 1)⟩,
     ⟨(some 3), none, .e (.mov (.t 15))⟩,
     ⟨(some 4), none, .e (.mov (.t 16))⟩] [0, 2, 3, 4])
   (.seq
    (.seq
     (.reg [⟨(some 17), none, .e (.mov (.t 0))⟩,
       ⟨(some 18), none, .callV 138 [(.t 17)]⟩,
       ⟨(some 5), none, .e (.mov (.t 18))⟩] [0, 2, 3, 4, 5])
     (.seq
      (.reg [⟨(some 19), none, .e (.mov (.t 5))⟩,
        ⟨(some 20), none, .e (.bin .gtr (.t 19) (.c (.int .i64 1)))⟩,
        ⟨(some 21), none, .e (.mov (.t 20))⟩,
        ⟨(some 22), (some (21, false)), .e (.mov (.t 5))⟩,
        ⟨(some 23), (some (21, false)), .e (.bin .gtr (.t 22) (.c (.int .i64 0)))⟩,
        ⟨(some 24), (some (21, false)), .e (.mov (.t 23))⟩,
        ⟨(some 25), (some (24, true)), .e (.mov (.t 4))⟩,
        ⟨(some 26), (some (21, false)), .e (.pick (.t 24) (.t 25) (.c (.bool false)))⟩,
        ⟨(some 27), none, .e (.pick (.t 21) (.c (.bool true)) (.t 26))⟩] [0, 2, 3, 4, 27])
      (.cond (.t 27) [0, 2, 3, 4]
       (.reg [⟨(some 28), none, .callP 74 [(.c (.int .i64 2))]⟩] [0, 2, 3, 4])
       [0, 2, 3, 4]
       .skip)))
    (.seq
     (.seq
      (.reg [⟨(some 29), none, .e (.mov (.t 4))⟩] [0, 2, 3, 29])
      (.cond (.t 29) [2, 3]
       (.seq
        (.reg [⟨(some 30), none, .e (.mov (.t 3))⟩,
          ⟨(some 31), none, .e (.bld [(.int .i64 0), (.str []), (.str [])] [(0, 1, (.c (.int .i64 4))), (1, 1, (.t 30))])⟩,
          ⟨none, none, .store 3 (.t 2) (.t 31)⟩] [2])
        (.ret [2]))
       [0, 2]
       .skip))
     (.seq
      (.seq
       (.reg [⟨(some 33), none, .e (.mov (.t 0))⟩,
         ⟨(some 34), none, .callV 92 [(.t 33), (.c (.str [58]))]⟩,
         ⟨(some 32), none, .e (.mov (.t 34))⟩,
         ⟨(some 35), none, .e (.ext (.t 32) 0)⟩,
         ⟨(some 36), none, .e (.ext (.t 32) 1)⟩,
         ⟨(some 37), none, .e (.ext (.t 32) 2)⟩,
         ⟨(some 6), none, .e (.mov (.t 35))⟩,
         ⟨(some 7), none, .e (.mov (.t 36))⟩,
         ⟨(some 8), none, .e (.mov (.t 37))⟩] [0, 2, 6, 7, 8])
       (.seq
        (.reg [⟨(some 38), none, .e (.mov (.t 8))⟩] [0, 2, 6, 7, 38])
        (.cond (.t 38) [2, 6, 7]
         (.seq
          (.reg [⟨(some 39), none, .e (.mov (.t 6))⟩,
            ⟨(some 40), none, .e (.mov (.t 7))⟩,
            ⟨(some 41), none, .e (.bld [(.int .i64 0), (.str []), (.str [])] [(0, 1, (.c (.int .i64 1))), (1, 1, (.t 39)), (2, 1, (.t 40))])⟩,
            ⟨none, none, .store 3 (.t 2) (.t 41)⟩] [2])
          (.ret [2]))
         [0, 2]
         .skip)))
      (.seq
       (.seq
        (.reg [⟨(some 43), none, .e (.mov (.t 0))⟩,
          ⟨(some 44), none, .callV 92 [(.t 43), (.c (.str [33]))]⟩,
          ⟨(some 42), none, .e (.mov (.t 44))⟩,
          ⟨(some 45), none, .e (.ext (.t 42) 0)⟩,
          ⟨(some 46), none, .e (.ext (.t 42) 1)⟩,
          ⟨(some 47), none, .e (.ext (.t 42) 2)⟩,
          ⟨(some 9), none, .e (.mov (.t 45))⟩,
          ⟨(some 10), none, .e (.mov (.t 46))⟩,
          ⟨(some 11), none, .e (.mov (.t 47))⟩] [0, 2, 9, 10, 11])
        (.seq
         (.reg [⟨(some 48), none, .e (.mov (.t 11))⟩] [0, 2, 9, 10, 48])
         (.cond (.t 48) [2, 9, 10]
          (.seq
           (.reg [⟨(some 49), none, .e (.mov (.t 9))⟩,
             ⟨(some 50), none, .e (.mov (.t 10))⟩,
             ⟨(some 51), none, .e (.bld [(.int .i64 0), (.str []), (.str [])] [(0, 1, (.c (.int .i64 2))), (1, 1, (.t 49)), (2, 1, (.t 50))])⟩,
             ⟨none, none, .store 3 (.t 2) (.t 51)⟩] [2])
           (.ret [2]))
          [0, 2]
          .skip)))
       (.seq
        (.reg [⟨(some 52), none, .e (.mov (.t 0))⟩,
          ⟨(some 53), none, .e (.bld [(.int .i64 0), (.str []), (.str [])] [(0, 1, (.c (.int .i64 3))), (1, 1, (.t 52))])⟩,
          ⟨none, none, .store 3 (.t 2) (.t 53)⟩] [2])
        (.ret [2]))))))))
theorem p136 : sight Tryz.prog 136 c136 = some (54, [.c 2 true 3], c136) := by kernel_rfl
/-- ballast/label.signs -/
def c138 : AC :=
 (.seq
  (.reg [⟨(some 2), none, .e (.mov (.c (.int .i64 0)))⟩] [0])
  (.seq
   (.reg [⟨(some 3), none, .e (.mov (.t 0))⟩,
     ⟨(some 4), none, .callV 149 [(.t 3), (.c (.str [58]))]⟩,
     ⟨(some 5), none, .e (.mov (.t 0))⟩,
     ⟨(some 6), none, .callV 149 [(.t 5), (.c (.str [33]))]⟩,
     ⟨(some 7), none, .e (.bin .add (.t 4) (.t 6))⟩,
     ⟨(some 2), none, .e (.mov (.t 7))⟩] [2])
   (.ret [2])))
theorem p138 : sight Tryz.prog 138 c138 = some (8, [.t 2], c138) := by kernel_rfl
/-- ballast/label.ParseSel$2 -/
def c139 : AC :=
 (.seq
  (.reg [⟨(some 2), none, .e (.mov (.c (.int .i64 0)))⟩] [0])
  (.seq
   (.reg [⟨(some 3), none, .e (.mov (.t 0))⟩,
     ⟨(some 4), none, .callV 102 [(.t 3)]⟩,
     ⟨(some 2), none, .e (.mov (.t 4))⟩] [2])
   (.ret [2])))
theorem p139 : sight Tryz.prog 139 c139 = some (5, [.t 2], c139) := by kernel_rfl
/-- ballast/label.Parts[ballast/taint.Tol] -/
def c140 : AC :=
 (.seq
  (.reg [⟨(some 3), none, .box 1 9 (.t 0)⟩,
    ⟨(some 4), none, .box 1 212 (.t 1)⟩,
    ⟨(some 5), none, .box 1 166 (.t 2)⟩,
    ⟨(some 6), none, .e (.mov (.c .nils))⟩,
    ⟨(some 7), none, .e (.mov (.c (.int .i64 0)))⟩] [3, 4, 5])
  (.seq
   (.seq
    (.reg [⟨(some 10), none, .e (.load false 1 (.t 3))⟩,
      ⟨(some 11), none, .e (.bin .eql (.t 10) (.c (.str [45])))⟩] [3, 4, 5, 11])
    (.cond (.t 11) []
     (.seq
      (.reg [⟨(some 6), none, .e (.mov (.c .nils))⟩,
        ⟨(some 7), none, .e (.mov (.c (.int .i64 0)))⟩] [6, 7])
      (.ret [6, 7]))
     [3, 4, 5]
     .skip))
   (.seq
    (.reg [⟨(some 8), none, .alloc 1 57 .nils⟩] [3, 4, 5, 8])
    (.seq
     (.reg [⟨(some 12), none, .e (.mkf 161 [(.t 3), (.t 8), (.t 4), (.t 5)])⟩,
       ⟨(some 13), none, .call 71 [(.t 12)]⟩,
       ⟨(some 9), none, .e (.mov (.t 13))⟩] [8, 9])
     (.seq
      (.seq
       (.reg [⟨(some 14), none, .e (.mov (.t 9))⟩,
         ⟨(some 15), none, .e (.bin .neq (.t 14) (.c (.int .i64 0)))⟩] [8, 9, 15])
       (.cond (.t 15) [9]
        (.seq
         (.reg [⟨(some 16), none, .e (.mov (.t 9))⟩,
           ⟨(some 6), none, .e (.mov (.c .nils))⟩,
           ⟨(some 7), none, .e (.mov (.t 16))⟩] [6, 7])
         (.ret [6, 7]))
        [8]
        .skip))
      (.seq
       (.reg [⟨(some 17), none, .e (.load false 1 (.t 8))⟩,
         ⟨(some 6), none, .e (.mov (.t 17))⟩,
         ⟨(some 7), none, .e (.mov (.c (.int .i64 0)))⟩] [6, 7])
       (.ret [6, 7])))))))
theorem p140 : sight Tryz.prog 140 c140 = some (18, [.t 6, .t 7], c140) := by kernel_rfl
/-- ballast/taint.ParseTols$1 -/
def c141 : AC :=
 (.seq
  (.reg [⟨(some 2), none, .alloc 3 127 (.agg [(.str []), (.str []), (.bool false)])⟩] [0, 2])
  (.seq
   (.reg [⟨(some 7), none, .e (.mov (.t 0))⟩,
     ⟨(some 8), none, .callV 92 [(.t 7), (.c (.str [58]))]⟩,
     ⟨(some 6), none, .e (.mov (.t 8))⟩,
     ⟨(some 9), none, .e (.ext (.t 6) 0)⟩,
     ⟨(some 10), none, .e (.ext (.t 6) 1)⟩,
     ⟨(some 11), none, .e (.ext (.t 6) 2)⟩,
     ⟨(some 3), none, .e (.mov (.t 9))⟩,
     ⟨(some 4), none, .e (.mov (.t 10))⟩,
     ⟨(some 5), none, .e (.mov (.t 11))⟩] [2, 3, 4, 5])
   (.seq
    (.seq
     (.reg [⟨(some 12), none, .e (.mov (.t 3))⟩,
       ⟨(some 13), none, .e (.bin .eql (.t 12) (.c (.str [])))⟩,
       ⟨(some 14), none, .e (.mov (.t 13))⟩,
       ⟨(some 15), (some (14, false)), .e (.mov (.t 4))⟩,
       ⟨(some 16), (some (14, false)), .callV 124 [(.t 15), (.c (.str [58]))]⟩,
       ⟨(some 17), none, .e (.pick (.t 14) (.c (.bool true)) (.t 16))⟩] [2, 3, 4, 5, 17])
     (.cond (.t 17) [2, 3, 4, 5]
      (.reg [⟨(some 18), none, .callP 74 [(.c (.int .i64 2))]⟩] [2, 3, 4, 5])
      [2, 3, 4, 5]
      .skip))
    (.seq
     (.seq
      (.reg [⟨(some 19), none, .e (.mov (.t 3))⟩,
        ⟨(some 20), none, .e (.bin .eql (.t 19) (.c (.str [42])))⟩] [2, 3, 4, 5, 20])
      (.cond (.t 20) [2, 4, 5]
       (.reg [⟨(some 3), none, .e (.mov (.c (.str [])))⟩] [2, 3, 4, 5])
       [2, 3, 4, 5]
       .skip))
     (.seq
      (.reg [⟨(some 21), none, .e (.mov (.t 3))⟩,
        ⟨(some 22), none, .e (.mov (.t 4))⟩,
        ⟨(some 23), none, .e (.mov (.t 5))⟩,
        ⟨(some 24), none, .e (.un .not (.t 23))⟩,
        ⟨(some 25), none, .e (.bld [(.str []), (.str []), (.bool false)] [(0, 1, (.t 21)), (1, 1, (.t 22)), (2, 1, (.t 24))])⟩,
        ⟨none, none, .store 3 (.t 2) (.t 25)⟩] [2])
      (.ret [2]))))))
theorem p141 : sight Tryz.prog 141 c141 = some (26, [.c 2 true 3], c141) := by kernel_rfl
/-- ballast/pod.within -/
def c144 : AC :=
 (.seq
  (.reg [⟨(some 6), none, .e (.mov (.c (.int .i64 0)))⟩] [0, 1, 2])
  (.seq
   (.seq
    (.reg [⟨(some 7), none, .e (.mov (.t 0))⟩,
      ⟨(some 8), none, .e (.mov (.t 1))⟩,
      ⟨(some 9), none, .e (.bin .lss (.t 7) (.t 8))⟩,
      ⟨(some 10), none, .e (.mov (.t 9))⟩,
      ⟨(some 11), (some (10, false)), .e (.mov (.t 0))⟩,
      ⟨(some 12), (some (10, false)), .e (.mov (.t 2))⟩,
      ⟨(some 13), (some (10, false)), .e (.bin .gtr (.t 11) (.t 12))⟩,
      ⟨(some 14), none, .e (.pick (.t 10) (.c (.bool true)) (.t 13))⟩] [14])
    (.cond (.t 14) []
     (.seq
      (.reg [⟨(some 6), none, .e (.mov (.c (.int .i64 1)))⟩] [6])
      (.ret [6]))
     []
     .skip))
   (.seq
    (.reg [⟨(some 6), none, .e (.mov (.c (.int .i64 0)))⟩] [6])
    (.ret [6]))))
theorem p144 : sight Tryz.prog 144 c144 = some (15, [.t 6], c144) := by kernel_rfl
/-- ballast/label.Parts[ballast/label.Pair]$1 -/
def c154 : AC :=
 (.seq
  (.seq
   (.reg [⟨(some 5), none, .e (.load false 1 (.t 0))⟩,
     ⟨(some 6), none, .call 120 [(.t 5), (.c (.str [44]))]⟩] [1, 2, 3, 6])
   (.block 0
    (.rng [1, 2, 3, 6] (.t 6) [7]
     (.reg [⟨(some 4), none, .e (.mov (.t 7))⟩] [1, 2, 4])
     (.block 1
      (.seq
       (.seq
        (.reg [⟨(some 8), none, .e (.mov (.t 4))⟩,
          ⟨(some 9), none, .e (.bin .eql (.t 8) (.c (.str [])))⟩] [1, 2, 4, 9])
        (.cond (.t 9) [1, 2, 4]
         (.reg [⟨(some 10), none, .callP 74 [(.c (.int .i64 2))]⟩] [1, 2, 4])
         [1, 2, 4]
         .skip))
       (.reg [⟨(some 11), none, .e (.load false 1 (.t 1))⟩,
         ⟨(some 12), none, .e (.load false 1 (.t 2))⟩,
         ⟨(some 13), none, .e (.mov (.t 4))⟩,
         ⟨(some 14), none, .cvalP (.t 12) [(.t 13)]⟩,
         ⟨(some 15), none, .lit 2 [(.t 14)]⟩,
         ⟨(some 16), none, .app 2 121 32 (.t 11) (.t 15)⟩,
         ⟨none, none, .store 1 (.t 1) (.t 16)⟩] []))))))
  (.reg [⟨(some 17), none, .e (.load false 1 (.t 3))⟩,
    ⟨(some 18), none, .e (.load false 1 (.t 1))⟩,
    ⟨(some 19), none, .cvalO (.t 17) [(.t 18)]⟩,
    ⟨(some 20), none, .callP 74 [(.t 19)]⟩] []))
theorem p154 : sight Tryz.prog 154 c154 = some (21, [], c154) := by kernel_rfl
/-- ballast/label.Parts[ballast/taint.Taint]$1 -/
def c155 : AC :=
 (.seq
  (.seq
   (.reg [⟨(some 5), none, .e (.load false 1 (.t 0))⟩,
     ⟨(some 6), none, .call 120 [(.t 5), (.c (.str [44]))]⟩] [1, 2, 3, 6])
   (.block 0
    (.rng [1, 2, 3, 6] (.t 6) [7]
     (.reg [⟨(some 4), none, .e (.mov (.t 7))⟩] [1, 2, 4])
     (.block 1
      (.seq
       (.seq
        (.reg [⟨(some 8), none, .e (.mov (.t 4))⟩,
          ⟨(some 9), none, .e (.bin .eql (.t 8) (.c (.str [])))⟩] [1, 2, 4, 9])
        (.cond (.t 9) [1, 2, 4]
         (.reg [⟨(some 10), none, .callP 74 [(.c (.int .i64 2))]⟩] [1, 2, 4])
         [1, 2, 4]
         .skip))
       (.reg [⟨(some 11), none, .e (.load false 1 (.t 1))⟩,
         ⟨(some 12), none, .e (.load false 1 (.t 2))⟩,
         ⟨(some 13), none, .e (.mov (.t 4))⟩,
         ⟨(some 14), none, .cvalP (.t 12) [(.t 13)]⟩,
         ⟨(some 15), none, .lit 3 [(.t 14)]⟩,
         ⟨(some 16), none, .app 3 143 40 (.t 11) (.t 15)⟩,
         ⟨none, none, .store 1 (.t 1) (.t 16)⟩] []))))))
  (.reg [⟨(some 17), none, .e (.load false 1 (.t 3))⟩,
    ⟨(some 18), none, .e (.load false 1 (.t 1))⟩,
    ⟨(some 19), none, .cvalO (.t 17) [(.t 18)]⟩,
    ⟨(some 20), none, .callP 74 [(.t 19)]⟩] []))
theorem p155 : sight Tryz.prog 155 c155 = some (21, [], c155) := by kernel_rfl
/-- ballast/label.Parts[ballast/label.Term]$1 -/
def c159 : AC :=
 (.seq
  (.seq
   (.reg [⟨(some 5), none, .e (.load false 1 (.t 0))⟩,
     ⟨(some 6), none, .call 120 [(.t 5), (.c (.str [44]))]⟩] [1, 2, 3, 6])
   (.block 0
    (.rng [1, 2, 3, 6] (.t 6) [7]
     (.reg [⟨(some 4), none, .e (.mov (.t 7))⟩] [1, 2, 4])
     (.block 1
      (.seq
       (.seq
        (.reg [⟨(some 8), none, .e (.mov (.t 4))⟩,
          ⟨(some 9), none, .e (.bin .eql (.t 8) (.c (.str [])))⟩] [1, 2, 4, 9])
        (.cond (.t 9) [1, 2, 4]
         (.reg [⟨(some 10), none, .callP 74 [(.c (.int .i64 2))]⟩] [1, 2, 4])
         [1, 2, 4]
         .skip))
       (.reg [⟨(some 11), none, .e (.load false 1 (.t 1))⟩,
         ⟨(some 12), none, .e (.load false 1 (.t 2))⟩,
         ⟨(some 13), none, .e (.mov (.t 4))⟩,
         ⟨(some 14), none, .cvalP (.t 12) [(.t 13)]⟩,
         ⟨(some 15), none, .lit 3 [(.t 14)]⟩,
         ⟨(some 16), none, .app 3 124 40 (.t 11) (.t 15)⟩,
         ⟨none, none, .store 1 (.t 1) (.t 16)⟩] []))))))
  (.reg [⟨(some 17), none, .e (.load false 1 (.t 3))⟩,
    ⟨(some 18), none, .e (.load false 1 (.t 1))⟩,
    ⟨(some 19), none, .cvalO (.t 17) [(.t 18)]⟩,
    ⟨(some 20), none, .callP 74 [(.t 19)]⟩] []))
theorem p159 : sight Tryz.prog 159 c159 = some (21, [], c159) := by kernel_rfl
/-- ballast/label.Parts[ballast/taint.Tol]$1 -/
def c161 : AC :=
 (.seq
  (.seq
   (.reg [⟨(some 5), none, .e (.load false 1 (.t 0))⟩,
     ⟨(some 6), none, .call 120 [(.t 5), (.c (.str [44]))]⟩] [1, 2, 3, 6])
   (.block 0
    (.rng [1, 2, 3, 6] (.t 6) [7]
     (.reg [⟨(some 4), none, .e (.mov (.t 7))⟩] [1, 2, 4])
     (.block 1
      (.seq
       (.seq
        (.reg [⟨(some 8), none, .e (.mov (.t 4))⟩,
          ⟨(some 9), none, .e (.bin .eql (.t 8) (.c (.str [])))⟩] [1, 2, 4, 9])
        (.cond (.t 9) [1, 2, 4]
         (.reg [⟨(some 10), none, .callP 74 [(.c (.int .i64 2))]⟩] [1, 2, 4])
         [1, 2, 4]
         .skip))
       (.reg [⟨(some 11), none, .e (.load false 1 (.t 1))⟩,
         ⟨(some 12), none, .e (.load false 1 (.t 2))⟩,
         ⟨(some 13), none, .e (.mov (.t 4))⟩,
         ⟨(some 14), none, .cvalP (.t 12) [(.t 13)]⟩,
         ⟨(some 15), none, .lit 3 [(.t 14)]⟩,
         ⟨(some 16), none, .app 3 127 40 (.t 11) (.t 15)⟩,
         ⟨none, none, .store 1 (.t 1) (.t 16)⟩] []))))))
  (.reg [⟨(some 17), none, .e (.load false 1 (.t 3))⟩,
    ⟨(some 18), none, .e (.load false 1 (.t 1))⟩,
    ⟨(some 19), none, .cvalO (.t 17) [(.t 18)]⟩,
    ⟨(some 20), none, .callP 74 [(.t 19)]⟩] []))
theorem p161 : sight Tryz.prog 161 c161 = some (21, [], c161) := by kernel_rfl
end Go.Proofs.YtmgoencdjkaobaaGreatDoor
