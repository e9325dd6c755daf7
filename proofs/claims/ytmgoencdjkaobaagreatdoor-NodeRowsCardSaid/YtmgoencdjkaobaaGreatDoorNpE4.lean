/- Functions of the seat as compact code, and that they are so compiled. No conditions. -/
import Derived.Test.YtmgoencdjkaobaaGreatDoorPeI
import Derived.Test.YtmgoencdjkaobaaGreatDoorProg
set_option linter.unusedVariables false
namespace Go.Proofs.YtmgoencdjkaobaaGreatDoor
open Go Go.Pe
/-- strconv.Itoa -/
def c60 : AC :=
 (.seq
  (.reg [⟨(some 2), none, .e (.mov (.c (.str [])))⟩] [0])
  (.seq
   (.reg [⟨(some 3), none, .e (.mov (.t 0))⟩,
     ⟨(some 4), none, .callV 105 [(.t 3)]⟩,
     ⟨(some 2), none, .e (.mov (.t 4))⟩] [2])
   (.ret [2])))
theorem p60 : sight Tryz.prog 60 c60 = some (5, [.t 2], c60) := by kernel_rfl
/-- slices.Equal[ballast/label.Set,ballast/label.Pair] -/
def c68 : AC :=
 (.seq
  (.reg [⟨(some 4), none, .e (.mov (.c (.bool false)))⟩] [0, 1])
  (.seq
   (.seq
    (.reg [⟨(some 6), none, .e (.mov (.t 0))⟩,
      ⟨(some 7), none, .e (.lenL (.t 6))⟩,
      ⟨(some 8), none, .e (.mov (.t 1))⟩,
      ⟨(some 9), none, .e (.lenL (.t 8))⟩,
      ⟨(some 10), none, .e (.bin .neq (.t 7) (.t 9))⟩] [0, 1, 10])
    (.cond (.t 10) []
     (.seq
      (.reg [⟨(some 4), none, .e (.mov (.c (.bool false)))⟩] [4])
      (.ret [4]))
     [0, 1]
     .skip))
   (.seq
    (.seq
     (.reg [⟨(some 11), none, .e (.mov (.t 0))⟩,
       ⟨(some 12), none, .e (.lenL (.t 11))⟩,
       ⟨(some 13), none, .e (.mov (.c (.int .i64 0)))⟩] [0, 1, 12, 13])
     (.block 0
      (.loop [0, 1, 12, 13]
       (.seq
        (.reg [⟨(some 14), none, .e (.bin .lss (.t 13) (.t 12))⟩] [0, 1, 12, 13, 14])
        (.seq
         (.cond (.t 14) [0, 1, 12, 13]
          .skip
          []
          (.exit 0 []))
         (.seq
          (.block 1
           (.seq
            (.reg [⟨(some 15), none, .e (.mov (.t 13))⟩,
              ⟨(some 5), none, .e (.mov (.t 15))⟩] [0, 1, 5, 12, 13])
            (.seq
             (.reg [⟨(some 16), none, .e (.mov (.t 0))⟩,
               ⟨(some 17), none, .e (.mov (.t 5))⟩,
               ⟨(some 18), none, .e (.iad 2 (.t 16) (.t 17))⟩,
               ⟨(some 19), none, .e (.load true 2 (.t 18))⟩,
               ⟨(some 20), none, .e (.mov (.t 1))⟩,
               ⟨(some 21), none, .e (.mov (.t 5))⟩,
               ⟨(some 22), none, .e (.iad 2 (.t 20) (.t 21))⟩,
               ⟨(some 23), none, .e (.load true 2 (.t 22))⟩,
               ⟨(some 24), none, .e (.eqA true [.str, .str] (.t 19) (.t 23))⟩] [0, 1, 12, 13, 24])
             (.cond (.t 24) []
              (.seq
               (.reg [⟨(some 4), none, .e (.mov (.c (.bool false)))⟩] [4])
               (.ret [4]))
              [0, 1, 12, 13]
              .skip))))
          (.reg [⟨(some 25), none, .e (.bin .add (.t 13) (.c (.int .i64 1)))⟩,
            ⟨(some 13), none, .e (.mov (.t 25))⟩] [0, 1, 12, 13])))))))
    (.seq
     (.reg [⟨(some 4), none, .e (.mov (.c (.bool true)))⟩] [4])
     (.ret [4])))))
theorem p68 : sight Tryz.prog 68 c68 = some (26, [.t 4], c68) := by kernel_rfl
/-- slices.Equal[ballast/label.Sel,ballast/label.Term] -/
def c69 : AC :=
 (.seq
  (.reg [⟨(some 4), none, .e (.mov (.c (.bool false)))⟩] [0, 1])
  (.seq
   (.seq
    (.reg [⟨(some 6), none, .e (.mov (.t 0))⟩,
      ⟨(some 7), none, .e (.lenL (.t 6))⟩,
      ⟨(some 8), none, .e (.mov (.t 1))⟩,
      ⟨(some 9), none, .e (.lenL (.t 8))⟩,
      ⟨(some 10), none, .e (.bin .neq (.t 7) (.t 9))⟩] [0, 1, 10])
    (.cond (.t 10) []
     (.seq
      (.reg [⟨(some 4), none, .e (.mov (.c (.bool false)))⟩] [4])
      (.ret [4]))
     [0, 1]
     .skip))
   (.seq
    (.seq
     (.reg [⟨(some 11), none, .e (.mov (.t 0))⟩,
       ⟨(some 12), none, .e (.lenL (.t 11))⟩,
       ⟨(some 13), none, .e (.mov (.c (.int .i64 0)))⟩] [0, 1, 12, 13])
     (.block 0
      (.loop [0, 1, 12, 13]
       (.seq
        (.reg [⟨(some 14), none, .e (.bin .lss (.t 13) (.t 12))⟩] [0, 1, 12, 13, 14])
        (.seq
         (.cond (.t 14) [0, 1, 12, 13]
          .skip
          []
          (.exit 0 []))
         (.seq
          (.block 1
           (.seq
            (.reg [⟨(some 15), none, .e (.mov (.t 13))⟩,
              ⟨(some 5), none, .e (.mov (.t 15))⟩] [0, 1, 5, 12, 13])
            (.seq
             (.reg [⟨(some 16), none, .e (.mov (.t 0))⟩,
               ⟨(some 17), none, .e (.mov (.t 5))⟩,
               ⟨(some 18), none, .e (.iad 3 (.t 16) (.t 17))⟩,
               ⟨(some 19), none, .e (.load true 3 (.t 18))⟩,
               ⟨(some 20), none, .e (.mov (.t 1))⟩,
               ⟨(some 21), none, .e (.mov (.t 5))⟩,
               ⟨(some 22), none, .e (.iad 3 (.t 20) (.t 21))⟩,
               ⟨(some 23), none, .e (.load true 3 (.t 22))⟩,
               ⟨(some 24), none, .e (.eqA true [.int, .str, .str] (.t 19) (.t 23))⟩] [0, 1, 12, 13, 24])
             (.cond (.t 24) []
              (.seq
               (.reg [⟨(some 4), none, .e (.mov (.c (.bool false)))⟩] [4])
               (.ret [4]))
              [0, 1, 12, 13]
              .skip))))
          (.reg [⟨(some 25), none, .e (.bin .add (.t 13) (.c (.int .i64 1)))⟩,
            ⟨(some 13), none, .e (.mov (.t 25))⟩] [0, 1, 12, 13])))))))
    (.seq
     (.reg [⟨(some 4), none, .e (.mov (.c (.bool true)))⟩] [4])
     (.ret [4])))))
theorem p69 : sight Tryz.prog 69 c69 = some (26, [.t 4], c69) := by kernel_rfl
/-- slices.Equal[[]ballast/taint.Tol,ballast/taint.Tol] -/
def c70 : AC :=
 (.seq
  (.reg [⟨(some 4), none, .e (.mov (.c (.bool false)))⟩] [0, 1])
  (.seq
   (.seq
    (.reg [⟨(some 6), none, .e (.mov (.t 0))⟩,
      ⟨(some 7), none, .e (.lenL (.t 6))⟩,
      ⟨(some 8), none, .e (.mov (.t 1))⟩,
      ⟨(some 9), none, .e (.lenL (.t 8))⟩,
      ⟨(some 10), none, .e (.bin .neq (.t 7) (.t 9))⟩] [0, 1, 10])
    (.cond (.t 10) []
     (.seq
      (.reg [⟨(some 4), none, .e (.mov (.c (.bool false)))⟩] [4])
      (.ret [4]))
     [0, 1]
     .skip))
   (.seq
    (.seq
     (.reg [⟨(some 11), none, .e (.mov (.t 0))⟩,
       ⟨(some 12), none, .e (.lenL (.t 11))⟩,
       ⟨(some 13), none, .e (.mov (.c (.int .i64 0)))⟩] [0, 1, 12, 13])
     (.block 0
      (.loop [0, 1, 12, 13]
       (.seq
        (.reg [⟨(some 14), none, .e (.bin .lss (.t 13) (.t 12))⟩] [0, 1, 12, 13, 14])
        (.seq
         (.cond (.t 14) [0, 1, 12, 13]
          .skip
          []
          (.exit 0 []))
         (.seq
          (.block 1
           (.seq
            (.reg [⟨(some 15), none, .e (.mov (.t 13))⟩,
              ⟨(some 5), none, .e (.mov (.t 15))⟩] [0, 1, 5, 12, 13])
            (.seq
             (.reg [⟨(some 16), none, .e (.mov (.t 0))⟩,
               ⟨(some 17), none, .e (.mov (.t 5))⟩,
               ⟨(some 18), none, .e (.iad 3 (.t 16) (.t 17))⟩,
               ⟨(some 19), none, .e (.load true 3 (.t 18))⟩,
               ⟨(some 20), none, .e (.mov (.t 1))⟩,
               ⟨(some 21), none, .e (.mov (.t 5))⟩,
               ⟨(some 22), none, .e (.iad 3 (.t 20) (.t 21))⟩,
               ⟨(some 23), none, .e (.load true 3 (.t 22))⟩,
               ⟨(some 24), none, .e (.eqA true [.str, .str, .bool] (.t 19) (.t 23))⟩] [0, 1, 12, 13, 24])
             (.cond (.t 24) []
              (.seq
               (.reg [⟨(some 4), none, .e (.mov (.c (.bool false)))⟩] [4])
               (.ret [4]))
              [0, 1, 12, 13]
              .skip))))
          (.reg [⟨(some 25), none, .e (.bin .add (.t 13) (.c (.int .i64 1)))⟩,
            ⟨(some 13), none, .e (.mov (.t 25))⟩] [0, 1, 12, 13])))))))
    (.seq
     (.reg [⟨(some 4), none, .e (.mov (.c (.bool true)))⟩] [4])
     (.ret [4])))))
theorem p70 : sight Tryz.prog 70 c70 = some (26, [.t 4], c70) := by kernel_rfl
/-- strings.Split -/
def c73 : AC :=
 (.seq
  (.reg [⟨(some 4), none, .e (.mov (.c .nils))⟩] [0, 1])
  (.seq
   (.reg [⟨(some 5), none, .e (.mov (.t 0))⟩,
     ⟨(some 6), none, .e (.mov (.t 1))⟩,
     ⟨(some 7), none, .callV 118 [(.t 5), (.t 6), (.c (.int .i64 0)), (.c (.int .i64 (-1)))]⟩,
     ⟨(some 4), none, .e (.mov (.t 7))⟩] [4])
   (.ret [4])))
theorem p73 : sight Tryz.prog 73 c73 = some (8, [.t 4], c73) := by kernel_rfl
/-- slices.Equal[[]ballast/taint.Taint,ballast/taint.Taint] -/
def c82 : AC :=
 (.seq
  (.reg [⟨(some 4), none, .e (.mov (.c (.bool false)))⟩] [0, 1])
  (.seq
   (.seq
    (.reg [⟨(some 6), none, .e (.mov (.t 0))⟩,
      ⟨(some 7), none, .e (.lenL (.t 6))⟩,
      ⟨(some 8), none, .e (.mov (.t 1))⟩,
      ⟨(some 9), none, .e (.lenL (.t 8))⟩,
      ⟨(some 10), none, .e (.bin .neq (.t 7) (.t 9))⟩] [0, 1, 10])
    (.cond (.t 10) []
     (.seq
      (.reg [⟨(some 4), none, .e (.mov (.c (.bool false)))⟩] [4])
      (.ret [4]))
     [0, 1]
     .skip))
   (.seq
    (.seq
     (.reg [⟨(some 11), none, .e (.mov (.t 0))⟩,
       ⟨(some 12), none, .e (.lenL (.t 11))⟩,
       ⟨(some 13), none, .e (.mov (.c (.int .i64 0)))⟩] [0, 1, 12, 13])
     (.block 0
      (.loop [0, 1, 12, 13]
       (.seq
        (.reg [⟨(some 14), none, .e (.bin .lss (.t 13) (.t 12))⟩] [0, 1, 12, 13, 14])
        (.seq
         (.cond (.t 14) [0, 1, 12, 13]
          .skip
          []
          (.exit 0 []))
         (.seq
          (.block 1
           (.seq
            (.reg [⟨(some 15), none, .e (.mov (.t 13))⟩,
              ⟨(some 5), none, .e (.mov (.t 15))⟩] [0, 1, 5, 12, 13])
            (.seq
             (.reg [⟨(some 16), none, .e (.mov (.t 0))⟩,
               ⟨(some 17), none, .e (.mov (.t 5))⟩,
               ⟨(some 18), none, .e (.iad 3 (.t 16) (.t 17))⟩,
               ⟨(some 19), none, .e (.load true 3 (.t 18))⟩,
               ⟨(some 20), none, .e (.mov (.t 1))⟩,
               ⟨(some 21), none, .e (.mov (.t 5))⟩,
               ⟨(some 22), none, .e (.iad 3 (.t 20) (.t 21))⟩,
               ⟨(some 23), none, .e (.load true 3 (.t 22))⟩,
               ⟨(some 24), none, .e (.eqA true [.str, .str, .bool] (.t 19) (.t 23))⟩] [0, 1, 12, 13, 24])
             (.cond (.t 24) []
              (.seq
               (.reg [⟨(some 4), none, .e (.mov (.c (.bool false)))⟩] [4])
               (.ret [4]))
              [0, 1, 12, 13]
              .skip))))
          (.reg [⟨(some 25), none, .e (.bin .add (.t 13) (.c (.int .i64 1)))⟩,
            ⟨(some 13), none, .e (.mov (.t 25))⟩] [0, 1, 12, 13])))))))
    (.seq
     (.reg [⟨(some 4), none, .e (.mov (.c (.bool true)))⟩] [4])
     (.ret [4])))))
theorem p82 : sight Tryz.prog 82 c82 = some (26, [.t 4], c82) := by kernel_rfl
/-- strings.Cut -/
def c92 : AC :=
 (.seq
  (.reg [⟨(some 4), none, .e (.mov (.c (.str [])))⟩,
    ⟨(some 5), none, .e (.mov (.c (.str [])))⟩,
    ⟨(some 6), none, .e (.mov (.c (.bool false)))⟩] [0, 1])
  (.seq
   (.reg [⟨(some 7), none, .e (.mov (.t 0))⟩,
     ⟨(some 8), none, .e (.mov (.t 1))⟩,
     ⟨(some 9), none, .callV 134 [(.t 7), (.t 8)]⟩,
     ⟨(some 10), none, .e (.ext (.t 9) 0)⟩,
     ⟨(some 11), none, .e (.ext (.t 9) 1)⟩,
     ⟨(some 12), none, .e (.ext (.t 9) 2)⟩,
     ⟨(some 4), none, .e (.mov (.t 10))⟩,
     ⟨(some 5), none, .e (.mov (.t 11))⟩,
     ⟨(some 6), none, .e (.mov (.t 12))⟩] [4, 5, 6])
   (.ret [4, 5, 6])))
theorem p92 : sight Tryz.prog 92 c92 = some (13, [.t 4, .t 5, .t 6], c92) := by kernel_rfl
/-- cmp.Or[int] -/
def c97 : AC :=
 (.seq
  (.reg [⟨(some 2), none, .e (.mov (.c (.int .i64 0)))⟩] [0])
  (.seq
   (.reg [⟨(some 3), none, .e (.mov (.c (.int .i64 0)))⟩] [0, 3])
   (.seq
    (.seq
     (.reg [⟨(some 6), none, .e (.mov (.t 0))⟩,
       ⟨(some 7), none, .e (.lenL (.t 6))⟩,
       ⟨(some 8), none, .e (.mov (.c (.int .i64 0)))⟩] [3, 6, 7, 8])
     (.block 0
      (.loop [3, 6, 7, 8]
       (.seq
        (.reg [⟨(some 9), none, .e (.bin .lss (.t 8) (.t 7))⟩] [3, 6, 7, 8, 9])
        (.seq
         (.cond (.t 9) [3, 6, 7, 8]
          .skip
          [3]
          (.exit 0 [3]))
         (.seq
          (.block 1
           (.seq
            (.reg [⟨(some 10), none, .e (.iad 1 (.t 6) (.t 8))⟩,
              ⟨(some 11), none, .e (.load false 1 (.t 10))⟩,
              ⟨(some 5), none, .e (.mov (.t 11))⟩] [3, 5, 6, 7, 8])
            (.seq
             (.reg [⟨(some 12), none, .e (.mov (.t 5))⟩,
               ⟨(some 13), none, .e (.mov (.t 3))⟩,
               ⟨(some 14), none, .e (.bin .neq (.t 12) (.t 13))⟩] [3, 5, 6, 7, 8, 14])
             (.cond (.t 14) [5]
              (.seq
               (.reg [⟨(some 15), none, .e (.mov (.t 5))⟩,
                 ⟨(some 2), none, .e (.mov (.t 15))⟩] [2])
               (.ret [2]))
              [3, 6, 7, 8]
              .skip))))
          (.reg [⟨(some 16), none, .e (.bin .add (.t 8) (.c (.int .i64 1)))⟩,
            ⟨(some 8), none, .e (.mov (.t 16))⟩] [3, 6, 7, 8])))))))
    (.seq
     (.reg [⟨(some 17), none, .e (.mov (.t 3))⟩,
       ⟨(some 2), none, .e (.mov (.t 17))⟩] [2])
     (.ret [2])))))
theorem p97 : sight Tryz.prog 97 c97 = some (18, [.t 2], c97) := by kernel_rfl
/-- cmp.Compare[int] -/
def c98 : AC :=
 (.seq
  (.reg [⟨(some 4), none, .e (.mov (.c (.int .i64 0)))⟩] [0, 1])
  (.seq
   (.reg [⟨(some 7), none, .e (.mov (.t 0))⟩,
     ⟨(some 8), none, .callV 142 [(.t 7)]⟩,
     ⟨(some 5), none, .e (.mov (.t 8))⟩] [0, 1, 5])
   (.seq
    (.reg [⟨(some 9), none, .e (.mov (.t 1))⟩,
      ⟨(some 10), none, .callV 142 [(.t 9)]⟩,
      ⟨(some 6), none, .e (.mov (.t 10))⟩] [0, 1, 5, 6])
    (.seq
     (.seq
      (.reg [⟨(some 11), none, .e (.mov (.t 5))⟩] [0, 1, 6, 11])
      (.cond (.t 11) [6]
       (.seq
        (.seq
         (.reg [⟨(some 12), none, .e (.mov (.t 6))⟩] [12])
         (.cond (.t 12) []
          (.seq
           (.reg [⟨(some 4), none, .e (.mov (.c (.int .i64 0)))⟩] [4])
           (.ret [4]))
          []
          .skip))
        (.seq
         (.reg [⟨(some 4), none, .e (.mov (.c (.int .i64 (-1))))⟩] [4])
         (.ret [4])))
       [0, 1, 6]
       .skip))
     (.seq
      (.seq
       (.reg [⟨(some 13), none, .e (.mov (.t 6))⟩] [0, 1, 13])
       (.cond (.t 13) []
        (.seq
         (.reg [⟨(some 4), none, .e (.mov (.c (.int .i64 1)))⟩] [4])
         (.ret [4]))
        [0, 1]
        .skip))
      (.seq
       (.seq
        (.reg [⟨(some 14), none, .e (.mov (.t 0))⟩,
          ⟨(some 15), none, .e (.mov (.t 1))⟩,
          ⟨(some 16), none, .e (.bin .lss (.t 14) (.t 15))⟩] [0, 1, 16])
        (.cond (.t 16) []
         (.seq
          (.reg [⟨(some 4), none, .e (.mov (.c (.int .i64 (-1))))⟩] [4])
          (.ret [4]))
         [0, 1]
         .skip))
       (.seq
        (.seq
         (.reg [⟨(some 17), none, .e (.mov (.t 0))⟩,
           ⟨(some 18), none, .e (.mov (.t 1))⟩,
           ⟨(some 19), none, .e (.bin .gtr (.t 17) (.t 18))⟩] [19])
         (.cond (.t 19) []
          (.seq
           (.reg [⟨(some 4), none, .e (.mov (.c (.int .i64 1)))⟩] [4])
           (.ret [4]))
          []
          .skip))
        (.seq
         (.reg [⟨(some 4), none, .e (.mov (.c (.int .i64 0)))⟩] [4])
         (.ret [4])))))))))
theorem p98 : sight Tryz.prog 98 c98 = some (20, [.t 4], c98) := by kernel_rfl
/-- strings.Compare -/
def c99 : AC :=
 (.seq
  (.reg [⟨(some 4), none, .e (.mov (.c (.int .i64 0)))⟩] [0, 1])
  (.seq
   (.reg [⟨(some 5), none, .e (.mov (.t 0))⟩,
     ⟨(some 6), none, .e (.mov (.t 1))⟩,
     ⟨(some 7), none, .callV 143 [(.t 5), (.t 6)]⟩,
     ⟨(some 4), none, .e (.mov (.t 7))⟩] [4])
   (.ret [4])))
theorem p99 : sight Tryz.prog 99 c99 = some (8, [.t 4], c99) := by kernel_rfl
/-- internal/strconv.Itoa -/
def c105 : AC :=
 (.seq
  (.reg [⟨(some 2), none, .e (.mov (.c (.str [])))⟩] [0])
  (.seq
   (.reg [⟨(some 3), none, .e (.mov (.t 0))⟩,
     ⟨(some 4), none, .callV 145 [(.t 3), (.c (.int .i64 10))]⟩,
     ⟨(some 2), none, .e (.mov (.t 4))⟩] [2])
   (.ret [2])))
theorem p105 : sight Tryz.prog 105 c105 = some (5, [.t 2], c105) := by kernel_rfl
/-- strconv.FormatInt -/
def c109 : AC :=
 (.seq
  (.reg [⟨(some 4), none, .e (.mov (.c (.str [])))⟩] [0, 1])
  (.seq
   (.reg [⟨(some 5), none, .e (.mov (.t 0))⟩,
     ⟨(some 6), none, .e (.mov (.t 1))⟩,
     ⟨(some 7), none, .callV 145 [(.t 5), (.t 6)]⟩,
     ⟨(some 4), none, .e (.mov (.t 7))⟩] [4])
   (.ret [4])))
theorem p109 : sight Tryz.prog 109 c109 = some (8, [.t 4], c109) := by kernel_rfl
/-- slices.Equal[ballast/res.Vec,ballast/res.Amount] -/
def c116 : AC :=
 (.seq
  (.reg [⟨(some 4), none, .e (.mov (.c (.bool false)))⟩] [0, 1])
  (.seq
   (.seq
    (.reg [⟨(some 6), none, .e (.mov (.t 0))⟩,
      ⟨(some 7), none, .e (.lenL (.t 6))⟩,
      ⟨(some 8), none, .e (.mov (.t 1))⟩,
      ⟨(some 9), none, .e (.lenL (.t 8))⟩,
      ⟨(some 10), none, .e (.bin .neq (.t 7) (.t 9))⟩] [0, 1, 10])
    (.cond (.t 10) []
     (.seq
      (.reg [⟨(some 4), none, .e (.mov (.c (.bool false)))⟩] [4])
      (.ret [4]))
     [0, 1]
     .skip))
   (.seq
    (.seq
     (.reg [⟨(some 11), none, .e (.mov (.t 0))⟩,
       ⟨(some 12), none, .e (.lenL (.t 11))⟩,
       ⟨(some 13), none, .e (.mov (.c (.int .i64 0)))⟩] [0, 1, 12, 13])
     (.block 0
      (.loop [0, 1, 12, 13]
       (.seq
        (.reg [⟨(some 14), none, .e (.bin .lss (.t 13) (.t 12))⟩] [0, 1, 12, 13, 14])
        (.seq
         (.cond (.t 14) [0, 1, 12, 13]
          .skip
          []
          (.exit 0 []))
         (.seq
          (.block 1
           (.seq
            (.reg [⟨(some 15), none, .e (.mov (.t 13))⟩,
              ⟨(some 5), none, .e (.mov (.t 15))⟩] [0, 1, 5, 12, 13])
            (.seq
             (.reg [⟨(some 16), none, .e (.mov (.t 0))⟩,
               ⟨(some 17), none, .e (.mov (.t 5))⟩,
               ⟨(some 18), none, .e (.iad 2 (.t 16) (.t 17))⟩,
               ⟨(some 19), none, .e (.load true 2 (.t 18))⟩,
               ⟨(some 20), none, .e (.mov (.t 1))⟩,
               ⟨(some 21), none, .e (.mov (.t 5))⟩,
               ⟨(some 22), none, .e (.iad 2 (.t 20) (.t 21))⟩,
               ⟨(some 23), none, .e (.load true 2 (.t 22))⟩,
               ⟨(some 24), none, .e (.eqA true [.str, .int] (.t 19) (.t 23))⟩] [0, 1, 12, 13, 24])
             (.cond (.t 24) []
              (.seq
               (.reg [⟨(some 4), none, .e (.mov (.c (.bool false)))⟩] [4])
               (.ret [4]))
              [0, 1, 12, 13]
              .skip))))
          (.reg [⟨(some 25), none, .e (.bin .add (.t 13) (.c (.int .i64 1)))⟩,
            ⟨(some 13), none, .e (.mov (.t 25))⟩] [0, 1, 12, 13])))))))
    (.seq
     (.reg [⟨(some 4), none, .e (.mov (.c (.bool true)))⟩] [4])
     (.ret [4])))))
theorem p116 : sight Tryz.prog 116 c116 = some (26, [.t 4], c116) := by kernel_rfl
/-- strings.SplitSeq -/
def c120 : AC :=
 (.seq
  (.reg [⟨(some 4), none, .e (.mov (.c .nilf))⟩] [0, 1])
  (.seq
   (.reg [⟨(some 5), none, .e (.mov (.t 0))⟩,
     ⟨(some 6), none, .e (.mov (.t 1))⟩,
     ⟨(some 7), none, .call 151 [(.t 5), (.t 6), (.c (.int .i64 0))]⟩,
     ⟨(some 4), none, .e (.mov (.t 7))⟩] [4])
   (.ret [4])))
theorem p120 : sight Tryz.prog 120 c120 = some (8, [.t 4], c120) := by kernel_rfl
/-- strings.Contains -/
def c124 : AC :=
 (.seq
  (.reg [⟨(some 4), none, .e (.mov (.c (.bool false)))⟩] [0, 1])
  (.seq
   (.reg [⟨(some 5), none, .e (.mov (.t 0))⟩,
     ⟨(some 6), none, .e (.mov (.t 1))⟩,
     ⟨(some 7), none, .callV 150 [(.t 5), (.t 6)]⟩,
     ⟨(some 8), none, .e (.bin .geq (.t 7) (.c (.int .i64 0)))⟩,
     ⟨(some 4), none, .e (.mov (.t 8))⟩] [4])
   (.ret [4])))
theorem p124 : sight Tryz.prog 124 c124 = some (9, [.t 4], c124) := by kernel_rfl
/-- strings.CutSuffix -/
def c128 : AC :=
 (.seq
  (.reg [⟨(some 4), none, .e (.mov (.c (.str [])))⟩,
    ⟨(some 5), none, .e (.mov (.c (.bool false)))⟩] [0, 1])
  (.seq
   (.reg [⟨(some 6), none, .e (.mov (.t 0))⟩,
     ⟨(some 7), none, .e (.mov (.t 1))⟩,
     ⟨(some 8), none, .callV 156 [(.t 6), (.t 7)]⟩,
     ⟨(some 9), none, .e (.ext (.t 8) 0)⟩,
     ⟨(some 10), none, .e (.ext (.t 8) 1)⟩,
     ⟨(some 4), none, .e (.mov (.t 9))⟩,
     ⟨(some 5), none, .e (.mov (.t 10))⟩] [4, 5])
   (.ret [4, 5])))
theorem p128 : sight Tryz.prog 128 c128 = some (11, [.t 4, .t 5], c128) := by kernel_rfl
/-- slices.ContainsFunc[[]ballast/taint.Taint,ballast/taint.Taint] -/
def c132 : AC :=
 (.seq
  (.reg [⟨(some 4), none, .e (.mov (.c (.bool false)))⟩] [0, 1])
  (.seq
   (.reg [⟨(some 5), none, .e (.mov (.t 0))⟩,
     ⟨(some 6), none, .e (.mov (.t 1))⟩,
     ⟨(some 7), none, .callV 157 [(.t 5), (.t 6)]⟩,
     ⟨(some 8), none, .e (.bin .geq (.t 7) (.c (.int .i64 0)))⟩,
     ⟨(some 4), none, .e (.mov (.t 8))⟩] [4])
   (.ret [4])))
theorem p132 : sight Tryz.prog 132 c132 = some (9, [.t 4], c132) := by kernel_rfl
/-- internal/stringslite.Cut -/
def c134 : AC :=
 (.seq
  (.reg [⟨(some 4), none, .e (.mov (.c (.str [])))⟩,
    ⟨(some 5), none, .e (.mov (.c (.str [])))⟩,
    ⟨(some 6), none, .e (.mov (.c (.bool false)))⟩] [0, 1])
  (.seq
   (.seq
    (.reg [⟨(some 8), none, .e (.mov (.t 0))⟩,
      ⟨(some 9), none, .e (.mov (.t 1))⟩,
      ⟨(some 10), none, .callV 158 [(.t 8), (.t 9)]⟩,
      ⟨(some 7), none, .e (.mov (.t 10))⟩] [0, 1, 7])
    (.seq
     (.reg [⟨(some 11), none, .e (.mov (.t 7))⟩,
       ⟨(some 12), none, .e (.bin .geq (.t 11) (.c (.int .i64 0)))⟩] [0, 1, 7, 12])
     (.cond (.t 12) [0, 1, 7]
      (.seq
       (.reg [⟨(some 13), none, .e (.mov (.t 0))⟩,
         ⟨(some 14), none, .e (.mov (.t 7))⟩,
         ⟨(some 15), none, .e (.slS (.t 13) none (some (.t 14)))⟩,
         ⟨(some 16), none, .e (.mov (.t 0))⟩,
         ⟨(some 17), none, .e (.mov (.t 7))⟩,
         ⟨(some 18), none, .e (.mov (.t 1))⟩,
         ⟨(some 19), none, .e (.lenS (.t 18))⟩,
         ⟨(some 20), none, .e (.bin .add (.t 17) (.t 19))⟩,
         ⟨(some 21), none, .e (.slS (.t 16) (some (.t 20)) none)⟩,
         ⟨(some 4), none, .e (.mov (.t 15))⟩,
         ⟨(some 5), none, .e (.mov (.t 21))⟩,
         ⟨(some 6), none, .e (.mov (.c (.bool true)))⟩] [4, 5, 6])
       (.ret [4, 5, 6]))
      [0]
      .skip)))
   (.seq
    (.reg [⟨(some 22), none, .e (.mov (.t 0))⟩,
      ⟨(some 4), none, .e (.mov (.t 22))⟩,
      ⟨(some 5), none, .e (.mov (.c (.str [])))⟩,
      ⟨(some 6), none, .e (.mov (.c (.bool false)))⟩] [4, 5, 6])
    (.ret [4, 5, 6]))))
theorem p134 : sight Tryz.prog 134 c134 = some (23, [.t 4, .t 5, .t 6], c134) := by kernel_rfl
/-- strings.CutPrefix -/
def c137 : AC :=
 (.seq
  (.reg [⟨(some 4), none, .e (.mov (.c (.str [])))⟩,
    ⟨(some 5), none, .e (.mov (.c (.bool false)))⟩] [0, 1])
  (.seq
   (.reg [⟨(some 6), none, .e (.mov (.t 0))⟩,
     ⟨(some 7), none, .e (.mov (.t 1))⟩,
     ⟨(some 8), none, .callV 160 [(.t 6), (.t 7)]⟩,
     ⟨(some 9), none, .e (.ext (.t 8) 0)⟩,
     ⟨(some 10), none, .e (.ext (.t 8) 1)⟩,
     ⟨(some 4), none, .e (.mov (.t 9))⟩,
     ⟨(some 5), none, .e (.mov (.t 10))⟩] [4, 5])
   (.ret [4, 5])))
theorem p137 : sight Tryz.prog 137 c137 = some (11, [.t 4, .t 5], c137) := by kernel_rfl
/-- cmp.isNaN[int] -/
def c142 : AC :=
 (.seq
  (.reg [⟨(some 2), none, .e (.mov (.c (.bool false)))⟩] [0])
  (.seq
   (.reg [⟨(some 3), none, .e (.mov (.t 0))⟩,
     ⟨(some 4), none, .e (.mov (.t 0))⟩,
     ⟨(some 5), none, .e (.bin .neq (.t 3) (.t 4))⟩,
     ⟨(some 2), none, .e (.mov (.t 5))⟩] [2])
   (.ret [2])))
theorem p142 : sight Tryz.prog 142 c142 = some (6, [.t 2], c142) := by kernel_rfl
/-- strings.Index -/
def c150 : AC :=
 (.seq
  (.reg [⟨(some 4), none, .e (.mov (.c (.int .i64 0)))⟩] [0, 1])
  (.seq
   (.reg [⟨(some 5), none, .e (.mov (.t 0))⟩,
     ⟨(some 6), none, .e (.mov (.t 1))⟩,
     ⟨(some 7), none, .callV 158 [(.t 5), (.t 6)]⟩,
     ⟨(some 4), none, .e (.mov (.t 7))⟩] [4])
   (.ret [4])))
theorem p150 : sight Tryz.prog 150 c150 = some (8, [.t 4], c150) := by kernel_rfl
/-- strings.splitSeq -/
def c151 : AC :=
 (.seq
  (.reg [⟨(some 3), none, .box 1 9 (.t 0)⟩,
    ⟨(some 4), none, .box 1 9 (.t 1)⟩,
    ⟨(some 5), none, .box 1 3 (.t 2)⟩,
    ⟨(some 6), none, .e (.mov (.c .nilf))⟩] [3, 4, 5])
  (.seq
   (.reg [⟨(some 7), none, .e (.mkf 172 [(.t 4), (.t 3), (.t 5)])⟩,
     ⟨(some 6), none, .e (.mov (.t 7))⟩] [6])
   (.ret [6])))
theorem p151 : sight Tryz.prog 151 c151 = some (8, [.t 6], c151) := by kernel_rfl
/-- strconv.ParseInt -/
def c153 : AC :=
 (.seq
  (.reg [⟨(some 6), none, .e (.mov (.c (.int .i64 0)))⟩,
    ⟨(some 7), none, .e (.mov (.c .nili))⟩] [0, 1, 2])
  (.seq
   (.reg [⟨(some 10), none, .e (.mov (.t 0))⟩,
     ⟨(some 11), none, .e (.mov (.t 1))⟩,
     ⟨(some 12), none, .e (.mov (.t 2))⟩,
     ⟨(some 13), none, .callV 180 [(.t 10), (.t 11), (.t 12)]⟩,
     ⟨(some 9), none, .e (.mov (.t 13))⟩,
     ⟨(some 14), none, .e (.ext (.t 9) 0)⟩,
     ⟨(some 15), none, .e (.ext (.t 9) 1)⟩,
     ⟨(some 8), none, .e (.mov (.t 14))⟩,
     ⟨(some 7), none, .e (.mov (.t 15))⟩] [0, 1, 2, 7, 8])
   (.seq
    (.seq
     (.reg [⟨(some 16), none, .e (.mov (.t 7))⟩,
       ⟨(some 17), none, .e (.isN true .i (.t 16))⟩] [0, 1, 2, 7, 8, 17])
     (.cond (.t 17) [0, 1, 2, 7, 8]
      (.seq
       (.reg [⟨(some 18), none, .e (.mov (.t 8))⟩,
         ⟨(some 19), none, .e (.mov (.t 0))⟩,
         ⟨(some 20), none, .e (.mov (.t 1))⟩,
         ⟨(some 21), none, .e (.mov (.t 2))⟩,
         ⟨(some 22), none, .e (.mov (.t 7))⟩,
         ⟨(some 23), none, .callV 181 [(.c (.str [80, 97, 114, 115, 101, 73, 110, 116])), (.t 19), (.t 20), (.t 21), (.t 22)]⟩,
         ⟨(some 6), none, .e (.mov (.t 18))⟩,
         ⟨(some 7), none, .e (.mov (.t 23))⟩] [6, 7])
       (.ret [6, 7]))
      [8]
      .skip))
    (.seq
     (.reg [⟨(some 24), none, .e (.mov (.t 8))⟩,
       ⟨(some 6), none, .e (.mov (.t 24))⟩,
       ⟨(some 7), none, .e (.mov (.c .nili))⟩] [6, 7])
     (.ret [6, 7])))))
theorem p153 : sight Tryz.prog 153 c153 = some (25, [.t 6, .t 7], c153) := by kernel_rfl
/-- internal/stringslite.CutSuffix -/
def c156 : AC :=
 (.seq
  (.reg [⟨(some 4), none, .e (.mov (.c (.str [])))⟩,
    ⟨(some 5), none, .e (.mov (.c (.bool false)))⟩] [0, 1])
  (.seq
   (.seq
    (.reg [⟨(some 6), none, .e (.mov (.t 0))⟩,
      ⟨(some 7), none, .e (.mov (.t 1))⟩,
      ⟨(some 8), none, .callV 182 [(.t 6), (.t 7)]⟩,
      ⟨(some 9), none, .e (.un .not (.t 8))⟩] [0, 1, 9])
    (.cond (.t 9) [0]
     (.seq
      (.reg [⟨(some 10), none, .e (.mov (.t 0))⟩,
        ⟨(some 4), none, .e (.mov (.t 10))⟩,
        ⟨(some 5), none, .e (.mov (.c (.bool false)))⟩] [4, 5])
      (.ret [4, 5]))
     [0, 1]
     .skip))
   (.seq
    (.reg [⟨(some 11), none, .e (.mov (.t 0))⟩,
      ⟨(some 12), none, .e (.mov (.t 0))⟩,
      ⟨(some 13), none, .e (.lenS (.t 12))⟩,
      ⟨(some 14), none, .e (.mov (.t 1))⟩,
      ⟨(some 15), none, .e (.lenS (.t 14))⟩,
      ⟨(some 16), none, .e (.bin .sub (.t 13) (.t 15))⟩,
      ⟨(some 17), none, .e (.slS (.t 11) none (some (.t 16)))⟩,
      ⟨(some 4), none, .e (.mov (.t 17))⟩,
      ⟨(some 5), none, .e (.mov (.c (.bool true)))⟩] [4, 5])
    (.ret [4, 5]))))
theorem p156 : sight Tryz.prog 156 c156 = some (18, [.t 4, .t 5], c156) := by kernel_rfl
/-- slices.IndexFunc[[]ballast/taint.Taint,ballast/taint.Taint] -/
def c157 : AC :=
 (.seq
  (.reg [⟨(some 4), none, .e (.mov (.c (.int .i64 0)))⟩] [0, 1])
  (.seq
   (.seq
    (.reg [⟨(some 6), none, .e (.mov (.t 0))⟩,
      ⟨(some 7), none, .e (.lenL (.t 6))⟩,
      ⟨(some 8), none, .e (.mov (.c (.int .i64 0)))⟩] [0, 1, 7, 8])
    (.block 0
     (.loop [0, 1, 7, 8]
      (.seq
       (.reg [⟨(some 9), none, .e (.bin .lss (.t 8) (.t 7))⟩] [0, 1, 7, 8, 9])
       (.seq
        (.cond (.t 9) [0, 1, 7, 8]
         .skip
         []
         (.exit 0 []))
        (.seq
         (.block 1
          (.seq
           (.reg [⟨(some 10), none, .e (.mov (.t 8))⟩,
             ⟨(some 5), none, .e (.mov (.t 10))⟩] [0, 1, 5, 7, 8])
           (.seq
            (.reg [⟨(some 11), none, .e (.mov (.t 1))⟩,
              ⟨(some 12), none, .e (.mov (.t 0))⟩,
              ⟨(some 13), none, .e (.mov (.t 5))⟩,
              ⟨(some 14), none, .e (.iad 3 (.t 12) (.t 13))⟩,
              ⟨(some 15), none, .e (.load true 3 (.t 14))⟩,
              ⟨(some 16), none, .cvalV (.t 11) [(.t 15)]⟩] [0, 1, 5, 7, 8, 16])
            (.cond (.t 16) [5]
             (.seq
              (.reg [⟨(some 17), none, .e (.mov (.t 5))⟩,
                ⟨(some 4), none, .e (.mov (.t 17))⟩] [4])
              (.ret [4]))
             [0, 1, 7, 8]
             .skip))))
         (.reg [⟨(some 18), none, .e (.bin .add (.t 8) (.c (.int .i64 1)))⟩,
           ⟨(some 8), none, .e (.mov (.t 18))⟩] [0, 1, 7, 8])))))))
   (.seq
    (.reg [⟨(some 4), none, .e (.mov (.c (.int .i64 (-1))))⟩] [4])
    (.ret [4]))))
theorem p157 : sight Tryz.prog 157 c157 = some (19, [.t 4], c157) := by kernel_rfl
/-- internal/stringslite.CutPrefix -/
def c160 : AC :=
 (.seq
  (.reg [⟨(some 4), none, .e (.mov (.c (.str [])))⟩,
    ⟨(some 5), none, .e (.mov (.c (.bool false)))⟩] [0, 1])
  (.seq
   (.seq
    (.reg [⟨(some 6), none, .e (.mov (.t 0))⟩,
      ⟨(some 7), none, .e (.mov (.t 1))⟩,
      ⟨(some 8), none, .callV 187 [(.t 6), (.t 7)]⟩,
      ⟨(some 9), none, .e (.un .not (.t 8))⟩] [0, 1, 9])
    (.cond (.t 9) [0]
     (.seq
      (.reg [⟨(some 10), none, .e (.mov (.t 0))⟩,
        ⟨(some 4), none, .e (.mov (.t 10))⟩,
        ⟨(some 5), none, .e (.mov (.c (.bool false)))⟩] [4, 5])
      (.ret [4, 5]))
     [0, 1]
     .skip))
   (.seq
    (.reg [⟨(some 11), none, .e (.mov (.t 0))⟩,
      ⟨(some 12), none, .e (.mov (.t 1))⟩,
      ⟨(some 13), none, .e (.lenS (.t 12))⟩,
      ⟨(some 14), none, .e (.slS (.t 11) (some (.t 13)) none)⟩,
      ⟨(some 4), none, .e (.mov (.t 14))⟩,
      ⟨(some 5), none, .e (.mov (.c (.bool true)))⟩] [4, 5])
    (.ret [4, 5]))))
theorem p160 : sight Tryz.prog 160 c160 = some (15, [.t 4, .t 5], c160) := by kernel_rfl
/-- strings.splitSeq$1 -/
def c172 : AC :=
 (.seq
  (.seq
   (.reg [⟨(some 9), none, .e (.load false 1 (.t 1))⟩,
     ⟨(some 10), none, .e (.lenS (.t 9))⟩,
     ⟨(some 11), none, .e (.bin .eql (.t 10) (.c (.int .i64 0)))⟩] [0, 1, 2, 3, 11])
   (.cond (.t 11) [0, 2]
    (.seq
     (.block 0
      (.loop [0, 2]
       (.seq
        (.seq
         (.reg [⟨(some 12), none, .e (.load false 1 (.t 2))⟩,
           ⟨(some 13), none, .e (.lenS (.t 12))⟩,
           ⟨(some 14), none, .e (.bin .gtr (.t 13) (.c (.int .i64 0)))⟩] [0, 2, 14])
         (.cond (.t 14) [0, 2]
          .skip
          []
          (.exit 0 [])))
        (.block 1
         (.seq
          (.reg [⟨(some 16), none, .e (.load false 1 (.t 2))⟩,
            ⟨(some 17), none, .callV 170 [(.t 16)]⟩,
            ⟨(some 15), none, .e (.mov (.t 17))⟩,
            ⟨(some 18), none, .e (.ext (.t 15) 0)⟩,
            ⟨(some 19), none, .e (.ext (.t 15) 1)⟩,
            ⟨(some 5), none, .e (.mov (.t 18))⟩,
            ⟨(some 6), none, .e (.mov (.t 19))⟩] [0, 2, 6])
          (.seq
           (.seq
            (.reg [⟨(some 20), none, .e (.mov (.t 0))⟩,
              ⟨(some 21), none, .e (.load false 1 (.t 2))⟩,
              ⟨(some 22), none, .e (.mov (.t 6))⟩,
              ⟨(some 23), none, .e (.slS (.t 21) none (some (.t 22)))⟩,
              ⟨(some 24), none, .yld (.t 20) [(.t 23)]⟩,
              ⟨(some 25), none, .e (.un .not (.t 24))⟩] [0, 2, 6, 25])
            (.cond (.t 25) []
             (.ret [])
             [0, 2, 6]
             .skip))
           (.reg [⟨(some 26), none, .e (.load false 1 (.t 2))⟩,
             ⟨(some 27), none, .e (.mov (.t 6))⟩,
             ⟨(some 28), none, .e (.slS (.t 26) (some (.t 27)) none)⟩,
             ⟨none, none, .store 1 (.t 2) (.t 28)⟩] [0, 2])))))))
     (.ret []))
    [0, 1, 2, 3]
    .skip))
  (.seq
   (.block 2
    (.loop [0, 1, 2, 3]
     (.block 3
      (.seq
       (.reg [⟨(some 29), none, .e (.load false 1 (.t 2))⟩,
         ⟨(some 30), none, .e (.load false 1 (.t 1))⟩,
         ⟨(some 31), none, .callV 150 [(.t 29), (.t 30)]⟩,
         ⟨(some 7), none, .e (.mov (.t 31))⟩] [0, 1, 2, 3, 7])
       (.seq
        (.seq
         (.reg [⟨(some 32), none, .e (.mov (.t 7))⟩,
           ⟨(some 33), none, .e (.bin .lss (.t 32) (.c (.int .i64 0)))⟩] [0, 1, 2, 3, 7, 33])
         (.cond (.t 33) [0, 2]
          (.exit 2 [0, 2])
          [0, 1, 2, 3, 7]
          .skip))
        (.seq
         (.reg [⟨(some 34), none, .e (.load false 1 (.t 2))⟩,
           ⟨(some 35), none, .e (.mov (.t 7))⟩,
           ⟨(some 36), none, .e (.load false 1 (.t 3))⟩,
           ⟨(some 37), none, .e (.bin .add (.t 35) (.t 36))⟩,
           ⟨(some 38), none, .e (.slS (.t 34) none (some (.t 37)))⟩,
           ⟨(some 8), none, .e (.mov (.t 38))⟩] [0, 1, 2, 3, 7, 8])
         (.seq
          (.seq
           (.reg [⟨(some 39), none, .e (.mov (.t 0))⟩,
             ⟨(some 40), none, .e (.mov (.t 8))⟩,
             ⟨(some 41), none, .yld (.t 39) [(.t 40)]⟩,
             ⟨(some 42), none, .e (.un .not (.t 41))⟩] [0, 1, 2, 3, 7, 42])
           (.cond (.t 42) []
            (.ret [])
            [0, 1, 2, 3, 7]
            .skip))
          (.reg [⟨(some 43), none, .e (.load false 1 (.t 2))⟩,
            ⟨(some 44), none, .e (.mov (.t 7))⟩,
            ⟨(some 45), none, .e (.load false 1 (.t 1))⟩,
            ⟨(some 46), none, .e (.lenS (.t 45))⟩,
            ⟨(some 47), none, .e (.bin .add (.t 44) (.t 46))⟩,
            ⟨(some 48), none, .e (.slS (.t 43) (some (.t 47)) none)⟩,
            ⟨none, none, .store 1 (.t 2) (.t 48)⟩] [0, 1, 2, 3]))))))))
   (.reg [⟨(some 49), none, .e (.mov (.t 0))⟩,
     ⟨(some 50), none, .e (.load false 1 (.t 2))⟩,
     ⟨(some 51), none, .yld (.t 49) [(.t 50)]⟩] [])))
theorem p172 : sight Tryz.prog 172 c172 = some (52, [], c172) := by kernel_rfl
/-- internal/stringslite.HasSuffix -/
def c182 : AC :=
 (.seq
  (.reg [⟨(some 4), none, .e (.mov (.c (.bool false)))⟩] [0, 1])
  (.seq
   (.reg [⟨(some 5), none, .e (.mov (.t 0))⟩,
     ⟨(some 6), none, .e (.lenS (.t 5))⟩,
     ⟨(some 7), none, .e (.mov (.t 1))⟩,
     ⟨(some 8), none, .e (.lenS (.t 7))⟩,
     ⟨(some 9), none, .e (.bin .geq (.t 6) (.t 8))⟩,
     ⟨(some 10), none, .e (.mov (.t 9))⟩,
     ⟨(some 11), (some (10, true)), .e (.mov (.t 0))⟩,
     ⟨(some 12), (some (10, true)), .e (.mov (.t 0))⟩,
     ⟨(some 13), (some (10, true)), .e (.lenS (.t 12))⟩,
     ⟨(some 14), (some (10, true)), .e (.mov (.t 1))⟩,
     ⟨(some 15), (some (10, true)), .e (.lenS (.t 14))⟩,
     ⟨(some 16), (some (10, true)), .e (.bin .sub (.t 13) (.t 15))⟩,
     ⟨(some 17), (some (10, true)), .e (.slS (.t 11) (some (.t 16)) none)⟩,
     ⟨(some 18), (some (10, true)), .e (.mov (.t 1))⟩,
     ⟨(some 19), (some (10, true)), .e (.bin .eql (.t 17) (.t 18))⟩,
     ⟨(some 20), none, .e (.pick (.t 10) (.t 19) (.c (.bool false)))⟩,
     ⟨(some 4), none, .e (.mov (.t 20))⟩] [4])
   (.ret [4])))
theorem p182 : sight Tryz.prog 182 c182 = some (21, [.t 4], c182) := by kernel_rfl
/-- internal/stringslite.HasPrefix -/
def c187 : AC :=
 (.seq
  (.reg [⟨(some 4), none, .e (.mov (.c (.bool false)))⟩] [0, 1])
  (.seq
   (.reg [⟨(some 5), none, .e (.mov (.t 0))⟩,
     ⟨(some 6), none, .e (.lenS (.t 5))⟩,
     ⟨(some 7), none, .e (.mov (.t 1))⟩,
     ⟨(some 8), none, .e (.lenS (.t 7))⟩,
     ⟨(some 9), none, .e (.bin .geq (.t 6) (.t 8))⟩,
     ⟨(some 10), none, .e (.mov (.t 9))⟩,
     ⟨(some 11), (some (10, true)), .e (.mov (.t 0))⟩,
     ⟨(some 12), (some (10, true)), .e (.mov (.t 1))⟩,
     ⟨(some 13), (some (10, true)), .e (.lenS (.t 12))⟩,
     ⟨(some 14), (some (10, true)), .e (.slS (.t 11) none (some (.t 13)))⟩,
     ⟨(some 15), (some (10, true)), .e (.mov (.t 1))⟩,
     ⟨(some 16), (some (10, true)), .e (.bin .eql (.t 14) (.t 15))⟩,
     ⟨(some 17), none, .e (.pick (.t 10) (.t 16) (.c (.bool false)))⟩,
     ⟨(some 4), none, .e (.mov (.t 17))⟩] [4])
   (.ret [4])))
theorem p187 : sight Tryz.prog 187 c187 = some (18, [.t 4], c187) := by kernel_rfl
end Go.Proofs.YtmgoencdjkaobaaGreatDoor
