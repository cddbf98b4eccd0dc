/- Bodies, printed by gen.py (this session's program). -/
import Derived.Test.YtodnphnbnneegaaVL20
import Derived.Test.YtodnphnbnneegaaProg
set_option linter.unusedVariables false
set_option maxRecDepth 100000
namespace Go.Proofs.Ytodnphnbnneegaa.VL
open Go.Proofs

/-- slices.partialInsertionSortOrdered[rivulet/api.Addr] (function 58) -/
def c_slices_partialInsertionSortOrdered_api_Addr : ACode :=
  (.seq
    (.region false [
        ⟨some 6, .mov (.const (.bool false)), none⟩] [6])
    (.seq
      (.region false [
          ⟨some 11, .mov (.tmp 1), none⟩,
          ⟨some 12, .bin .add 3 (.tmp 11) (.const (.int .i64 1)), none⟩,
          ⟨some 7, .mov (.tmp 12), none⟩] [11, 12])
      (.seq
        (.seq
          (.region false [
              ⟨some 8, .mov (.const (.int .i64 0)), none⟩] [])
          (.block 0
            (.loop
              (.seq
                (.seq
                  (.region false [
                      ⟨some 13, .mov (.tmp 8), none⟩,
                      ⟨some 14, .bin .lss 3 (.tmp 13) (.const (.int .i64 5)), none⟩] [13])
                  (.cond (.tmp 14)
                    .skip
                    (.exit 0)))
                (.seq
                  (.block 1
                    (.seq
                      (.block 2
                        (.loop
                          (.seq
                            (.seq
                              (.region true [
                                  ⟨some 17, .mov (.tmp 7), none⟩,
                                  ⟨some 18, .mov (.tmp 2), none⟩,
                                  ⟨some 19, .bin .lss 3 (.tmp 17) (.tmp 18), none⟩,
                                  ⟨some 20, .mov (.tmp 19), none⟩,
                                  ⟨some 21, .mov (.tmp 0), (some (20, true))⟩,
                                  ⟨some 22, .mov (.tmp 7), (some (20, true))⟩,
                                  ⟨some 23, .iaddr 1 (.tmp 21) (.tmp 22), (some (20, true))⟩,
                                  ⟨some 24, .load false 1 (.tmp 23), (some (20, true))⟩,
                                  ⟨some 25, .mov (.tmp 0), (some (20, true))⟩,
                                  ⟨some 26, .mov (.tmp 7), (some (20, true))⟩,
                                  ⟨some 27, .bin .sub 3 (.tmp 26) (.const (.int .i64 1)), (some (20, true))⟩,
                                  ⟨some 28, .iaddr 1 (.tmp 25) (.tmp 27), (some (20, true))⟩,
                                  ⟨some 29, .load false 1 (.tmp 28), (some (20, true))⟩,
                                  ⟨some 30, .call 59 [.tmp 24, .tmp 29], (some (20, true))⟩,
                                  ⟨some 31, .un .not (.tmp 30), (some (20, true))⟩,
                                  ⟨some 32, .pick (.tmp 20) (.tmp 31) (.const (.bool false)), none⟩] [17, 18, 19, 20, 21, 22, 23, 24, 25, 26, 27, 28, 29, 30, 31])
                              (.cond (.tmp 32)
                                .skip
                                (.exit 2)))
                            (.block 3
                              (.region false [
                                  ⟨some 33, .mov (.tmp 7), none⟩,
                                  ⟨some 34, .bin .add 3 (.tmp 33) (.const (.int .i64 1)), none⟩,
                                  ⟨some 7, .mov (.tmp 34), none⟩] [32, 33, 34]) [])) [14] []) [32])
                      (.seq
                        (.seq
                          (.region false [
                              ⟨some 35, .mov (.tmp 7), none⟩,
                              ⟨some 36, .mov (.tmp 2), none⟩,
                              ⟨some 37, .bin .eql 3 (.tmp 35) (.tmp 36), none⟩] [35, 36])
                          (.cond (.tmp 37)
                            (.seq
                              (.region false [
                                  ⟨some 6, .mov (.const (.bool true)), none⟩] [0, 1, 2, 7, 8, 37])
                              .ret)
                            .skip))
                        (.seq
                          (.seq
                            (.region false [
                                ⟨some 38, .mov (.tmp 2), none⟩,
                                ⟨some 39, .mov (.tmp 1), none⟩,
                                ⟨some 40, .bin .sub 3 (.tmp 38) (.tmp 39), none⟩,
                                ⟨some 41, .bin .lss 3 (.tmp 40) (.const (.int .i64 50)), none⟩] [37, 38, 39, 40])
                            (.cond (.tmp 41)
                              (.seq
                                (.region false [
                                    ⟨some 6, .mov (.const (.bool false)), none⟩] [0, 1, 2, 7, 8, 41])
                                .ret)
                              .skip))
                          (.seq
                            (.region true [
                                ⟨some 42, .mov (.tmp 0), none⟩,
                                ⟨some 43, .mov (.tmp 7), none⟩,
                                ⟨some 44, .mov (.tmp 0), none⟩,
                                ⟨some 45, .mov (.tmp 7), none⟩,
                                ⟨some 46, .bin .sub 3 (.tmp 45) (.const (.int .i64 1)), none⟩,
                                ⟨some 47, .mov (.tmp 0), none⟩,
                                ⟨some 48, .mov (.tmp 7), none⟩,
                                ⟨some 49, .bin .sub 3 (.tmp 48) (.const (.int .i64 1)), none⟩,
                                ⟨some 50, .iaddr 1 (.tmp 47) (.tmp 49), none⟩,
                                ⟨some 51, .load false 1 (.tmp 50), none⟩,
                                ⟨some 52, .mov (.tmp 0), none⟩,
                                ⟨some 53, .mov (.tmp 7), none⟩,
                                ⟨some 54, .iaddr 1 (.tmp 52) (.tmp 53), none⟩,
                                ⟨some 55, .load false 1 (.tmp 54), none⟩,
                                ⟨some 56, .iaddr 1 (.tmp 42) (.tmp 43), none⟩,
                                ⟨none, .store 1 (.tmp 56) (.tmp 51), none⟩,
                                ⟨some 57, .iaddr 1 (.tmp 44) (.tmp 46), none⟩,
                                ⟨none, .store 1 (.tmp 57) (.tmp 55), none⟩] [41, 42, 43, 44, 45, 46, 47, 48, 49, 50, 51, 52, 53, 54, 55, 56, 57])
                            (.seq
                              (.seq
                                (.region false [
                                    ⟨some 58, .mov (.tmp 7), none⟩,
                                    ⟨some 59, .mov (.tmp 1), none⟩,
                                    ⟨some 60, .bin .sub 3 (.tmp 58) (.tmp 59), none⟩,
                                    ⟨some 61, .bin .geq 3 (.tmp 60) (.const (.int .i64 2)), none⟩] [58, 59, 60])
                                (.cond (.tmp 61)
                                  (.seq
                                    (.region false [
                                        ⟨some 62, .mov (.tmp 7), none⟩,
                                        ⟨some 63, .bin .sub 3 (.tmp 62) (.const (.int .i64 1)), none⟩,
                                        ⟨some 9, .mov (.tmp 63), none⟩] [61, 62, 63])
                                    (.block 4
                                      (.loop
                                        (.seq
                                          (.seq
                                            (.region false [
                                                ⟨some 64, .mov (.tmp 9), none⟩,
                                                ⟨some 65, .bin .geq 3 (.tmp 64) (.const (.int .i64 1)), none⟩] [64])
                                            (.cond (.tmp 65)
                                              .skip
                                              (.exit 4)))
                                          (.seq
                                            (.block 5
                                              (.seq
                                                (.seq
                                                  (.region true [
                                                      ⟨some 68, .mov (.tmp 0), none⟩,
                                                      ⟨some 69, .mov (.tmp 9), none⟩,
                                                      ⟨some 70, .iaddr 1 (.tmp 68) (.tmp 69), none⟩,
                                                      ⟨some 71, .load false 1 (.tmp 70), none⟩,
                                                      ⟨some 72, .mov (.tmp 0), none⟩,
                                                      ⟨some 73, .mov (.tmp 9), none⟩,
                                                      ⟨some 74, .bin .sub 3 (.tmp 73) (.const (.int .i64 1)), none⟩,
                                                      ⟨some 75, .iaddr 1 (.tmp 72) (.tmp 74), none⟩,
                                                      ⟨some 76, .load false 1 (.tmp 75), none⟩,
                                                      ⟨some 77, .call 59 [.tmp 71, .tmp 76], none⟩,
                                                      ⟨some 78, .un .not (.tmp 77), none⟩] [65, 68, 69, 70, 71, 72, 73, 74, 75, 76, 77])
                                                  (.cond (.tmp 78)
                                                    (.exit 4)
                                                    .skip))
                                                (.region true [
                                                    ⟨some 79, .mov (.tmp 0), none⟩,
                                                    ⟨some 80, .mov (.tmp 9), none⟩,
                                                    ⟨some 81, .mov (.tmp 0), none⟩,
                                                    ⟨some 82, .mov (.tmp 9), none⟩,
                                                    ⟨some 83, .bin .sub 3 (.tmp 82) (.const (.int .i64 1)), none⟩,
                                                    ⟨some 84, .mov (.tmp 0), none⟩,
                                                    ⟨some 85, .mov (.tmp 9), none⟩,
                                                    ⟨some 86, .bin .sub 3 (.tmp 85) (.const (.int .i64 1)), none⟩,
                                                    ⟨some 87, .iaddr 1 (.tmp 84) (.tmp 86), none⟩,
                                                    ⟨some 88, .load false 1 (.tmp 87), none⟩,
                                                    ⟨some 89, .mov (.tmp 0), none⟩,
                                                    ⟨some 90, .mov (.tmp 9), none⟩,
                                                    ⟨some 91, .iaddr 1 (.tmp 89) (.tmp 90), none⟩,
                                                    ⟨some 92, .load false 1 (.tmp 91), none⟩,
                                                    ⟨some 93, .iaddr 1 (.tmp 79) (.tmp 80), none⟩,
                                                    ⟨none, .store 1 (.tmp 93) (.tmp 88), none⟩,
                                                    ⟨some 94, .iaddr 1 (.tmp 81) (.tmp 83), none⟩,
                                                    ⟨none, .store 1 (.tmp 94) (.tmp 92), none⟩] [78, 79, 80, 81, 82, 83, 84, 85, 86, 87, 88, 89, 90, 91, 92, 93, 94])) [])
                                            (.region false [
                                                ⟨some 66, .mov (.tmp 9), none⟩,
                                                ⟨some 67, .bin .sub 3 (.tmp 66) (.const (.int .i64 1)), none⟩,
                                                ⟨some 9, .mov (.tmp 67), none⟩] [66, 67]))) [] []) [9, 65, 78]))
                                  .skip))
                              (.seq
                                (.region false [
                                    ⟨some 95, .mov (.tmp 2), none⟩,
                                    ⟨some 96, .mov (.tmp 7), none⟩,
                                    ⟨some 97, .bin .sub 3 (.tmp 95) (.tmp 96), none⟩,
                                    ⟨some 98, .bin .geq 3 (.tmp 97) (.const (.int .i64 2)), none⟩] [61, 95, 96, 97])
                                (.cond (.tmp 98)
                                  (.seq
                                    (.region false [
                                        ⟨some 99, .mov (.tmp 7), none⟩,
                                        ⟨some 100, .bin .add 3 (.tmp 99) (.const (.int .i64 1)), none⟩,
                                        ⟨some 10, .mov (.tmp 100), none⟩] [98, 99, 100])
                                    (.block 6
                                      (.loop
                                        (.seq
                                          (.seq
                                            (.region false [
                                                ⟨some 101, .mov (.tmp 10), none⟩,
                                                ⟨some 102, .mov (.tmp 2), none⟩,
                                                ⟨some 103, .bin .lss 3 (.tmp 101) (.tmp 102), none⟩] [101, 102])
                                            (.cond (.tmp 103)
                                              .skip
                                              (.exit 6)))
                                          (.seq
                                            (.block 7
                                              (.seq
                                                (.seq
                                                  (.region true [
                                                      ⟨some 106, .mov (.tmp 0), none⟩,
                                                      ⟨some 107, .mov (.tmp 10), none⟩,
                                                      ⟨some 108, .iaddr 1 (.tmp 106) (.tmp 107), none⟩,
                                                      ⟨some 109, .load false 1 (.tmp 108), none⟩,
                                                      ⟨some 110, .mov (.tmp 0), none⟩,
                                                      ⟨some 111, .mov (.tmp 10), none⟩,
                                                      ⟨some 112, .bin .sub 3 (.tmp 111) (.const (.int .i64 1)), none⟩,
                                                      ⟨some 113, .iaddr 1 (.tmp 110) (.tmp 112), none⟩,
                                                      ⟨some 114, .load false 1 (.tmp 113), none⟩,
                                                      ⟨some 115, .call 59 [.tmp 109, .tmp 114], none⟩,
                                                      ⟨some 116, .un .not (.tmp 115), none⟩] [103, 106, 107, 108, 109, 110, 111, 112, 113, 114, 115])
                                                  (.cond (.tmp 116)
                                                    (.exit 6)
                                                    .skip))
                                                (.region true [
                                                    ⟨some 117, .mov (.tmp 0), none⟩,
                                                    ⟨some 118, .mov (.tmp 10), none⟩,
                                                    ⟨some 119, .mov (.tmp 0), none⟩,
                                                    ⟨some 120, .mov (.tmp 10), none⟩,
                                                    ⟨some 121, .bin .sub 3 (.tmp 120) (.const (.int .i64 1)), none⟩,
                                                    ⟨some 122, .mov (.tmp 0), none⟩,
                                                    ⟨some 123, .mov (.tmp 10), none⟩,
                                                    ⟨some 124, .bin .sub 3 (.tmp 123) (.const (.int .i64 1)), none⟩,
                                                    ⟨some 125, .iaddr 1 (.tmp 122) (.tmp 124), none⟩,
                                                    ⟨some 126, .load false 1 (.tmp 125), none⟩,
                                                    ⟨some 127, .mov (.tmp 0), none⟩,
                                                    ⟨some 128, .mov (.tmp 10), none⟩,
                                                    ⟨some 129, .iaddr 1 (.tmp 127) (.tmp 128), none⟩,
                                                    ⟨some 130, .load false 1 (.tmp 129), none⟩,
                                                    ⟨some 131, .iaddr 1 (.tmp 117) (.tmp 118), none⟩,
                                                    ⟨none, .store 1 (.tmp 131) (.tmp 126), none⟩,
                                                    ⟨some 132, .iaddr 1 (.tmp 119) (.tmp 121), none⟩,
                                                    ⟨none, .store 1 (.tmp 132) (.tmp 130), none⟩] [116, 117, 118, 119, 120, 121, 122, 123, 124, 125, 126, 127, 128, 129, 130, 131, 132])) [])
                                            (.region false [
                                                ⟨some 104, .mov (.tmp 10), none⟩,
                                                ⟨some 105, .bin .add 3 (.tmp 104) (.const (.int .i64 1)), none⟩,
                                                ⟨some 10, .mov (.tmp 105), none⟩] [104, 105]))) [] []) [10, 103, 116]))
                                  .skip))))))) [98])
                  (.region false [
                      ⟨some 15, .mov (.tmp 8), none⟩,
                      ⟨some 16, .bin .add 3 (.tmp 15) (.const (.int .i64 1)), none⟩,
                      ⟨some 8, .mov (.tmp 16), none⟩] [15, 16]))) [] []) [0, 1, 2, 7, 8, 14]))
        (.seq
          (.region false [
              ⟨some 6, .mov (.const (.bool false)), none⟩] [])
          .ret))))
abbrev v_slices_partialInsertionSortOrdered_api_Addr : List RV := [.tmp 6]
abbrev f_slices_partialInsertionSortOrdered_api_Addr : FuncId := 58
theorem k_slices_partialInsertionSortOrdered_api_Addr : closedOf Try.prog Try.f58 = (false, some true, some v_slices_partialInsertionSortOrdered_api_Addr, some c_slices_partialInsertionSortOrdered_api_Addr.plain, 133) := by kernel_rfl
theorem ac_slices_partialInsertionSortOrdered_api_Addr {args : List AV} {r : AV} (h : aw Try.prog c_slices_partialInsertionSortOrdered_api_Addr (env0 args) (endQ v_slices_partialInsertionSortOrdered_api_Addr r)) (hargs : args.length ≤ 133 := by decide) (hok : resOK r = true := by rfl) : AC Try.prog f_slices_partialInsertionSortOrdered_api_Addr args r :=
  AC_mk (by kernel_rfl) Try.func58 k_slices_partialInsertionSortOrdered_api_Addr hargs hok (by decide) h

/-- cmp.Less[rivulet/api.Addr] (function 59) -/
def c_cmp_Less_api_Addr : ACode :=
  (.seq
    (.region false [
        ⟨some 4, .mov (.const (.bool false)), none⟩] [4])
    (.seq
      (.region false [
          ⟨some 5, .mov (.tmp 0), none⟩,
          ⟨some 6, .callm 69 [.tmp 5], none⟩,
          ⟨some 7, .mov (.tmp 6), none⟩,
          ⟨some 8, .mov (.tmp 1), (some (7, true))⟩,
          ⟨some 9, .callm 69 [.tmp 8], (some (7, true))⟩,
          ⟨some 10, .un .not (.tmp 9), (some (7, true))⟩,
          ⟨some 11, .pick (.tmp 7) (.tmp 10) (.const (.bool false)), none⟩,
          ⟨some 12, .mov (.tmp 11), none⟩,
          ⟨some 13, .mov (.tmp 0), (some (12, false))⟩,
          ⟨some 14, .mov (.tmp 1), (some (12, false))⟩,
          ⟨some 15, .bin .lss 23 (.tmp 13) (.tmp 14), (some (12, false))⟩,
          ⟨some 16, .pick (.tmp 12) (.const (.bool true)) (.tmp 15), none⟩,
          ⟨some 4, .mov (.tmp 16), none⟩] [0, 1, 5, 6, 7, 8, 9, 10, 11, 12, 13, 14, 15, 16])
      .ret))
abbrev v_cmp_Less_api_Addr : List RV := [.tmp 4]
abbrev f_cmp_Less_api_Addr : FuncId := 59
theorem k_cmp_Less_api_Addr : closedOf Try.prog Try.f59 = (false, some true, some v_cmp_Less_api_Addr, some c_cmp_Less_api_Addr.plain, 17) := by kernel_rfl
theorem ac_cmp_Less_api_Addr {args : List AV} {r : AV} (h : aw Try.prog c_cmp_Less_api_Addr (env0 args) (endQ v_cmp_Less_api_Addr r)) (hargs : args.length ≤ 17 := by decide) (hok : resOK r = true := by rfl) : AC Try.prog f_cmp_Less_api_Addr args r :=
  AC_mk (by kernel_rfl) Try.func59 k_cmp_Less_api_Addr hargs hok (by decide) h

/-- slices.partitionEqualOrdered[rivulet/api.Addr] (function 60) -/
def c_slices_partitionEqualOrdered_api_Addr : ACode :=
  (.seq
    (.region false [
        ⟨some 8, .mov (.const (.int .i64 0)), none⟩] [8])
    (.seq
      (.region true [
          ⟨some 11, .mov (.tmp 0), none⟩,
          ⟨some 12, .mov (.tmp 1), none⟩,
          ⟨some 13, .mov (.tmp 0), none⟩,
          ⟨some 14, .mov (.tmp 3), none⟩,
          ⟨some 15, .mov (.tmp 0), none⟩,
          ⟨some 16, .mov (.tmp 3), none⟩,
          ⟨some 17, .iaddr 1 (.tmp 15) (.tmp 16), none⟩,
          ⟨some 18, .load false 1 (.tmp 17), none⟩,
          ⟨some 19, .mov (.tmp 0), none⟩,
          ⟨some 20, .mov (.tmp 1), none⟩,
          ⟨some 21, .iaddr 1 (.tmp 19) (.tmp 20), none⟩,
          ⟨some 22, .load false 1 (.tmp 21), none⟩,
          ⟨some 23, .iaddr 1 (.tmp 11) (.tmp 12), none⟩,
          ⟨none, .store 1 (.tmp 23) (.tmp 18), none⟩,
          ⟨some 24, .iaddr 1 (.tmp 13) (.tmp 14), none⟩,
          ⟨none, .store 1 (.tmp 24) (.tmp 22), none⟩] [3, 11, 12, 13, 14, 15, 16, 17, 18, 19, 20, 21, 22, 23, 24])
      (.seq
        (.region false [
            ⟨some 25, .mov (.tmp 1), none⟩,
            ⟨some 26, .bin .add 3 (.tmp 25) (.const (.int .i64 1)), none⟩,
            ⟨some 27, .mov (.tmp 2), none⟩,
            ⟨some 28, .bin .sub 3 (.tmp 27) (.const (.int .i64 1)), none⟩,
            ⟨some 9, .mov (.tmp 26), none⟩,
            ⟨some 10, .mov (.tmp 28), none⟩] [2, 25, 26, 27, 28])
        (.seq
          (.block 0
            (.loop
              (.block 1
                (.seq
                  (.block 2
                    (.loop
                      (.seq
                        (.seq
                          (.region true [
                              ⟨some 29, .mov (.tmp 9), none⟩,
                              ⟨some 30, .mov (.tmp 10), none⟩,
                              ⟨some 31, .bin .leq 3 (.tmp 29) (.tmp 30), none⟩,
                              ⟨some 32, .mov (.tmp 31), none⟩,
                              ⟨some 33, .mov (.tmp 0), (some (32, true))⟩,
                              ⟨some 34, .mov (.tmp 1), (some (32, true))⟩,
                              ⟨some 35, .iaddr 1 (.tmp 33) (.tmp 34), (some (32, true))⟩,
                              ⟨some 36, .load false 1 (.tmp 35), (some (32, true))⟩,
                              ⟨some 37, .mov (.tmp 0), (some (32, true))⟩,
                              ⟨some 38, .mov (.tmp 9), (some (32, true))⟩,
                              ⟨some 39, .iaddr 1 (.tmp 37) (.tmp 38), (some (32, true))⟩,
                              ⟨some 40, .load false 1 (.tmp 39), (some (32, true))⟩,
                              ⟨some 41, .call 59 [.tmp 36, .tmp 40], (some (32, true))⟩,
                              ⟨some 42, .un .not (.tmp 41), (some (32, true))⟩,
                              ⟨some 43, .pick (.tmp 32) (.tmp 42) (.const (.bool false)), none⟩] [29, 30, 31, 32, 33, 34, 35, 36, 37, 38, 39, 40, 41, 42])
                          (.cond (.tmp 43)
                            .skip
                            (.exit 2)))
                        (.block 3
                          (.region false [
                              ⟨some 44, .mov (.tmp 9), none⟩,
                              ⟨some 45, .bin .add 3 (.tmp 44) (.const (.int .i64 1)), none⟩,
                              ⟨some 9, .mov (.tmp 45), none⟩] [43, 44, 45]) [])) [] []) [43])
                  (.seq
                    (.block 4
                      (.loop
                        (.seq
                          (.seq
                            (.region true [
                                ⟨some 46, .mov (.tmp 9), none⟩,
                                ⟨some 47, .mov (.tmp 10), none⟩,
                                ⟨some 48, .bin .leq 3 (.tmp 46) (.tmp 47), none⟩,
                                ⟨some 49, .mov (.tmp 48), none⟩,
                                ⟨some 50, .mov (.tmp 0), (some (49, true))⟩,
                                ⟨some 51, .mov (.tmp 1), (some (49, true))⟩,
                                ⟨some 52, .iaddr 1 (.tmp 50) (.tmp 51), (some (49, true))⟩,
                                ⟨some 53, .load false 1 (.tmp 52), (some (49, true))⟩,
                                ⟨some 54, .mov (.tmp 0), (some (49, true))⟩,
                                ⟨some 55, .mov (.tmp 10), (some (49, true))⟩,
                                ⟨some 56, .iaddr 1 (.tmp 54) (.tmp 55), (some (49, true))⟩,
                                ⟨some 57, .load false 1 (.tmp 56), (some (49, true))⟩,
                                ⟨some 58, .call 59 [.tmp 53, .tmp 57], (some (49, true))⟩,
                                ⟨some 59, .pick (.tmp 49) (.tmp 58) (.const (.bool false)), none⟩] [46, 47, 48, 49, 50, 51, 52, 53, 54, 55, 56, 57, 58])
                            (.cond (.tmp 59)
                              .skip
                              (.exit 4)))
                          (.block 5
                            (.region false [
                                ⟨some 60, .mov (.tmp 10), none⟩,
                                ⟨some 61, .bin .sub 3 (.tmp 60) (.const (.int .i64 1)), none⟩,
                                ⟨some 10, .mov (.tmp 61), none⟩] [59, 60, 61]) [])) [] []) [59])
                    (.seq
                      (.seq
                        (.region false [
                            ⟨some 62, .mov (.tmp 9), none⟩,
                            ⟨some 63, .mov (.tmp 10), none⟩,
                            ⟨some 64, .bin .gtr 3 (.tmp 62) (.tmp 63), none⟩] [62, 63])
                        (.cond (.tmp 64)
                          (.exit 0)
                          .skip))
                      (.seq
                        (.region true [
                            ⟨some 65, .mov (.tmp 0), none⟩,
                            ⟨some 66, .mov (.tmp 9), none⟩,
                            ⟨some 67, .mov (.tmp 0), none⟩,
                            ⟨some 68, .mov (.tmp 10), none⟩,
                            ⟨some 69, .mov (.tmp 0), none⟩,
                            ⟨some 70, .mov (.tmp 10), none⟩,
                            ⟨some 71, .iaddr 1 (.tmp 69) (.tmp 70), none⟩,
                            ⟨some 72, .load false 1 (.tmp 71), none⟩,
                            ⟨some 73, .mov (.tmp 0), none⟩,
                            ⟨some 74, .mov (.tmp 9), none⟩,
                            ⟨some 75, .iaddr 1 (.tmp 73) (.tmp 74), none⟩,
                            ⟨some 76, .load false 1 (.tmp 75), none⟩,
                            ⟨some 77, .iaddr 1 (.tmp 65) (.tmp 66), none⟩,
                            ⟨none, .store 1 (.tmp 77) (.tmp 72), none⟩,
                            ⟨some 78, .iaddr 1 (.tmp 67) (.tmp 68), none⟩,
                            ⟨none, .store 1 (.tmp 78) (.tmp 76), none⟩] [64, 65, 66, 67, 68, 69, 70, 71, 72, 73, 74, 75, 76, 77, 78])
                        (.seq
                          (.region false [
                              ⟨some 79, .mov (.tmp 9), none⟩,
                              ⟨some 80, .bin .add 3 (.tmp 79) (.const (.int .i64 1)), none⟩,
                              ⟨some 9, .mov (.tmp 80), none⟩] [79, 80])
                          (.region false [
                              ⟨some 81, .mov (.tmp 10), none⟩,
                              ⟨some 82, .bin .sub 3 (.tmp 81) (.const (.int .i64 1)), none⟩,
                              ⟨some 10, .mov (.tmp 82), none⟩] [81, 82])))))) []) [] []) [0, 1, 10, 64])
          (.seq
            (.region false [
                ⟨some 83, .mov (.tmp 9), none⟩,
                ⟨some 8, .mov (.tmp 83), none⟩] [9, 83])
            .ret)))))
abbrev v_slices_partitionEqualOrdered_api_Addr : List RV := [.tmp 8]
abbrev f_slices_partitionEqualOrdered_api_Addr : FuncId := 60
theorem k_slices_partitionEqualOrdered_api_Addr : closedOf Try.prog Try.f60 = (false, some true, some v_slices_partitionEqualOrdered_api_Addr, some c_slices_partitionEqualOrdered_api_Addr.plain, 84) := by kernel_rfl
theorem ac_slices_partitionEqualOrdered_api_Addr {args : List AV} {r : AV} (h : aw Try.prog c_slices_partitionEqualOrdered_api_Addr (env0 args) (endQ v_slices_partitionEqualOrdered_api_Addr r)) (hargs : args.length ≤ 84 := by decide) (hok : resOK r = true := by rfl) : AC Try.prog f_slices_partitionEqualOrdered_api_Addr args r :=
  AC_mk (by kernel_rfl) Try.func60 k_slices_partitionEqualOrdered_api_Addr hargs hok (by decide) h

/-- slices.partitionOrdered[rivulet/api.Addr] (function 61) -/
def c_slices_partitionOrdered_api_Addr : ACode :=
  (.seq
    (.region false [
        ⟨some 8, .mov (.const (.int .i64 0)), none⟩,
        ⟨some 9, .mov (.const (.bool false)), none⟩] [8, 9])
    (.seq
      (.region true [
          ⟨some 12, .mov (.tmp 0), none⟩,
          ⟨some 13, .mov (.tmp 1), none⟩,
          ⟨some 14, .mov (.tmp 0), none⟩,
          ⟨some 15, .mov (.tmp 3), none⟩,
          ⟨some 16, .mov (.tmp 0), none⟩,
          ⟨some 17, .mov (.tmp 3), none⟩,
          ⟨some 18, .iaddr 1 (.tmp 16) (.tmp 17), none⟩,
          ⟨some 19, .load false 1 (.tmp 18), none⟩,
          ⟨some 20, .mov (.tmp 0), none⟩,
          ⟨some 21, .mov (.tmp 1), none⟩,
          ⟨some 22, .iaddr 1 (.tmp 20) (.tmp 21), none⟩,
          ⟨some 23, .load false 1 (.tmp 22), none⟩,
          ⟨some 24, .iaddr 1 (.tmp 12) (.tmp 13), none⟩,
          ⟨none, .store 1 (.tmp 24) (.tmp 19), none⟩,
          ⟨some 25, .iaddr 1 (.tmp 14) (.tmp 15), none⟩,
          ⟨none, .store 1 (.tmp 25) (.tmp 23), none⟩] [3, 12, 13, 14, 15, 16, 17, 18, 19, 20, 21, 22, 23, 24, 25])
      (.seq
        (.region false [
            ⟨some 26, .mov (.tmp 1), none⟩,
            ⟨some 27, .bin .add 3 (.tmp 26) (.const (.int .i64 1)), none⟩,
            ⟨some 28, .mov (.tmp 2), none⟩,
            ⟨some 29, .bin .sub 3 (.tmp 28) (.const (.int .i64 1)), none⟩,
            ⟨some 10, .mov (.tmp 27), none⟩,
            ⟨some 11, .mov (.tmp 29), none⟩] [2, 26, 27, 28, 29])
        (.seq
          (.block 0
            (.loop
              (.seq
                (.seq
                  (.region true [
                      ⟨some 30, .mov (.tmp 10), none⟩,
                      ⟨some 31, .mov (.tmp 11), none⟩,
                      ⟨some 32, .bin .leq 3 (.tmp 30) (.tmp 31), none⟩,
                      ⟨some 33, .mov (.tmp 32), none⟩,
                      ⟨some 34, .mov (.tmp 0), (some (33, true))⟩,
                      ⟨some 35, .mov (.tmp 10), (some (33, true))⟩,
                      ⟨some 36, .iaddr 1 (.tmp 34) (.tmp 35), (some (33, true))⟩,
                      ⟨some 37, .load false 1 (.tmp 36), (some (33, true))⟩,
                      ⟨some 38, .mov (.tmp 0), (some (33, true))⟩,
                      ⟨some 39, .mov (.tmp 1), (some (33, true))⟩,
                      ⟨some 40, .iaddr 1 (.tmp 38) (.tmp 39), (some (33, true))⟩,
                      ⟨some 41, .load false 1 (.tmp 40), (some (33, true))⟩,
                      ⟨some 42, .call 59 [.tmp 37, .tmp 41], (some (33, true))⟩,
                      ⟨some 43, .pick (.tmp 33) (.tmp 42) (.const (.bool false)), none⟩] [30, 31, 32, 33, 34, 35, 36, 37, 38, 39, 40, 41, 42])
                  (.cond (.tmp 43)
                    .skip
                    (.exit 0)))
                (.block 1
                  (.region false [
                      ⟨some 44, .mov (.tmp 10), none⟩,
                      ⟨some 45, .bin .add 3 (.tmp 44) (.const (.int .i64 1)), none⟩,
                      ⟨some 10, .mov (.tmp 45), none⟩] [43, 44, 45]) [])) [] []) [43])
          (.seq
            (.block 2
              (.loop
                (.seq
                  (.seq
                    (.region true [
                        ⟨some 46, .mov (.tmp 10), none⟩,
                        ⟨some 47, .mov (.tmp 11), none⟩,
                        ⟨some 48, .bin .leq 3 (.tmp 46) (.tmp 47), none⟩,
                        ⟨some 49, .mov (.tmp 48), none⟩,
                        ⟨some 50, .mov (.tmp 0), (some (49, true))⟩,
                        ⟨some 51, .mov (.tmp 11), (some (49, true))⟩,
                        ⟨some 52, .iaddr 1 (.tmp 50) (.tmp 51), (some (49, true))⟩,
                        ⟨some 53, .load false 1 (.tmp 52), (some (49, true))⟩,
                        ⟨some 54, .mov (.tmp 0), (some (49, true))⟩,
                        ⟨some 55, .mov (.tmp 1), (some (49, true))⟩,
                        ⟨some 56, .iaddr 1 (.tmp 54) (.tmp 55), (some (49, true))⟩,
                        ⟨some 57, .load false 1 (.tmp 56), (some (49, true))⟩,
                        ⟨some 58, .call 59 [.tmp 53, .tmp 57], (some (49, true))⟩,
                        ⟨some 59, .un .not (.tmp 58), (some (49, true))⟩,
                        ⟨some 60, .pick (.tmp 49) (.tmp 59) (.const (.bool false)), none⟩] [46, 47, 48, 49, 50, 51, 52, 53, 54, 55, 56, 57, 58, 59])
                    (.cond (.tmp 60)
                      .skip
                      (.exit 2)))
                  (.block 3
                    (.region false [
                        ⟨some 61, .mov (.tmp 11), none⟩,
                        ⟨some 62, .bin .sub 3 (.tmp 61) (.const (.int .i64 1)), none⟩,
                        ⟨some 11, .mov (.tmp 62), none⟩] [60, 61, 62]) [])) [] []) [60])
            (.seq
              (.seq
                (.region false [
                    ⟨some 63, .mov (.tmp 10), none⟩,
                    ⟨some 64, .mov (.tmp 11), none⟩,
                    ⟨some 65, .bin .gtr 3 (.tmp 63) (.tmp 64), none⟩] [63, 64])
                (.cond (.tmp 65)
                  (.seq
                    (.region true [
                        ⟨some 66, .mov (.tmp 0), none⟩,
                        ⟨some 67, .mov (.tmp 11), none⟩,
                        ⟨some 68, .mov (.tmp 0), none⟩,
                        ⟨some 69, .mov (.tmp 1), none⟩,
                        ⟨some 70, .mov (.tmp 0), none⟩,
                        ⟨some 71, .mov (.tmp 1), none⟩,
                        ⟨some 72, .iaddr 1 (.tmp 70) (.tmp 71), none⟩,
                        ⟨some 73, .load false 1 (.tmp 72), none⟩,
                        ⟨some 74, .mov (.tmp 0), none⟩,
                        ⟨some 75, .mov (.tmp 11), none⟩,
                        ⟨some 76, .iaddr 1 (.tmp 74) (.tmp 75), none⟩,
                        ⟨some 77, .load false 1 (.tmp 76), none⟩,
                        ⟨some 78, .iaddr 1 (.tmp 66) (.tmp 67), none⟩,
                        ⟨none, .store 1 (.tmp 78) (.tmp 73), none⟩,
                        ⟨some 79, .iaddr 1 (.tmp 68) (.tmp 69), none⟩,
                        ⟨none, .store 1 (.tmp 79) (.tmp 77), none⟩] [0, 1, 10, 65, 66, 67, 68, 69, 70, 71, 72, 73, 74, 75, 76, 77, 78, 79])
                    (.seq
                      (.region false [
                          ⟨some 80, .mov (.tmp 11), none⟩,
                          ⟨some 8, .mov (.tmp 80), none⟩,
                          ⟨some 9, .mov (.const (.bool true)), none⟩] [11, 80])
                      .ret))
                  .skip))
              (.seq
                (.region true [
                    ⟨some 81, .mov (.tmp 0), none⟩,
                    ⟨some 82, .mov (.tmp 10), none⟩,
                    ⟨some 83, .mov (.tmp 0), none⟩,
                    ⟨some 84, .mov (.tmp 11), none⟩,
                    ⟨some 85, .mov (.tmp 0), none⟩,
                    ⟨some 86, .mov (.tmp 11), none⟩,
                    ⟨some 87, .iaddr 1 (.tmp 85) (.tmp 86), none⟩,
                    ⟨some 88, .load false 1 (.tmp 87), none⟩,
                    ⟨some 89, .mov (.tmp 0), none⟩,
                    ⟨some 90, .mov (.tmp 10), none⟩,
                    ⟨some 91, .iaddr 1 (.tmp 89) (.tmp 90), none⟩,
                    ⟨some 92, .load false 1 (.tmp 91), none⟩,
                    ⟨some 93, .iaddr 1 (.tmp 81) (.tmp 82), none⟩,
                    ⟨none, .store 1 (.tmp 93) (.tmp 88), none⟩,
                    ⟨some 94, .iaddr 1 (.tmp 83) (.tmp 84), none⟩,
                    ⟨none, .store 1 (.tmp 94) (.tmp 92), none⟩] [65, 81, 82, 83, 84, 85, 86, 87, 88, 89, 90, 91, 92, 93, 94])
                (.seq
                  (.region false [
                      ⟨some 95, .mov (.tmp 10), none⟩,
                      ⟨some 96, .bin .add 3 (.tmp 95) (.const (.int .i64 1)), none⟩,
                      ⟨some 10, .mov (.tmp 96), none⟩] [95, 96])
                  (.seq
                    (.region false [
                        ⟨some 97, .mov (.tmp 11), none⟩,
                        ⟨some 98, .bin .sub 3 (.tmp 97) (.const (.int .i64 1)), none⟩,
                        ⟨some 11, .mov (.tmp 98), none⟩] [97, 98])
                    (.seq
                      (.block 4
                        (.loop
                          (.block 5
                            (.seq
                              (.block 6
                                (.loop
                                  (.seq
                                    (.seq
                                      (.region true [
                                          ⟨some 99, .mov (.tmp 10), none⟩,
                                          ⟨some 100, .mov (.tmp 11), none⟩,
                                          ⟨some 101, .bin .leq 3 (.tmp 99) (.tmp 100), none⟩,
                                          ⟨some 102, .mov (.tmp 101), none⟩,
                                          ⟨some 103, .mov (.tmp 0), (some (102, true))⟩,
                                          ⟨some 104, .mov (.tmp 10), (some (102, true))⟩,
                                          ⟨some 105, .iaddr 1 (.tmp 103) (.tmp 104), (some (102, true))⟩,
                                          ⟨some 106, .load false 1 (.tmp 105), (some (102, true))⟩,
                                          ⟨some 107, .mov (.tmp 0), (some (102, true))⟩,
                                          ⟨some 108, .mov (.tmp 1), (some (102, true))⟩,
                                          ⟨some 109, .iaddr 1 (.tmp 107) (.tmp 108), (some (102, true))⟩,
                                          ⟨some 110, .load false 1 (.tmp 109), (some (102, true))⟩,
                                          ⟨some 111, .call 59 [.tmp 106, .tmp 110], (some (102, true))⟩,
                                          ⟨some 112, .pick (.tmp 102) (.tmp 111) (.const (.bool false)), none⟩] [99, 100, 101, 102, 103, 104, 105, 106, 107, 108, 109, 110, 111])
                                      (.cond (.tmp 112)
                                        .skip
                                        (.exit 6)))
                                    (.block 7
                                      (.region false [
                                          ⟨some 113, .mov (.tmp 10), none⟩,
                                          ⟨some 114, .bin .add 3 (.tmp 113) (.const (.int .i64 1)), none⟩,
                                          ⟨some 10, .mov (.tmp 114), none⟩] [112, 113, 114]) [])) [] []) [112])
                              (.seq
                                (.block 8
                                  (.loop
                                    (.seq
                                      (.seq
                                        (.region true [
                                            ⟨some 115, .mov (.tmp 10), none⟩,
                                            ⟨some 116, .mov (.tmp 11), none⟩,
                                            ⟨some 117, .bin .leq 3 (.tmp 115) (.tmp 116), none⟩,
                                            ⟨some 118, .mov (.tmp 117), none⟩,
                                            ⟨some 119, .mov (.tmp 0), (some (118, true))⟩,
                                            ⟨some 120, .mov (.tmp 11), (some (118, true))⟩,
                                            ⟨some 121, .iaddr 1 (.tmp 119) (.tmp 120), (some (118, true))⟩,
                                            ⟨some 122, .load false 1 (.tmp 121), (some (118, true))⟩,
                                            ⟨some 123, .mov (.tmp 0), (some (118, true))⟩,
                                            ⟨some 124, .mov (.tmp 1), (some (118, true))⟩,
                                            ⟨some 125, .iaddr 1 (.tmp 123) (.tmp 124), (some (118, true))⟩,
                                            ⟨some 126, .load false 1 (.tmp 125), (some (118, true))⟩,
                                            ⟨some 127, .call 59 [.tmp 122, .tmp 126], (some (118, true))⟩,
                                            ⟨some 128, .un .not (.tmp 127), (some (118, true))⟩,
                                            ⟨some 129, .pick (.tmp 118) (.tmp 128) (.const (.bool false)), none⟩] [115, 116, 117, 118, 119, 120, 121, 122, 123, 124, 125, 126, 127, 128])
                                        (.cond (.tmp 129)
                                          .skip
                                          (.exit 8)))
                                      (.block 9
                                        (.region false [
                                            ⟨some 130, .mov (.tmp 11), none⟩,
                                            ⟨some 131, .bin .sub 3 (.tmp 130) (.const (.int .i64 1)), none⟩,
                                            ⟨some 11, .mov (.tmp 131), none⟩] [129, 130, 131]) [])) [] []) [129])
                                (.seq
                                  (.seq
                                    (.region false [
                                        ⟨some 132, .mov (.tmp 10), none⟩,
                                        ⟨some 133, .mov (.tmp 11), none⟩,
                                        ⟨some 134, .bin .gtr 3 (.tmp 132) (.tmp 133), none⟩] [132, 133])
                                    (.cond (.tmp 134)
                                      (.exit 4)
                                      .skip))
                                  (.seq
                                    (.region true [
                                        ⟨some 135, .mov (.tmp 0), none⟩,
                                        ⟨some 136, .mov (.tmp 10), none⟩,
                                        ⟨some 137, .mov (.tmp 0), none⟩,
                                        ⟨some 138, .mov (.tmp 11), none⟩,
                                        ⟨some 139, .mov (.tmp 0), none⟩,
                                        ⟨some 140, .mov (.tmp 11), none⟩,
                                        ⟨some 141, .iaddr 1 (.tmp 139) (.tmp 140), none⟩,
                                        ⟨some 142, .load false 1 (.tmp 141), none⟩,
                                        ⟨some 143, .mov (.tmp 0), none⟩,
                                        ⟨some 144, .mov (.tmp 10), none⟩,
                                        ⟨some 145, .iaddr 1 (.tmp 143) (.tmp 144), none⟩,
                                        ⟨some 146, .load false 1 (.tmp 145), none⟩,
                                        ⟨some 147, .iaddr 1 (.tmp 135) (.tmp 136), none⟩,
                                        ⟨none, .store 1 (.tmp 147) (.tmp 142), none⟩,
                                        ⟨some 148, .iaddr 1 (.tmp 137) (.tmp 138), none⟩,
                                        ⟨none, .store 1 (.tmp 148) (.tmp 146), none⟩] [134, 135, 136, 137, 138, 139, 140, 141, 142, 143, 144, 145, 146, 147, 148])
                                    (.seq
                                      (.region false [
                                          ⟨some 149, .mov (.tmp 10), none⟩,
                                          ⟨some 150, .bin .add 3 (.tmp 149) (.const (.int .i64 1)), none⟩,
                                          ⟨some 10, .mov (.tmp 150), none⟩] [149, 150])
                                      (.region false [
                                          ⟨some 151, .mov (.tmp 11), none⟩,
                                          ⟨some 152, .bin .sub 3 (.tmp 151) (.const (.int .i64 1)), none⟩,
                                          ⟨some 11, .mov (.tmp 152), none⟩] [151, 152])))))) []) [] []) [10, 134])
                      (.seq
                        (.region true [
                            ⟨some 153, .mov (.tmp 0), none⟩,
                            ⟨some 154, .mov (.tmp 11), none⟩,
                            ⟨some 155, .mov (.tmp 0), none⟩,
                            ⟨some 156, .mov (.tmp 1), none⟩,
                            ⟨some 157, .mov (.tmp 0), none⟩,
                            ⟨some 158, .mov (.tmp 1), none⟩,
                            ⟨some 159, .iaddr 1 (.tmp 157) (.tmp 158), none⟩,
                            ⟨some 160, .load false 1 (.tmp 159), none⟩,
                            ⟨some 161, .mov (.tmp 0), none⟩,
                            ⟨some 162, .mov (.tmp 11), none⟩,
                            ⟨some 163, .iaddr 1 (.tmp 161) (.tmp 162), none⟩,
                            ⟨some 164, .load false 1 (.tmp 163), none⟩,
                            ⟨some 165, .iaddr 1 (.tmp 153) (.tmp 154), none⟩,
                            ⟨none, .store 1 (.tmp 165) (.tmp 160), none⟩,
                            ⟨some 166, .iaddr 1 (.tmp 155) (.tmp 156), none⟩,
                            ⟨none, .store 1 (.tmp 166) (.tmp 164), none⟩] [0, 1, 153, 154, 155, 156, 157, 158, 159, 160, 161, 162, 163, 164, 165, 166])
                        (.seq
                          (.region false [
                              ⟨some 167, .mov (.tmp 11), none⟩,
                              ⟨some 8, .mov (.tmp 167), none⟩,
                              ⟨some 9, .mov (.const (.bool false)), none⟩] [11, 167])
                          .ret))))))))))))
abbrev v_slices_partitionOrdered_api_Addr : List RV := [.tmp 8, .tmp 9]
abbrev f_slices_partitionOrdered_api_Addr : FuncId := 61
theorem k_slices_partitionOrdered_api_Addr : closedOf Try.prog Try.f61 = (false, some true, some v_slices_partitionOrdered_api_Addr, some c_slices_partitionOrdered_api_Addr.plain, 168) := by kernel_rfl
theorem ac_slices_partitionOrdered_api_Addr {args : List AV} {r : AV} (h : aw Try.prog c_slices_partitionOrdered_api_Addr (env0 args) (endQ v_slices_partitionOrdered_api_Addr r)) (hargs : args.length ≤ 168 := by decide) (hok : resOK r = true := by rfl) : AC Try.prog f_slices_partitionOrdered_api_Addr args r :=
  AC_mk (by kernel_rfl) Try.func61 k_slices_partitionOrdered_api_Addr hargs hok (by decide) h

/-- math/bits.Len32 (function 62) -/
def c_math_bits_Len32 : ACode :=
  (.seq
    (.region false [
        ⟨some 2, .mov (.const (.int .i64 0)), none⟩] [])
    (.seq
      (.seq
        (.region false [
            ⟨some 3, .mov (.tmp 0), none⟩,
            ⟨some 4, .bin .geq 22 (.tmp 3) (.const (.int .u32 65536)), none⟩] [3])
        (.cond (.tmp 4)
          (.seq
            (.region false [
                ⟨some 5, .mov (.tmp 0), none⟩,
                ⟨some 6, .bin .shr 22 (.tmp 5) (.const (.int .u64 16)), none⟩,
                ⟨some 0, .mov (.tmp 6), none⟩] [2, 4, 5, 6])
            (.region false [
                ⟨some 2, .mov (.const (.int .i64 16)), none⟩] []))
          .skip))
      (.seq
        (.seq
          (.region false [
              ⟨some 7, .mov (.tmp 0), none⟩,
              ⟨some 8, .bin .geq 22 (.tmp 7) (.const (.int .u32 256)), none⟩] [4, 7])
          (.cond (.tmp 8)
            (.seq
              (.region false [
                  ⟨some 9, .mov (.tmp 0), none⟩,
                  ⟨some 10, .bin .shr 22 (.tmp 9) (.const (.int .u64 8)), none⟩,
                  ⟨some 0, .mov (.tmp 10), none⟩] [8, 9, 10])
              (.region false [
                  ⟨some 11, .mov (.tmp 2), none⟩,
                  ⟨some 12, .bin .add 3 (.tmp 11) (.const (.int .i64 8)), none⟩,
                  ⟨some 2, .mov (.tmp 12), none⟩] [11, 12]))
            .skip))
        (.seq
          (.region false [
              ⟨some 13, .mov (.tmp 2), none⟩,
              ⟨some 14, .mov (.tmp 0), none⟩,
              ⟨some 15, .cint .u8 (.tmp 14), none⟩,
              ⟨some 16, .idxs (.const (.string ⟨#[0, 1, 2, 2, 3, 3, 3, 3, 4, 4, 4, 4, 4, 4, 4, 4, 5, 5, 5, 5, 5, 5, 5, 5, 5, 5, 5, 5, 5, 5, 5, 5, 6, 6, 6, 6, 6, 6, 6, 6, 6, 6, 6, 6, 6, 6, 6, 6, 6, 6, 6, 6, 6, 6, 6, 6, 6, 6, 6, 6, 6, 6, 6, 6, 7, 7, 7, 7, 7, 7, 7, 7, 7, 7, 7, 7, 7, 7, 7, 7, 7, 7, 7, 7, 7, 7, 7, 7, 7, 7, 7, 7, 7, 7, 7, 7, 7, 7, 7, 7, 7, 7, 7, 7, 7, 7, 7, 7, 7, 7, 7, 7, 7, 7, 7, 7, 7, 7, 7, 7, 7, 7, 7, 7, 7, 7, 7, 7, 8, 8, 8, 8, 8, 8, 8, 8, 8, 8, 8, 8, 8, 8, 8, 8, 8, 8, 8, 8, 8, 8, 8, 8, 8, 8, 8, 8, 8, 8, 8, 8, 8, 8, 8, 8, 8, 8, 8, 8, 8, 8, 8, 8, 8, 8, 8, 8, 8, 8, 8, 8, 8, 8, 8, 8, 8, 8, 8, 8, 8, 8, 8, 8, 8, 8, 8, 8, 8, 8, 8, 8, 8, 8, 8, 8, 8, 8, 8, 8, 8, 8, 8, 8, 8, 8, 8, 8, 8, 8, 8, 8, 8, 8, 8, 8, 8, 8, 8, 8, 8, 8, 8, 8, 8, 8, 8, 8, 8, 8, 8, 8, 8, 8, 8, 8, 8, 8, 8, 8, 8, 8, 8, 8, 8, 8, 8, 8]⟩)) (.tmp 15), none⟩,
              ⟨some 17, .cint .i64 (.tmp 16), none⟩,
              ⟨some 18, .bin .add 3 (.tmp 13) (.tmp 17), none⟩,
              ⟨some 2, .mov (.tmp 18), none⟩] [0, 8, 13, 14, 15, 16, 17, 18])
          .ret))))
abbrev v_math_bits_Len32 : List RV := [.tmp 2]
abbrev f_math_bits_Len32 : FuncId := 62
theorem k_math_bits_Len32 : closedOf Try.prog Try.f62 = (false, some true, some v_math_bits_Len32, some c_math_bits_Len32.plain, 19) := by kernel_rfl
theorem ac_math_bits_Len32 {args : List AV} {r : AV} (h : aw Try.prog c_math_bits_Len32 (env0 args) (endQ v_math_bits_Len32 r)) (hargs : args.length ≤ 19 := by decide) (hok : resOK r = true := by rfl) : AC Try.prog f_math_bits_Len32 args r :=
  AC_mk (by kernel_rfl) Try.func62 k_math_bits_Len32 hargs hok (by decide) h

/-- math/bits.Len64 (function 63) -/
def c_math_bits_Len64 : ACode :=
  (.seq
    (.region false [
        ⟨some 2, .mov (.const (.int .i64 0)), none⟩] [])
    (.seq
      (.seq
        (.region false [
            ⟨some 3, .mov (.tmp 0), none⟩,
            ⟨some 4, .bin .geq 93 (.tmp 3) (.const (.int .u64 4294967296)), none⟩] [3])
        (.cond (.tmp 4)
          (.seq
            (.region false [
                ⟨some 5, .mov (.tmp 0), none⟩,
                ⟨some 6, .bin .shr 93 (.tmp 5) (.const (.int .u64 32)), none⟩,
                ⟨some 0, .mov (.tmp 6), none⟩] [2, 4, 5, 6])
            (.region false [
                ⟨some 2, .mov (.const (.int .i64 32)), none⟩] []))
          .skip))
      (.seq
        (.seq
          (.region false [
              ⟨some 7, .mov (.tmp 0), none⟩,
              ⟨some 8, .bin .geq 93 (.tmp 7) (.const (.int .u64 65536)), none⟩] [4, 7])
          (.cond (.tmp 8)
            (.seq
              (.region false [
                  ⟨some 9, .mov (.tmp 0), none⟩,
                  ⟨some 10, .bin .shr 93 (.tmp 9) (.const (.int .u64 16)), none⟩,
                  ⟨some 0, .mov (.tmp 10), none⟩] [8, 9, 10])
              (.region false [
                  ⟨some 11, .mov (.tmp 2), none⟩,
                  ⟨some 12, .bin .add 3 (.tmp 11) (.const (.int .i64 16)), none⟩,
                  ⟨some 2, .mov (.tmp 12), none⟩] [11, 12]))
            .skip))
        (.seq
          (.seq
            (.region false [
                ⟨some 13, .mov (.tmp 0), none⟩,
                ⟨some 14, .bin .geq 93 (.tmp 13) (.const (.int .u64 256)), none⟩] [8, 13])
            (.cond (.tmp 14)
              (.seq
                (.region false [
                    ⟨some 15, .mov (.tmp 0), none⟩,
                    ⟨some 16, .bin .shr 93 (.tmp 15) (.const (.int .u64 8)), none⟩,
                    ⟨some 0, .mov (.tmp 16), none⟩] [14, 15, 16])
                (.region false [
                    ⟨some 17, .mov (.tmp 2), none⟩,
                    ⟨some 18, .bin .add 3 (.tmp 17) (.const (.int .i64 8)), none⟩,
                    ⟨some 2, .mov (.tmp 18), none⟩] [17, 18]))
              .skip))
          (.seq
            (.region false [
                ⟨some 19, .mov (.tmp 2), none⟩,
                ⟨some 20, .mov (.tmp 0), none⟩,
                ⟨some 21, .cint .u8 (.tmp 20), none⟩,
                ⟨some 22, .idxs (.const (.string ⟨#[0, 1, 2, 2, 3, 3, 3, 3, 4, 4, 4, 4, 4, 4, 4, 4, 5, 5, 5, 5, 5, 5, 5, 5, 5, 5, 5, 5, 5, 5, 5, 5, 6, 6, 6, 6, 6, 6, 6, 6, 6, 6, 6, 6, 6, 6, 6, 6, 6, 6, 6, 6, 6, 6, 6, 6, 6, 6, 6, 6, 6, 6, 6, 6, 7, 7, 7, 7, 7, 7, 7, 7, 7, 7, 7, 7, 7, 7, 7, 7, 7, 7, 7, 7, 7, 7, 7, 7, 7, 7, 7, 7, 7, 7, 7, 7, 7, 7, 7, 7, 7, 7, 7, 7, 7, 7, 7, 7, 7, 7, 7, 7, 7, 7, 7, 7, 7, 7, 7, 7, 7, 7, 7, 7, 7, 7, 7, 7, 8, 8, 8, 8, 8, 8, 8, 8, 8, 8, 8, 8, 8, 8, 8, 8, 8, 8, 8, 8, 8, 8, 8, 8, 8, 8, 8, 8, 8, 8, 8, 8, 8, 8, 8, 8, 8, 8, 8, 8, 8, 8, 8, 8, 8, 8, 8, 8, 8, 8, 8, 8, 8, 8, 8, 8, 8, 8, 8, 8, 8, 8, 8, 8, 8, 8, 8, 8, 8, 8, 8, 8, 8, 8, 8, 8, 8, 8, 8, 8, 8, 8, 8, 8, 8, 8, 8, 8, 8, 8, 8, 8, 8, 8, 8, 8, 8, 8, 8, 8, 8, 8, 8, 8, 8, 8, 8, 8, 8, 8, 8, 8, 8, 8, 8, 8, 8, 8, 8, 8, 8, 8, 8, 8, 8, 8, 8, 8]⟩)) (.tmp 21), none⟩,
                ⟨some 23, .cint .i64 (.tmp 22), none⟩,
                ⟨some 24, .bin .add 3 (.tmp 19) (.tmp 23), none⟩,
                ⟨some 2, .mov (.tmp 24), none⟩] [0, 14, 19, 20, 21, 22, 23, 24])
            .ret)))))
abbrev v_math_bits_Len64 : List RV := [.tmp 2]
abbrev f_math_bits_Len64 : FuncId := 63
theorem k_math_bits_Len64 : closedOf Try.prog Try.f63 = (false, some true, some v_math_bits_Len64, some c_math_bits_Len64.plain, 25) := by kernel_rfl
theorem ac_math_bits_Len64 {args : List AV} {r : AV} (h : aw Try.prog c_math_bits_Len64 (env0 args) (endQ v_math_bits_Len64 r)) (hargs : args.length ≤ 25 := by decide) (hok : resOK r = true := by rfl) : AC Try.prog f_math_bits_Len64 args r :=
  AC_mk (by kernel_rfl) Try.func63 k_math_bits_Len64 hargs hok (by decide) h

/-- slices.siftDownOrdered[rivulet/api.Addr] (function 64) -/
def c_slices_siftDownOrdered_api_Addr : ACode :=
  (.seq
    (.region false [
        ⟨some 10, .mov (.tmp 1), none⟩,
        ⟨some 8, .mov (.tmp 10), none⟩] [1, 10])
    (.block 0
      (.loop
        (.block 1
          (.seq
            (.region false [
                ⟨some 11, .mov (.tmp 8), none⟩,
                ⟨some 12, .bin .mul 3 (.const (.int .i64 2)) (.tmp 11), none⟩,
                ⟨some 13, .bin .add 3 (.tmp 12) (.const (.int .i64 1)), none⟩,
                ⟨some 9, .mov (.tmp 13), none⟩] [11, 12, 13])
            (.seq
              (.seq
                (.region false [
                    ⟨some 14, .mov (.tmp 9), none⟩,
                    ⟨some 15, .mov (.tmp 2), none⟩,
                    ⟨some 16, .bin .geq 3 (.tmp 14) (.tmp 15), none⟩] [14, 15])
                (.cond (.tmp 16)
                  (.exit 0)
                  .skip))
              (.seq
                (.seq
                  (.region true [
                      ⟨some 17, .mov (.tmp 9), none⟩,
                      ⟨some 18, .bin .add 3 (.tmp 17) (.const (.int .i64 1)), none⟩,
                      ⟨some 19, .mov (.tmp 2), none⟩,
                      ⟨some 20, .bin .lss 3 (.tmp 18) (.tmp 19), none⟩,
                      ⟨some 21, .mov (.tmp 20), none⟩,
                      ⟨some 22, .mov (.tmp 0), (some (21, true))⟩,
                      ⟨some 23, .mov (.tmp 3), (some (21, true))⟩,
                      ⟨some 24, .mov (.tmp 9), (some (21, true))⟩,
                      ⟨some 25, .bin .add 3 (.tmp 23) (.tmp 24), (some (21, true))⟩,
                      ⟨some 26, .iaddr 1 (.tmp 22) (.tmp 25), (some (21, true))⟩,
                      ⟨some 27, .load false 1 (.tmp 26), (some (21, true))⟩,
                      ⟨some 28, .mov (.tmp 0), (some (21, true))⟩,
                      ⟨some 29, .mov (.tmp 3), (some (21, true))⟩,
                      ⟨some 30, .mov (.tmp 9), (some (21, true))⟩,
                      ⟨some 31, .bin .add 3 (.tmp 29) (.tmp 30), (some (21, true))⟩,
                      ⟨some 32, .bin .add 3 (.tmp 31) (.const (.int .i64 1)), (some (21, true))⟩,
                      ⟨some 33, .iaddr 1 (.tmp 28) (.tmp 32), (some (21, true))⟩,
                      ⟨some 34, .load false 1 (.tmp 33), (some (21, true))⟩,
                      ⟨some 35, .call 59 [.tmp 27, .tmp 34], (some (21, true))⟩,
                      ⟨some 36, .pick (.tmp 21) (.tmp 35) (.const (.bool false)), none⟩] [16, 17, 18, 19, 20, 21, 22, 23, 24, 25, 26, 27, 28, 29, 30, 31, 32, 33, 34, 35])
                  (.cond (.tmp 36)
                    (.region false [
                        ⟨some 37, .mov (.tmp 9), none⟩,
                        ⟨some 38, .bin .add 3 (.tmp 37) (.const (.int .i64 1)), none⟩,
                        ⟨some 9, .mov (.tmp 38), none⟩] [36, 37, 38])
                    .skip))
                (.seq
                  (.seq
                    (.region true [
                        ⟨some 39, .mov (.tmp 0), none⟩,
                        ⟨some 40, .mov (.tmp 3), none⟩,
                        ⟨some 41, .mov (.tmp 8), none⟩,
                        ⟨some 42, .bin .add 3 (.tmp 40) (.tmp 41), none⟩,
                        ⟨some 43, .iaddr 1 (.tmp 39) (.tmp 42), none⟩,
                        ⟨some 44, .load false 1 (.tmp 43), none⟩,
                        ⟨some 45, .mov (.tmp 0), none⟩,
                        ⟨some 46, .mov (.tmp 3), none⟩,
                        ⟨some 47, .mov (.tmp 9), none⟩,
                        ⟨some 48, .bin .add 3 (.tmp 46) (.tmp 47), none⟩,
                        ⟨some 49, .iaddr 1 (.tmp 45) (.tmp 48), none⟩,
                        ⟨some 50, .load false 1 (.tmp 49), none⟩,
                        ⟨some 51, .call 59 [.tmp 44, .tmp 50], none⟩,
                        ⟨some 52, .un .not (.tmp 51), none⟩] [36, 39, 40, 41, 42, 43, 44, 45, 46, 47, 48, 49, 50, 51])
                    (.cond (.tmp 52)
                      .ret
                      .skip))
                  (.seq
                    (.region true [
                        ⟨some 53, .mov (.tmp 0), none⟩,
                        ⟨some 54, .mov (.tmp 3), none⟩,
                        ⟨some 55, .mov (.tmp 8), none⟩,
                        ⟨some 56, .bin .add 3 (.tmp 54) (.tmp 55), none⟩,
                        ⟨some 57, .mov (.tmp 0), none⟩,
                        ⟨some 58, .mov (.tmp 3), none⟩,
                        ⟨some 59, .mov (.tmp 9), none⟩,
                        ⟨some 60, .bin .add 3 (.tmp 58) (.tmp 59), none⟩,
                        ⟨some 61, .mov (.tmp 0), none⟩,
                        ⟨some 62, .mov (.tmp 3), none⟩,
                        ⟨some 63, .mov (.tmp 9), none⟩,
                        ⟨some 64, .bin .add 3 (.tmp 62) (.tmp 63), none⟩,
                        ⟨some 65, .iaddr 1 (.tmp 61) (.tmp 64), none⟩,
                        ⟨some 66, .load false 1 (.tmp 65), none⟩,
                        ⟨some 67, .mov (.tmp 0), none⟩,
                        ⟨some 68, .mov (.tmp 3), none⟩,
                        ⟨some 69, .mov (.tmp 8), none⟩,
                        ⟨some 70, .bin .add 3 (.tmp 68) (.tmp 69), none⟩,
                        ⟨some 71, .iaddr 1 (.tmp 67) (.tmp 70), none⟩,
                        ⟨some 72, .load false 1 (.tmp 71), none⟩,
                        ⟨some 73, .iaddr 1 (.tmp 53) (.tmp 56), none⟩,
                        ⟨none, .store 1 (.tmp 73) (.tmp 66), none⟩,
                        ⟨some 74, .iaddr 1 (.tmp 57) (.tmp 60), none⟩,
                        ⟨none, .store 1 (.tmp 74) (.tmp 72), none⟩] [8, 52, 53, 54, 55, 56, 57, 58, 59, 60, 61, 62, 63, 64, 65, 66, 67, 68, 69, 70, 71, 72, 73, 74])
                    (.region false [
                        ⟨some 75, .mov (.tmp 9), none⟩,
                        ⟨some 8, .mov (.tmp 75), none⟩] [9, 75])))))) []) [] []) [0, 2, 3, 8, 9, 16]))
abbrev v_slices_siftDownOrdered_api_Addr : List RV := []
abbrev f_slices_siftDownOrdered_api_Addr : FuncId := 64
theorem k_slices_siftDownOrdered_api_Addr : closedOf Try.prog Try.f64 = (false, some true, some v_slices_siftDownOrdered_api_Addr, some c_slices_siftDownOrdered_api_Addr.plain, 76) := by kernel_rfl
theorem ac_slices_siftDownOrdered_api_Addr {args : List AV} {r : AV} (h : aw Try.prog c_slices_siftDownOrdered_api_Addr (env0 args) (endQ v_slices_siftDownOrdered_api_Addr r)) (hargs : args.length ≤ 76 := by decide) (hok : resOK r = true := by rfl) : AC Try.prog f_slices_siftDownOrdered_api_Addr args r :=
  AC_mk (by kernel_rfl) Try.func64 k_slices_siftDownOrdered_api_Addr hargs hok (by decide) h

/-- slices.nextPowerOfTwo (function 65) -/
def c_slices_nextPowerOfTwo : ACode :=
  (.seq
    (.region false [
        ⟨some 2, .mov (.const (.int .u64 0)), none⟩] [2])
    (.seq
      (.region false [
          ⟨some 3, .mov (.tmp 0), none⟩,
          ⟨some 4, .cint .u64 (.tmp 3), none⟩,
          ⟨some 5, .callm 52 [.tmp 4], none⟩,
          ⟨some 6, .bin .shl 82 (.const (.int .u64 1)) (.tmp 5), none⟩,
          ⟨some 2, .mov (.tmp 6), none⟩] [0, 3, 4, 5, 6])
      .ret))
abbrev v_slices_nextPowerOfTwo : List RV := [.tmp 2]
abbrev f_slices_nextPowerOfTwo : FuncId := 65
theorem k_slices_nextPowerOfTwo : closedOf Try.prog Try.f65 = (false, some true, some v_slices_nextPowerOfTwo, some c_slices_nextPowerOfTwo.plain, 7) := by kernel_rfl
theorem ac_slices_nextPowerOfTwo {args : List AV} {r : AV} (h : aw Try.prog c_slices_nextPowerOfTwo (env0 args) (endQ v_slices_nextPowerOfTwo r)) (hargs : args.length ≤ 7 := by decide) (hok : resOK r = true := by rfl) : AC Try.prog f_slices_nextPowerOfTwo args r :=
  AC_mk (by kernel_rfl) Try.func65 k_slices_nextPowerOfTwo hargs hok (by decide) h

/-- slices.medianAdjacentOrdered[rivulet/api.Addr] (function 67) -/
def c_slices_medianAdjacentOrdered_api_Addr : ACode :=
  (.seq
    (.region false [
        ⟨some 6, .mov (.const (.int .i64 0)), none⟩] [6])
    (.seq
      (.region false [
          ⟨some 7, .mov (.tmp 0), none⟩,
          ⟨some 8, .mov (.tmp 1), none⟩,
          ⟨some 9, .bin .sub 3 (.tmp 8) (.const (.int .i64 1)), none⟩,
          ⟨some 10, .mov (.tmp 1), none⟩,
          ⟨some 11, .mov (.tmp 1), none⟩,
          ⟨some 12, .bin .add 3 (.tmp 11) (.const (.int .i64 1)), none⟩,
          ⟨some 13, .mov (.tmp 2), none⟩,
          ⟨some 14, .callm 68 [.tmp 7, .tmp 9, .tmp 10, .tmp 12, .tmp 13], none⟩,
          ⟨some 6, .mov (.tmp 14), none⟩] [0, 1, 2, 7, 8, 9, 10, 11, 12, 13, 14])
      .ret))
abbrev v_slices_medianAdjacentOrdered_api_Addr : List RV := [.tmp 6]
abbrev f_slices_medianAdjacentOrdered_api_Addr : FuncId := 67
theorem k_slices_medianAdjacentOrdered_api_Addr : closedOf Try.prog Try.f67 = (false, some true, some v_slices_medianAdjacentOrdered_api_Addr, some c_slices_medianAdjacentOrdered_api_Addr.plain, 15) := by kernel_rfl
theorem ac_slices_medianAdjacentOrdered_api_Addr {args : List AV} {r : AV} (h : aw Try.prog c_slices_medianAdjacentOrdered_api_Addr (env0 args) (endQ v_slices_medianAdjacentOrdered_api_Addr r)) (hargs : args.length ≤ 15 := by decide) (hok : resOK r = true := by rfl) : AC Try.prog f_slices_medianAdjacentOrdered_api_Addr args r :=
  AC_mk (by kernel_rfl) Try.func67 k_slices_medianAdjacentOrdered_api_Addr hargs hok (by decide) h

/-- slices.medianOrdered[rivulet/api.Addr] (function 68) -/
def c_slices_medianOrdered_api_Addr : ACode :=
  (.seq
    (.region false [
        ⟨some 10, .mov (.const (.int .i64 0)), none⟩] [10])
    (.seq
      (.region false [
          ⟨some 12, .mov (.tmp 0), none⟩,
          ⟨some 13, .mov (.tmp 1), none⟩,
          ⟨some 14, .mov (.tmp 2), none⟩,
          ⟨some 15, .mov (.tmp 4), none⟩,
          ⟨some 16, .callm 70 [.tmp 12, .tmp 13, .tmp 14, .tmp 15], none⟩,
          ⟨some 11, .mov (.tmp 16), none⟩,
          ⟨some 17, .ext (.tmp 11) 0, none⟩,
          ⟨some 18, .ext (.tmp 11) 1, none⟩,
          ⟨some 1, .mov (.tmp 17), none⟩,
          ⟨some 2, .mov (.tmp 18), none⟩] [11, 12, 13, 14, 15, 16, 17, 18])
      (.seq
        (.region false [
            ⟨some 20, .mov (.tmp 0), none⟩,
            ⟨some 21, .mov (.tmp 2), none⟩,
            ⟨some 22, .mov (.tmp 3), none⟩,
            ⟨some 23, .mov (.tmp 4), none⟩,
            ⟨some 24, .callm 70 [.tmp 20, .tmp 21, .tmp 22, .tmp 23], none⟩,
            ⟨some 19, .mov (.tmp 24), none⟩,
            ⟨some 25, .ext (.tmp 19) 0, none⟩,
            ⟨some 26, .ext (.tmp 19) 1, none⟩,
            ⟨some 2, .mov (.tmp 25), none⟩,
            ⟨some 3, .mov (.tmp 26), none⟩] [3, 19, 20, 21, 22, 23, 24, 25, 26])
        (.seq
          (.region false [
              ⟨some 28, .mov (.tmp 0), none⟩,
              ⟨some 29, .mov (.tmp 1), none⟩,
              ⟨some 30, .mov (.tmp 2), none⟩,
              ⟨some 31, .mov (.tmp 4), none⟩,
              ⟨some 32, .callm 70 [.tmp 28, .tmp 29, .tmp 30, .tmp 31], none⟩,
              ⟨some 27, .mov (.tmp 32), none⟩,
              ⟨some 33, .ext (.tmp 27) 0, none⟩,
              ⟨some 34, .ext (.tmp 27) 1, none⟩,
              ⟨some 1, .mov (.tmp 33), none⟩,
              ⟨some 2, .mov (.tmp 34), none⟩] [0, 1, 4, 27, 28, 29, 30, 31, 32, 33, 34])
          (.seq
            (.region false [
                ⟨some 35, .mov (.tmp 2), none⟩,
                ⟨some 10, .mov (.tmp 35), none⟩] [2, 35])
            .ret)))))
abbrev v_slices_medianOrdered_api_Addr : List RV := [.tmp 10]
abbrev f_slices_medianOrdered_api_Addr : FuncId := 68
theorem k_slices_medianOrdered_api_Addr : closedOf Try.prog Try.f68 = (false, some true, some v_slices_medianOrdered_api_Addr, some c_slices_medianOrdered_api_Addr.plain, 36) := by kernel_rfl
theorem ac_slices_medianOrdered_api_Addr {args : List AV} {r : AV} (h : aw Try.prog c_slices_medianOrdered_api_Addr (env0 args) (endQ v_slices_medianOrdered_api_Addr r)) (hargs : args.length ≤ 36 := by decide) (hok : resOK r = true := by rfl) : AC Try.prog f_slices_medianOrdered_api_Addr args r :=
  AC_mk (by kernel_rfl) Try.func68 k_slices_medianOrdered_api_Addr hargs hok (by decide) h

/-- cmp.isNaN[rivulet/api.Addr] (function 69) -/
def c_cmp_isNaN_api_Addr : ACode :=
  (.seq
    (.region false [
        ⟨some 2, .mov (.const (.bool false)), none⟩] [2])
    (.seq
      (.region false [
          ⟨some 3, .mov (.tmp 0), none⟩,
          ⟨some 4, .mov (.tmp 0), none⟩,
          ⟨some 5, .bin .neq 23 (.tmp 3) (.tmp 4), none⟩,
          ⟨some 2, .mov (.tmp 5), none⟩] [0, 3, 4, 5])
      .ret))
abbrev v_cmp_isNaN_api_Addr : List RV := [.tmp 2]
abbrev f_cmp_isNaN_api_Addr : FuncId := 69
theorem k_cmp_isNaN_api_Addr : closedOf Try.prog Try.f69 = (false, some true, some v_cmp_isNaN_api_Addr, some c_cmp_isNaN_api_Addr.plain, 6) := by kernel_rfl
theorem ac_cmp_isNaN_api_Addr {args : List AV} {r : AV} (h : aw Try.prog c_cmp_isNaN_api_Addr (env0 args) (endQ v_cmp_isNaN_api_Addr r)) (hargs : args.length ≤ 6 := by decide) (hok : resOK r = true := by rfl) : AC Try.prog f_cmp_isNaN_api_Addr args r :=
  AC_mk (by kernel_rfl) Try.func69 k_cmp_isNaN_api_Addr hargs hok (by decide) h

/-- slices.order2Ordered[rivulet/api.Addr] (function 70) -/
def c_slices_order2Ordered_api_Addr : ACode :=
  (.seq
    (.region false [
        ⟨some 8, .mov (.const (.int .i64 0)), none⟩,
        ⟨some 9, .mov (.const (.int .i64 0)), none⟩] [8, 9])
    (.seq
      (.seq
        (.region true [
            ⟨some 10, .mov (.tmp 0), none⟩,
            ⟨some 11, .mov (.tmp 2), none⟩,
            ⟨some 12, .iaddr 1 (.tmp 10) (.tmp 11), none⟩,
            ⟨some 13, .load false 1 (.tmp 12), none⟩,
            ⟨some 14, .mov (.tmp 0), none⟩,
            ⟨some 15, .mov (.tmp 1), none⟩,
            ⟨some 16, .iaddr 1 (.tmp 14) (.tmp 15), none⟩,
            ⟨some 17, .load false 1 (.tmp 16), none⟩,
            ⟨some 18, .call 59 [.tmp 13, .tmp 17], none⟩] [0, 10, 11, 12, 13, 14, 15, 16, 17])
        (.cond (.tmp 18)
          (.seq
            (.region false [
                ⟨some 19, .mov (.tmp 3), none⟩,
                ⟨some 20, .nilchk (.tmp 19), none⟩,
                ⟨some 21, .load false 1 (.tmp 20), none⟩,
                ⟨some 22, .bin .add 3 (.tmp 21) (.const (.int .i64 1)), none⟩,
                ⟨some 23, .nilchk (.tmp 19), none⟩,
                ⟨none, .store 1 (.tmp 23) (.tmp 22), none⟩] [3, 18, 19, 20, 21, 22, 23])
            (.seq
              (.region false [
                  ⟨some 24, .mov (.tmp 2), none⟩,
                  ⟨some 25, .mov (.tmp 1), none⟩,
                  ⟨some 8, .mov (.tmp 24), none⟩,
                  ⟨some 9, .mov (.tmp 25), none⟩] [1, 2, 24, 25])
              .ret))
          .skip))
      (.seq
        (.region false [
            ⟨some 26, .mov (.tmp 1), none⟩,
            ⟨some 27, .mov (.tmp 2), none⟩,
            ⟨some 8, .mov (.tmp 26), none⟩,
            ⟨some 9, .mov (.tmp 27), none⟩] [1, 2, 3, 18, 26, 27])
        .ret)))
abbrev v_slices_order2Ordered_api_Addr : List RV := [.tmp 8, .tmp 9]
abbrev f_slices_order2Ordered_api_Addr : FuncId := 70
theorem k_slices_order2Ordered_api_Addr : closedOf Try.prog Try.f70 = (false, some true, some v_slices_order2Ordered_api_Addr, some c_slices_order2Ordered_api_Addr.plain, 28) := by kernel_rfl
theorem ac_slices_order2Ordered_api_Addr {args : List AV} {r : AV} (h : aw Try.prog c_slices_order2Ordered_api_Addr (env0 args) (endQ v_slices_order2Ordered_api_Addr r)) (hargs : args.length ≤ 28 := by decide) (hok : resOK r = true := by rfl) : AC Try.prog f_slices_order2Ordered_api_Addr args r :=
  AC_mk (by kernel_rfl) Try.func70 k_slices_order2Ordered_api_Addr hargs hok (by decide) h


end Go.Proofs.Ytodnphnbnneegaa.VL
