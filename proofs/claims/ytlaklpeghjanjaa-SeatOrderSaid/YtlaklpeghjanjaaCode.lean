/- Bodies, printed by gen.py (this session's program). -/
import Derived.Test.YtlaklpeghjanjaaVL20
import Derived.Test.YtlaklpeghjanjaaProg
set_option linter.unusedVariables false
set_option maxRecDepth 100000
namespace Go.Proofs.Ytlaklpeghjanjaa.VL
open Go.Proofs

/-- rivulet/rivuletlaw12.SeatOrder (function 3) -/
def c_rivuletlaw12_SeatOrder : ACode :=
  (.seq
    (.region false [
        ⟨some 3, .box (.tmp 0), none⟩,
        ⟨some 4, .box (.tmp 1), none⟩,
        ⟨some 5, .box (.tmp 2), none⟩,
        ⟨some 6, .mov (.const (.bool false)), none⟩] [0, 1, 2, 6])
    (.seq
      (.region false [
          ⟨some 13, .call 8 [], none⟩,
          ⟨some 7, .mov (.tmp 13), none⟩] [13])
      (.seq
        (.seq
          (.region false [
              ⟨some 14, .mov (.tmp 7), none⟩,
              ⟨some 15, .un .not (.tmp 14), none⟩] [14])
          (.cond (.tmp 15)
            (.seq
              (.region false [
                  ⟨some 6, .mov (.const (.bool false)), none⟩] [])
              .ret)
            .skip))
        (.seq
          (.region false [
              ⟨some 16, .faddr 0 1 (.tmp 3), none⟩,
              ⟨some 17, .load false 1 (.tmp 16), none⟩,
              ⟨some 18, .faddr 0 1 (.tmp 4), none⟩,
              ⟨some 19, .load false 1 (.tmp 18), none⟩,
              ⟨some 20, .bin .eql 3 (.tmp 17) (.tmp 19), none⟩,
              ⟨some 21, .mov (.tmp 20), none⟩,
              ⟨some 22, .faddr 1 1 (.tmp 3), (some (21, true))⟩,
              ⟨some 23, .load false 1 (.tmp 22), (some (21, true))⟩,
              ⟨some 24, .faddr 1 1 (.tmp 4), (some (21, true))⟩,
              ⟨some 25, .load false 1 (.tmp 24), (some (21, true))⟩,
              ⟨some 26, .bin .eql 23 (.tmp 23) (.tmp 25), (some (21, true))⟩,
              ⟨some 27, .pick (.tmp 21) (.tmp 26) (.const (.bool false)), none⟩,
              ⟨some 8, .mov (.tmp 27), none⟩] [16, 17, 18, 19, 20, 21, 22, 23, 24, 25, 26, 27])
          (.seq
            (.seq
              (.region false [
                  ⟨some 28, .load true 2 (.tmp 3), none⟩,
                  ⟨some 29, .load true 2 (.tmp 4), none⟩,
                  ⟨some 30, .call 9 [.tmp 28, .tmp 29], none⟩,
                  ⟨some 31, .mov (.tmp 30), none⟩,
                  ⟨some 32, .load true 2 (.tmp 4), (some (31, true))⟩,
                  ⟨some 33, .load true 2 (.tmp 3), (some (31, true))⟩,
                  ⟨some 34, .call 9 [.tmp 32, .tmp 33], (some (31, true))⟩,
                  ⟨some 35, .pick (.tmp 31) (.tmp 34) (.const (.bool false)), none⟩,
                  ⟨some 36, .mov (.tmp 35), none⟩,
                  ⟨some 37, .load true 2 (.tmp 3), (some (36, false))⟩,
                  ⟨some 38, .load true 2 (.tmp 4), (some (36, false))⟩,
                  ⟨some 39, .call 9 [.tmp 37, .tmp 38], (some (36, false))⟩,
                  ⟨some 40, .mov (.tmp 39), (some (36, false))⟩,
                  ⟨some 41, .load true 2 (.tmp 4), (some (40, false))⟩,
                  ⟨some 42, .load true 2 (.tmp 3), (some (40, false))⟩,
                  ⟨some 43, .call 9 [.tmp 41, .tmp 42], (some (40, false))⟩,
                  ⟨some 44, .pick (.tmp 40) (.const (.bool true)) (.tmp 43), (some (36, false))⟩,
                  ⟨some 45, .mov (.tmp 8), (some (36, false))⟩,
                  ⟨some 46, .eqb false 4 (.tmp 44) (.tmp 45), (some (36, false))⟩,
                  ⟨some 47, .pick (.tmp 36) (.const (.bool true)) (.tmp 46), none⟩,
                  ⟨some 48, .mov (.tmp 47), none⟩,
                  ⟨some 49, .load true 2 (.tmp 3), (some (48, false))⟩,
                  ⟨some 50, .load true 2 (.tmp 4), (some (48, false))⟩,
                  ⟨some 51, .call 9 [.tmp 49, .tmp 50], (some (48, false))⟩,
                  ⟨some 52, .mov (.tmp 51), (some (48, false))⟩,
                  ⟨some 53, .load true 2 (.tmp 4), (some (52, true))⟩,
                  ⟨some 54, .load true 2 (.tmp 5), (some (52, true))⟩,
                  ⟨some 55, .call 9 [.tmp 53, .tmp 54], (some (52, true))⟩,
                  ⟨some 56, .pick (.tmp 52) (.tmp 55) (.const (.bool false)), (some (48, false))⟩,
                  ⟨some 57, .mov (.tmp 56), (some (48, false))⟩,
                  ⟨some 58, .load true 2 (.tmp 3), (some (57, true))⟩,
                  ⟨some 59, .load true 2 (.tmp 5), (some (57, true))⟩,
                  ⟨some 60, .call 9 [.tmp 58, .tmp 59], (some (57, true))⟩,
                  ⟨some 61, .un .not (.tmp 60), (some (57, true))⟩,
                  ⟨some 62, .pick (.tmp 57) (.tmp 61) (.const (.bool false)), (some (48, false))⟩,
                  ⟨some 63, .pick (.tmp 48) (.const (.bool true)) (.tmp 62), none⟩] [8, 28, 29, 30, 31, 32, 33, 34, 35, 36, 37, 38, 39, 40, 41, 42, 43, 44, 45, 46, 47, 48, 49, 50, 51, 52, 53, 54, 55, 56, 57, 58, 59, 60, 61, 62])
              (.cond (.tmp 63)
                (.seq
                  (.region false [
                      ⟨some 6, .mov (.const (.bool false)), none⟩] [])
                  .ret)
                .skip))
            (.seq
              (.region false [
                  ⟨some 65, .load true 2 (.tmp 3), none⟩,
                  ⟨some 66, .load true 2 (.tmp 4), none⟩,
                  ⟨some 67, .load true 2 (.tmp 5), none⟩,
                  ⟨some 68, .bslice 3 2 [.tmp 65, .tmp 66, .tmp 67], none⟩,
                  ⟨some 69, .call 10 [.tmp 68], none⟩,
                  ⟨some 64, .mov (.tmp 69), none⟩,
                  ⟨some 70, .ext (.tmp 64) 0, none⟩,
                  ⟨some 71, .ext (.tmp 64) 1, none⟩,
                  ⟨some 9, .mov (.tmp 70), none⟩,
                  ⟨some 10, .mov (.tmp 71), none⟩] [64, 65, 66, 67, 68, 69, 70, 71])
              (.seq
                (.region false [
                    ⟨some 72, .load true 2 (.tmp 3), none⟩,
                    ⟨some 73, .load true 2 (.tmp 4), none⟩,
                    ⟨some 74, .load true 2 (.tmp 5), none⟩,
                    ⟨some 75, .bslice 3 2 [.tmp 72, .tmp 73, .tmp 74], none⟩,
                    ⟨some 11, .mov (.tmp 75), none⟩] [72, 73, 74, 75])
                (.seq
                  (.region false [
                      ⟨some 12, .mov (.const (.int .u32 0)), none⟩] [])
                  (.seq
                    (.region true [
                        ⟨some 76, .mov (.tmp 7), none⟩,
                        ⟨some 77, .mov (.tmp 76), none⟩,
                        ⟨some 78, .mov (.tmp 10), (some (77, true))⟩,
                        ⟨some 79, .pick (.tmp 77) (.tmp 78) (.const (.bool false)), none⟩,
                        ⟨some 80, .mov (.tmp 79), none⟩,
                        ⟨some 81, .mov (.tmp 9), (some (80, true))⟩,
                        ⟨some 82, .bin .geq 3 (.tmp 81) (.const (.int .i64 0)), (some (80, true))⟩,
                        ⟨some 83, .pick (.tmp 80) (.tmp 82) (.const (.bool false)), none⟩,
                        ⟨some 84, .mov (.tmp 83), none⟩,
                        ⟨some 85, .mov (.tmp 9), (some (84, true))⟩,
                        ⟨some 86, .bin .lss 3 (.tmp 85) (.const (.int .i64 3)), (some (84, true))⟩,
                        ⟨some 87, .pick (.tmp 84) (.tmp 86) (.const (.bool false)), none⟩,
                        ⟨some 88, .mov (.tmp 87), none⟩,
                        ⟨some 89, .load true 2 (.tmp 3), (some (88, true))⟩,
                        ⟨some 90, .mov (.tmp 11), (some (88, true))⟩,
                        ⟨some 91, .mov (.tmp 9), (some (88, true))⟩,
                        ⟨some 92, .iaddr 2 (.tmp 90) (.tmp 91), (some (88, true))⟩,
                        ⟨some 93, .load true 2 (.tmp 92), (some (88, true))⟩,
                        ⟨some 94, .call 9 [.tmp 89, .tmp 93], (some (88, true))⟩,
                        ⟨some 95, .un .not (.tmp 94), (some (88, true))⟩,
                        ⟨some 96, .pick (.tmp 88) (.tmp 95) (.const (.bool false)), none⟩,
                        ⟨some 97, .mov (.tmp 96), none⟩,
                        ⟨some 98, .load true 2 (.tmp 4), (some (97, true))⟩,
                        ⟨some 99, .mov (.tmp 11), (some (97, true))⟩,
                        ⟨some 100, .mov (.tmp 9), (some (97, true))⟩,
                        ⟨some 101, .iaddr 2 (.tmp 99) (.tmp 100), (some (97, true))⟩,
                        ⟨some 102, .load true 2 (.tmp 101), (some (97, true))⟩,
                        ⟨some 103, .call 9 [.tmp 98, .tmp 102], (some (97, true))⟩,
                        ⟨some 104, .un .not (.tmp 103), (some (97, true))⟩,
                        ⟨some 105, .pick (.tmp 97) (.tmp 104) (.const (.bool false)), none⟩,
                        ⟨some 106, .mov (.tmp 105), none⟩,
                        ⟨some 107, .load true 2 (.tmp 5), (some (106, true))⟩,
                        ⟨some 108, .mov (.tmp 11), (some (106, true))⟩,
                        ⟨some 109, .mov (.tmp 9), (some (106, true))⟩,
                        ⟨some 110, .iaddr 2 (.tmp 108) (.tmp 109), (some (106, true))⟩,
                        ⟨some 111, .load true 2 (.tmp 110), (some (106, true))⟩,
                        ⟨some 112, .call 9 [.tmp 107, .tmp 111], (some (106, true))⟩,
                        ⟨some 113, .un .not (.tmp 112), (some (106, true))⟩,
                        ⟨some 114, .pick (.tmp 106) (.tmp 113) (.const (.bool false)), none⟩,
                        ⟨some 115, .mov (.tmp 114), none⟩,
                        ⟨some 116, .mov (.tmp 12), (some (115, true))⟩,
                        ⟨some 117, .bin .eql 23 (.tmp 116) (.const (.int .u32 0)), (some (115, true))⟩,
                        ⟨some 118, .pick (.tmp 115) (.tmp 117) (.const (.bool false)), none⟩,
                        ⟨some 119, .mov (.tmp 118), none⟩,
                        ⟨some 120, .call 11 [.const (.int .i64 1), .const (.int .i64 2)], (some (119, true))⟩,
                        ⟨some 121, .bin .eql 3 (.tmp 120) (.const (.int .i64 1)), (some (119, true))⟩,
                        ⟨some 122, .pick (.tmp 119) (.tmp 121) (.const (.bool false)), none⟩,
                        ⟨some 6, .mov (.tmp 122), none⟩] [3, 4, 5, 7, 9, 10, 11, 12, 76, 77, 78, 79, 80, 81, 82, 83, 84, 85, 86, 87, 88, 89, 90, 91, 92, 93, 94, 95, 96, 97, 98, 99, 100, 101, 102, 103, 104, 105, 106, 107, 108, 109, 110, 111, 112, 113, 114, 115, 116, 117, 118, 119, 120, 121, 122])
                    .ret)))))))))
abbrev v_rivuletlaw12_SeatOrder : List RV := [.tmp 6]
abbrev f_rivuletlaw12_SeatOrder : FuncId := 3
theorem k_rivuletlaw12_SeatOrder : closedOf Try.prog Try.f3 = (false, some true, some v_rivuletlaw12_SeatOrder, some c_rivuletlaw12_SeatOrder.plain, 123) := by kernel_rfl
theorem ac_rivuletlaw12_SeatOrder {args : List AV} {r : AV} (h : aw Try.prog c_rivuletlaw12_SeatOrder (env0 args) (endQ v_rivuletlaw12_SeatOrder r)) (hargs : args.length ≤ 123 := by decide) (hok : resOK r = true := by rfl) : AC Try.prog f_rivuletlaw12_SeatOrder args r :=
  AC_mk (by kernel_rfl) Try.func3 k_rivuletlaw12_SeatOrder hargs hok h

/-- rivulet/rivuletlaw13.QuerTakes (function 5) -/
def c_rivuletlaw13_QuerTakes : ACode :=
  (.seq
    (.region false [
        ⟨some 6, .mov (.const (.bool false)), none⟩] [6])
    (.seq
      (.region false [
          ⟨some 10, .call 12 [], none⟩,
          ⟨some 7, .mov (.tmp 10), none⟩] [10])
      (.seq
        (.seq
          (.region false [
              ⟨some 11, .mov (.tmp 7), none⟩,
              ⟨some 12, .un .not (.tmp 11), none⟩] [7, 11])
          (.cond (.tmp 12)
            (.seq
              (.region false [
                  ⟨some 6, .mov (.const (.bool false)), none⟩] [])
              .ret)
            .skip))
        (.seq
          (.region false [
              ⟨some 13, .mov (.tmp 2), none⟩,
              ⟨some 14, .call 11 [.tmp 13, .const (.int .i64 6)], none⟩,
              ⟨some 2, .mov (.tmp 14), none⟩] [13, 14])
          (.seq
            (.region false [
                ⟨some 15, .build [.lit (.int .i64 0), .lit (.int .i64 0)] [], none⟩,
                ⟨some 16, .mov (.tmp 0), none⟩,
                ⟨some 17, .mov (.tmp 1), none⟩,
                ⟨some 18, .bslice 1 1 [.tmp 17], none⟩,
                ⟨some 19, .call 13 [.tmp 15, .tmp 16, .tmp 18], none⟩,
                ⟨some 8, .alloc [.lit (.int .i64 0), .lit (.int .i64 0)], none⟩,
                ⟨none, .store 2 (.tmp 8) (.tmp 19), none⟩] [15, 16, 17, 18, 19])
            (.seq
              (.seq
                (.region false [
                    ⟨some 20, .mov (.tmp 1), none⟩,
                    ⟨some 21, .mov (.tmp 0), none⟩,
                    ⟨some 22, .bin .geq 23 (.tmp 20) (.tmp 21), none⟩] [20, 21])
                (.cond (.tmp 22)
                  (.seq
                    (.region false [
                        ⟨some 23, .faddr 0 1 (.tmp 8), none⟩,
                        ⟨some 24, .load false 1 (.tmp 23), none⟩,
                        ⟨some 25, .bin .eql 3 (.tmp 24) (.const (.int .i64 1)), none⟩,
                        ⟨some 6, .mov (.tmp 25), none⟩] [8, 23, 24, 25])
                    .ret)
                  .skip))
              (.seq
                (.seq
                  (.region false [
                      ⟨some 26, .faddr 0 1 (.tmp 8), none⟩,
                      ⟨some 27, .load false 1 (.tmp 26), none⟩,
                      ⟨some 28, .bin .neq 3 (.tmp 27) (.const (.int .i64 0)), none⟩] [26, 27])
                  (.cond (.tmp 28)
                    (.seq
                      (.region false [
                          ⟨some 6, .mov (.const (.bool false)), none⟩] [])
                      .ret)
                    .skip))
                (.seq
                  (.seq
                    (.region false [
                        ⟨some 9, .mov (.const (.int .i64 1)), none⟩] [])
                    (.block 0
                      (.loop
                        (.seq
                          (.seq
                            (.region false [
                                ⟨some 29, .mov (.tmp 9), none⟩,
                                ⟨some 30, .mov (.tmp 2), none⟩,
                                ⟨some 31, .bin .leq 3 (.tmp 29) (.tmp 30), none⟩] [29, 30])
                            (.cond (.tmp 31)
                              .skip
                              (.exit 0)))
                          (.seq
                            (.block 1
                              (.seq
                                (.region false [
                                    ⟨some 34, .load true 2 (.tmp 8), none⟩,
                                    ⟨some 35, .mov (.tmp 0), none⟩,
                                    ⟨some 36, .call 13 [.tmp 34, .tmp 35, .const (.slice none 0 0)], none⟩,
                                    ⟨none, .store 2 (.tmp 8) (.tmp 36), none⟩] [34, 35, 36])
                                (.seq
                                  (.region false [
                                      ⟨some 37, .faddr 0 1 (.tmp 8), none⟩,
                                      ⟨some 38, .load false 1 (.tmp 37), none⟩,
                                      ⟨some 39, .bin .eql 3 (.tmp 38) (.const (.int .i64 1)), none⟩,
                                      ⟨some 40, .mov (.tmp 9), none⟩,
                                      ⟨some 41, .bin .geq 3 (.tmp 40) (.const (.int .i64 3)), none⟩,
                                      ⟨some 42, .eqb true 4 (.tmp 39) (.tmp 41), none⟩] [37, 38, 39, 40, 41])
                                  (.cond (.tmp 42)
                                    (.seq
                                      (.region false [
                                          ⟨some 6, .mov (.const (.bool false)), none⟩] [])
                                      .ret)
                                    .skip))) [6, 34, 35, 36, 37, 38, 39, 40, 41, 42])
                            (.region false [
                                ⟨some 32, .mov (.tmp 9), none⟩,
                                ⟨some 33, .bin .add 3 (.tmp 32) (.const (.int .i64 1)), none⟩,
                                ⟨some 9, .mov (.tmp 33), none⟩] [32, 33]))) [6, 29, 30, 31, 32, 33, 34, 35, 36, 37, 38, 39, 40, 41, 42] []) [2, 6, 9, 29, 30, 31, 32, 33, 34, 35, 36, 37, 38, 39, 40, 41, 42]))
                  (.seq
                    (.region false [
                        ⟨some 43, .load true 2 (.tmp 8), none⟩,
                        ⟨some 44, .mov (.tmp 0), none⟩,
                        ⟨some 45, .mov (.tmp 1), none⟩,
                        ⟨some 46, .bslice 1 1 [.tmp 45], none⟩,
                        ⟨some 47, .call 13 [.tmp 43, .tmp 44, .tmp 46], none⟩,
                        ⟨some 48, .fld false 0 1 (.tmp 47), none⟩,
                        ⟨some 49, .bin .eql 3 (.tmp 48) (.const (.int .i64 0)), none⟩,
                        ⟨some 6, .mov (.tmp 49), none⟩] [0, 1, 8, 43, 44, 45, 46, 47, 48, 49])
                    .ret)))))))))
abbrev v_rivuletlaw13_QuerTakes : List RV := [.tmp 6]
abbrev f_rivuletlaw13_QuerTakes : FuncId := 5
theorem k_rivuletlaw13_QuerTakes : closedOf Try.prog Try.f5 = (false, some true, some v_rivuletlaw13_QuerTakes, some c_rivuletlaw13_QuerTakes.plain, 50) := by kernel_rfl
theorem ac_rivuletlaw13_QuerTakes {args : List AV} {r : AV} (h : aw Try.prog c_rivuletlaw13_QuerTakes (env0 args) (endQ v_rivuletlaw13_QuerTakes r)) (hargs : args.length ≤ 50 := by decide) (hok : resOK r = true := by rfl) : AC Try.prog f_rivuletlaw13_QuerTakes args r :=
  AC_mk (by kernel_rfl) Try.func5 k_rivuletlaw13_QuerTakes hargs hok h

/-- rivulet/rivuletlaw13.QuerOne (function 7) HOLDS 1 OPERATIONS THAT ARE NOT TAKEN -/
def c_rivuletlaw13_QuerOne : ACode :=
  (.seq
    (.region false [
        ⟨some 6, .mov (.const (.bool false)), none⟩] [6])
    (.seq
      (.region false [
          ⟨some 16, .call 12 [], none⟩,
          ⟨some 7, .mov (.tmp 16), none⟩] [16])
      (.seq
        (.seq
          (.region false [
              ⟨some 17, .mov (.tmp 7), none⟩,
              ⟨some 18, .un .not (.tmp 17), none⟩] [17])
          (.cond (.tmp 18)
            (.seq
              (.region false [
                  ⟨some 6, .mov (.const (.bool false)), none⟩] [])
              .ret)
            .skip))
        (.seq
          (.region false [
              ⟨some 19, .mov (.tmp 0), none⟩,
              ⟨some 20, .call 11 [.tmp 19, .const (.int .i64 6)], none⟩,
              ⟨some 21, .bin .add 3 (.tmp 20) (.const (.int .i64 1)), none⟩,
              ⟨some 0, .mov (.tmp 21), none⟩] [19, 20, 21])
          (.seq
            (.region false [
                ⟨some 22, .mov (.tmp 2), none⟩,
                ⟨some 23, .call 11 [.tmp 22, .const (.int .i64 8)], none⟩,
                ⟨some 24, .bin .add 3 (.tmp 23) (.const (.int .i64 2)), none⟩,
                ⟨some 2, .mov (.tmp 24), none⟩] [22, 23, 24])
            (.seq
              (.region false [
                  ⟨some 25, .mov (.tmp 1), none⟩,
                  ⟨some 26, .mov (.tmp 0), none⟩,
                  ⟨some 27, .call 11 [.tmp 25, .tmp 26], none⟩,
                  ⟨some 1, .mov (.tmp 27), none⟩] [25, 26, 27])
              (.seq
                (.region false [
                    ⟨some 28, .mov (.tmp 0), none⟩,
                    ⟨some 29, .bad, none⟩,
                    ⟨some 8, .mov (.tmp 29), none⟩] [28, 29])
                (.seq
                  (.seq
                    (.region false [
                        ⟨some 9, .mov (.const (.int .i64 0)), none⟩] [])
                    (.block 0
                      (.loop
                        (.seq
                          (.seq
                            (.region false [
                                ⟨some 30, .mov (.tmp 9), none⟩,
                                ⟨some 31, .mov (.tmp 2), none⟩,
                                ⟨some 32, .bin .lss 3 (.tmp 30) (.tmp 31), none⟩] [30, 31])
                            (.cond (.tmp 32)
                              .skip
                              (.exit 0)))
                          (.seq
                            (.block 1
                              (.seq
                                (.region false [
                                    ⟨some 10, .mov (.const (.slice none 0 0)), none⟩] [])
                                (.seq
                                  (.seq
                                    (.region false [
                                        ⟨some 11, .mov (.const (.int .i64 0)), none⟩] [])
                                    (.block 2
                                      (.loop
                                        (.seq
                                          (.seq
                                            (.region false [
                                                ⟨some 35, .mov (.tmp 11), none⟩,
                                                ⟨some 36, .mov (.tmp 0), none⟩,
                                                ⟨some 37, .bin .lss 3 (.tmp 35) (.tmp 36), none⟩] [35, 36])
                                            (.cond (.tmp 37)
                                              .skip
                                              (.exit 2)))
                                          (.seq
                                            (.block 3
                                              (.seq
                                                (.region false [
                                                    ⟨some 40, .mov (.tmp 8), none⟩,
                                                    ⟨some 41, .mov (.tmp 11), none⟩,
                                                    ⟨some 42, .iaddr 2 (.tmp 40) (.tmp 41), none⟩,
                                                    ⟨some 43, .faddr 0 1 (.tmp 42), none⟩,
                                                    ⟨some 44, .load false 1 (.tmp 43), none⟩,
                                                    ⟨some 45, .bin .eql 3 (.tmp 44) (.const (.int .i64 1)), none⟩] [40, 41, 42, 43, 44])
                                                (.cond (.tmp 45)
                                                  (.region false [
                                                      ⟨some 46, .mov (.tmp 10), none⟩,
                                                      ⟨some 47, .mov (.tmp 11), none⟩,
                                                      ⟨some 48, .mov (.tmp 1), none⟩,
                                                      ⟨some 49, .bin .add 3 (.tmp 47) (.tmp 48), none⟩,
                                                      ⟨some 50, .mov (.tmp 0), none⟩,
                                                      ⟨some 51, .bin .rem 3 (.tmp 49) (.tmp 50), none⟩,
                                                      ⟨some 52, .bin .add 3 (.const (.int .i64 10)) (.tmp 51), none⟩,
                                                      ⟨some 53, .cint .u32 (.tmp 52), none⟩,
                                                      ⟨some 54, .bslice 1 1 [.tmp 53], none⟩,
                                                      ⟨some 55, .app 1 4 (.tmp 46) (.tmp 54), none⟩,
                                                      ⟨some 10, .mov (.tmp 55), none⟩] [46, 47, 48, 49, 50, 51, 52, 53, 54, 55])
                                                  .skip)) [40, 41, 42, 43, 44, 45, 46, 47, 48, 49, 50, 51, 52, 53, 54, 55])
                                            (.region false [
                                                ⟨some 38, .mov (.tmp 11), none⟩,
                                                ⟨some 39, .bin .add 3 (.tmp 38) (.const (.int .i64 1)), none⟩,
                                                ⟨some 11, .mov (.tmp 39), none⟩] [38, 39]))) [35, 36, 37, 38, 39, 40, 41, 42, 43, 44, 45, 46, 47, 48, 49, 50, 51, 52, 53, 54, 55] []) [11, 35, 36, 37, 38, 39, 40, 41, 42, 43, 44, 45, 46, 47, 48, 49, 50, 51, 52, 53, 54, 55]))
                                  (.seq
                                    (.region false [
                                        ⟨some 12, .mov (.const (.int .i64 0)), none⟩] [])
                                    (.block 4
                                      (.loop
                                        (.seq
                                          (.seq
                                            (.region false [
                                                ⟨some 56, .mov (.tmp 12), none⟩,
                                                ⟨some 57, .mov (.tmp 0), none⟩,
                                                ⟨some 58, .bin .lss 3 (.tmp 56) (.tmp 57), none⟩] [56, 57])
                                            (.cond (.tmp 58)
                                              .skip
                                              (.exit 4)))
                                          (.seq
                                            (.block 5
                                              (.region true [
                                                  ⟨some 61, .mov (.tmp 8), none⟩,
                                                  ⟨some 62, .mov (.tmp 12), none⟩,
                                                  ⟨some 63, .mov (.tmp 8), none⟩,
                                                  ⟨some 64, .mov (.tmp 12), none⟩,
                                                  ⟨some 65, .iaddr 2 (.tmp 63) (.tmp 64), none⟩,
                                                  ⟨some 66, .load true 2 (.tmp 65), none⟩,
                                                  ⟨some 67, .mov (.tmp 12), none⟩,
                                                  ⟨some 68, .mov (.tmp 1), none⟩,
                                                  ⟨some 69, .bin .add 3 (.tmp 67) (.tmp 68), none⟩,
                                                  ⟨some 70, .mov (.tmp 0), none⟩,
                                                  ⟨some 71, .bin .rem 3 (.tmp 69) (.tmp 70), none⟩,
                                                  ⟨some 72, .bin .add 3 (.const (.int .i64 10)) (.tmp 71), none⟩,
                                                  ⟨some 73, .cint .u32 (.tmp 72), none⟩,
                                                  ⟨some 74, .mov (.tmp 10), none⟩,
                                                  ⟨some 75, .call 13 [.tmp 66, .tmp 73, .tmp 74], none⟩,
                                                  ⟨some 76, .iaddr 2 (.tmp 61) (.tmp 62), none⟩,
                                                  ⟨none, .store 2 (.tmp 76) (.tmp 75), none⟩] [61, 62, 63, 64, 65, 66, 67, 68, 69, 70, 71, 72, 73, 74, 75, 76]) [61, 62, 63, 64, 65, 66, 67, 68, 69, 70, 71, 72, 73, 74, 75, 76])
                                            (.region false [
                                                ⟨some 59, .mov (.tmp 12), none⟩,
                                                ⟨some 60, .bin .add 3 (.tmp 59) (.const (.int .i64 1)), none⟩,
                                                ⟨some 12, .mov (.tmp 60), none⟩] [59, 60]))) [56, 57, 58, 59, 60, 61, 62, 63, 64, 65, 66, 67, 68, 69, 70, 71, 72, 73, 74, 75, 76] []) [10, 12, 56, 57, 58, 59, 60, 61, 62, 63, 64, 65, 66, 67, 68, 69, 70, 71, 72, 73, 74, 75, 76])))) [10, 11, 12, 35, 36, 37, 38, 39, 40, 41, 42, 43, 44, 45, 46, 47, 48, 49, 50, 51, 52, 53, 54, 55, 56, 57, 58, 59, 60, 61, 62, 63, 64, 65, 66, 67, 68, 69, 70, 71, 72, 73, 74, 75, 76])
                            (.region false [
                                ⟨some 33, .mov (.tmp 9), none⟩,
                                ⟨some 34, .bin .add 3 (.tmp 33) (.const (.int .i64 1)), none⟩,
                                ⟨some 9, .mov (.tmp 34), none⟩] [33, 34]))) [10, 11, 12, 30, 31, 32, 33, 34, 35, 36, 37, 38, 39, 40, 41, 42, 43, 44, 45, 46, 47, 48, 49, 50, 51, 52, 53, 54, 55, 56, 57, 58, 59, 60, 61, 62, 63, 64, 65, 66, 67, 68, 69, 70, 71, 72, 73, 74, 75, 76] []) [2, 9, 10, 11, 12, 30, 31, 32, 33, 34, 35, 36, 37, 38, 39, 40, 41, 42, 43, 44, 45, 46, 47, 48, 49, 50, 51, 52, 53, 54, 55, 56, 57, 58, 59, 60, 61, 62, 63, 64, 65, 66, 67, 68, 69, 70, 71, 72, 73, 74, 75, 76]))
                  (.seq
                    (.seq
                      (.region false [
                          ⟨some 13, .mov (.const (.int .i64 0)), none⟩] [])
                      (.block 6
                        (.loop
                          (.seq
                            (.seq
                              (.region false [
                                  ⟨some 77, .mov (.tmp 13), none⟩,
                                  ⟨some 78, .mov (.tmp 0), none⟩,
                                  ⟨some 79, .bin .lss 3 (.tmp 77) (.tmp 78), none⟩] [77, 78])
                              (.cond (.tmp 79)
                                .skip
                                (.exit 6)))
                            (.seq
                              (.block 7
                                (.seq
                                  (.region true [
                                      ⟨some 82, .mov (.tmp 8), none⟩,
                                      ⟨some 83, .mov (.tmp 13), none⟩,
                                      ⟨some 84, .iaddr 2 (.tmp 82) (.tmp 83), none⟩,
                                      ⟨some 85, .faddr 0 1 (.tmp 84), none⟩,
                                      ⟨some 86, .load false 1 (.tmp 85), none⟩,
                                      ⟨some 87, .bin .eql 3 (.tmp 86) (.const (.int .i64 1)), none⟩,
                                      ⟨some 88, .mov (.tmp 13), none⟩,
                                      ⟨some 89, .mov (.tmp 1), none⟩,
                                      ⟨some 90, .bin .add 3 (.tmp 88) (.tmp 89), none⟩,
                                      ⟨some 91, .mov (.tmp 0), none⟩,
                                      ⟨some 92, .bin .rem 3 (.tmp 90) (.tmp 91), none⟩,
                                      ⟨some 93, .bin .eql 3 (.tmp 92) (.const (.int .i64 0)), none⟩,
                                      ⟨some 94, .eqb true 4 (.tmp 87) (.tmp 93), none⟩] [82, 83, 84, 85, 86, 87, 88, 89, 90, 91, 92, 93])
                                  (.cond (.tmp 94)
                                    (.seq
                                      (.region false [
                                          ⟨some 6, .mov (.const (.bool false)), none⟩] [])
                                      .ret)
                                    .skip)) [6, 82, 83, 84, 85, 86, 87, 88, 89, 90, 91, 92, 93, 94])
                              (.region false [
                                  ⟨some 80, .mov (.tmp 13), none⟩,
                                  ⟨some 81, .bin .add 3 (.tmp 80) (.const (.int .i64 1)), none⟩,
                                  ⟨some 13, .mov (.tmp 81), none⟩] [80, 81]))) [6, 77, 78, 79, 80, 81, 82, 83, 84, 85, 86, 87, 88, 89, 90, 91, 92, 93, 94] []) [0, 6, 8, 13, 77, 78, 79, 80, 81, 82, 83, 84, 85, 86, 87, 88, 89, 90, 91, 92, 93, 94]))
                    (.seq
                      (.region false [
                          ⟨some 96, .mov (.tmp 1), none⟩,
                          ⟨some 97, .bin .add 3 (.const (.int .i64 10)) (.tmp 96), none⟩,
                          ⟨some 98, .cint .u32 (.tmp 97), none⟩,
                          ⟨some 99, .bslice 3 1 [.tmp 98, .const (.int .u32 10), .const (.int .u32 11)], none⟩,
                          ⟨some 100, .call 14 [.tmp 99], none⟩,
                          ⟨some 95, .mov (.tmp 100), none⟩,
                          ⟨some 101, .ext (.tmp 95) 0, none⟩,
                          ⟨some 102, .ext (.tmp 95) 1, none⟩,
                          ⟨some 14, .mov (.tmp 101), none⟩,
                          ⟨some 15, .mov (.tmp 102), none⟩] [95, 96, 97, 98, 99, 100, 101, 102])
                      (.seq
                        (.region false [
                            ⟨some 103, .mov (.tmp 7), none⟩,
                            ⟨some 104, .mov (.tmp 103), none⟩,
                            ⟨some 105, .mov (.tmp 15), (some (104, true))⟩,
                            ⟨some 106, .pick (.tmp 104) (.tmp 105) (.const (.bool false)), none⟩,
                            ⟨some 107, .mov (.tmp 106), none⟩,
                            ⟨some 108, .mov (.tmp 14), (some (107, true))⟩,
                            ⟨some 109, .bin .eql 3 (.tmp 108) (.const (.int .i64 1)), (some (107, true))⟩,
                            ⟨some 110, .mov (.tmp 1), (some (107, true))⟩,
                            ⟨some 111, .bin .gtr 3 (.tmp 110) (.const (.int .i64 0)), (some (107, true))⟩,
                            ⟨some 112, .eqb false 4 (.tmp 109) (.tmp 111), (some (107, true))⟩,
                            ⟨some 113, .pick (.tmp 107) (.tmp 112) (.const (.bool false)), none⟩,
                            ⟨some 6, .mov (.tmp 113), none⟩] [1, 7, 14, 15, 103, 104, 105, 106, 107, 108, 109, 110, 111, 112, 113])
                        .ret)))))))))))
abbrev v_rivuletlaw13_QuerOne : List RV := [.tmp 6]
abbrev f_rivuletlaw13_QuerOne : FuncId := 7
theorem k_rivuletlaw13_QuerOne : closedOf Try.prog Try.f7 = (false, some true, some v_rivuletlaw13_QuerOne, some c_rivuletlaw13_QuerOne.plain, 114) := by kernel_rfl
theorem ac_rivuletlaw13_QuerOne {args : List AV} {r : AV} (h : aw Try.prog c_rivuletlaw13_QuerOne (env0 args) (endQ v_rivuletlaw13_QuerOne r)) (hargs : args.length ≤ 114 := by decide) (hok : resOK r = true := by rfl) : AC Try.prog f_rivuletlaw13_QuerOne args r :=
  AC_mk (by kernel_rfl) Try.func7 k_rivuletlaw13_QuerOne hargs hok h

/-- rivulet/rivuletlaw12.first (function 8) -/
def c_rivuletlaw12_first : ACode :=
  (.seq
    (.region false [
        ⟨some 0, .mov (.const (.bool false)), none⟩] [0])
    (.seq
      (.region false [
          ⟨some 6, .build [.lit (.int .i64 0), .lit (.int .u32 0)] [(0, 1, .const (.int .i64 1))], none⟩,
          ⟨some 7, .bslice 1 2 [.tmp 6], none⟩,
          ⟨some 8, .call 10 [.tmp 7], none⟩,
          ⟨some 5, .mov (.tmp 8), none⟩,
          ⟨some 9, .ext (.tmp 5) 0, none⟩,
          ⟨some 10, .ext (.tmp 5) 1, none⟩,
          ⟨some 1, .mov (.tmp 9), none⟩,
          ⟨some 2, .mov (.tmp 10), none⟩] [5, 6, 7, 8, 9, 10])
      (.seq
        (.region false [
            ⟨some 12, .call 10 [.const (.slice none 0 0)], none⟩,
            ⟨some 11, .mov (.tmp 12), none⟩,
            ⟨some 13, .ext (.tmp 11) 0, none⟩,
            ⟨some 14, .ext (.tmp 11) 1, none⟩,
            ⟨some 3, .mov (.tmp 13), none⟩,
            ⟨some 4, .mov (.tmp 14), none⟩] [3, 11, 12, 13, 14])
        (.seq
          (.region false [
              ⟨some 15, .mov (.tmp 2), none⟩,
              ⟨some 16, .mov (.tmp 15), none⟩,
              ⟨some 17, .mov (.tmp 1), (some (16, true))⟩,
              ⟨some 18, .bin .eql 3 (.tmp 17) (.const (.int .i64 0)), (some (16, true))⟩,
              ⟨some 19, .pick (.tmp 16) (.tmp 18) (.const (.bool false)), none⟩,
              ⟨some 20, .mov (.tmp 19), none⟩,
              ⟨some 21, .mov (.tmp 4), (some (20, true))⟩,
              ⟨some 22, .un .not (.tmp 21), (some (20, true))⟩,
              ⟨some 23, .pick (.tmp 20) (.tmp 22) (.const (.bool false)), none⟩,
              ⟨some 0, .mov (.tmp 23), none⟩] [1, 2, 4, 15, 16, 17, 18, 19, 20, 21, 22, 23])
          .ret))))
abbrev v_rivuletlaw12_first : List RV := [.tmp 0]
abbrev f_rivuletlaw12_first : FuncId := 8
theorem k_rivuletlaw12_first : closedOf Try.prog Try.f8 = (false, some true, some v_rivuletlaw12_first, some c_rivuletlaw12_first.plain, 24) := by kernel_rfl
theorem ac_rivuletlaw12_first {args : List AV} {r : AV} (h : aw Try.prog c_rivuletlaw12_first (env0 args) (endQ v_rivuletlaw12_first r)) (hargs : args.length ≤ 24 := by decide) (hok : resOK r = true := by rfl) : AC Try.prog f_rivuletlaw12_first args r :=
  AC_mk (by kernel_rfl) Try.func8 k_rivuletlaw12_first hargs hok h

/-- rivulet/seat.Better (function 9) -/
def c_seat_Better : ACode :=
  (.seq
    (.region false [
        ⟨some 2, .box (.tmp 0), none⟩,
        ⟨some 3, .box (.tmp 1), none⟩,
        ⟨some 4, .mov (.const (.bool false)), none⟩] [0, 1, 4])
    (.seq
      (.region false [
          ⟨some 5, .faddr 0 1 (.tmp 2), none⟩,
          ⟨some 6, .load false 1 (.tmp 5), none⟩,
          ⟨some 7, .faddr 0 1 (.tmp 3), none⟩,
          ⟨some 8, .load false 1 (.tmp 7), none⟩,
          ⟨some 9, .bin .gtr 3 (.tmp 6) (.tmp 8), none⟩,
          ⟨some 10, .mov (.tmp 9), none⟩,
          ⟨some 11, .faddr 0 1 (.tmp 2), (some (10, false))⟩,
          ⟨some 12, .load false 1 (.tmp 11), (some (10, false))⟩,
          ⟨some 13, .faddr 0 1 (.tmp 3), (some (10, false))⟩,
          ⟨some 14, .load false 1 (.tmp 13), (some (10, false))⟩,
          ⟨some 15, .bin .eql 3 (.tmp 12) (.tmp 14), (some (10, false))⟩,
          ⟨some 16, .mov (.tmp 15), (some (10, false))⟩,
          ⟨some 17, .faddr 1 1 (.tmp 2), (some (16, true))⟩,
          ⟨some 18, .load false 1 (.tmp 17), (some (16, true))⟩,
          ⟨some 19, .faddr 1 1 (.tmp 3), (some (16, true))⟩,
          ⟨some 20, .load false 1 (.tmp 19), (some (16, true))⟩,
          ⟨some 21, .bin .gtr 23 (.tmp 18) (.tmp 20), (some (16, true))⟩,
          ⟨some 22, .pick (.tmp 16) (.tmp 21) (.const (.bool false)), (some (10, false))⟩,
          ⟨some 23, .pick (.tmp 10) (.const (.bool true)) (.tmp 22), none⟩,
          ⟨some 4, .mov (.tmp 23), none⟩] [2, 3, 5, 6, 7, 8, 9, 10, 11, 12, 13, 14, 15, 16, 17, 18, 19, 20, 21, 22, 23])
      .ret))
abbrev v_seat_Better : List RV := [.tmp 4]
abbrev f_seat_Better : FuncId := 9
theorem k_seat_Better : closedOf Try.prog Try.f9 = (false, some true, some v_seat_Better, some c_seat_Better.plain, 24) := by kernel_rfl
theorem ac_seat_Better {args : List AV} {r : AV} (h : aw Try.prog c_seat_Better (env0 args) (endQ v_seat_Better r)) (hargs : args.length ≤ 24 := by decide) (hok : resOK r = true := by rfl) : AC Try.prog f_seat_Better args r :=
  AC_mk (by kernel_rfl) Try.func9 k_seat_Better hargs hok h

/-- rivulet/seat.Best (function 10) -/
def c_seat_Best : ACode :=
  (.seq
    (.region false [
        ⟨some 2, .mov (.const (.int .i64 0)), none⟩,
        ⟨some 3, .mov (.const (.bool false)), none⟩] [2, 3])
    (.seq
      (.region false [
          ⟨some 4, .mov (.const (.int .i64 0)), none⟩] [])
      (.seq
        (.seq
          (.region false [
              ⟨some 7, .mov (.tmp 0), none⟩,
              ⟨some 8, .lenl (.tmp 7), none⟩,
              ⟨some 9, .mov (.const (.int .i64 0)), none⟩] [])
          (.block 0
            (.loop
              (.seq
                (.region false [
                    ⟨some 10, .bin .lss 3 (.tmp 9) (.tmp 8), none⟩] [])
                (.seq
                  (.cond (.tmp 10)
                    .skip
                    (.exit 0))
                  (.seq
                    (.block 1
                      (.seq
                        (.region false [
                            ⟨some 11, .mov (.tmp 9), none⟩,
                            ⟨some 12, .iaddr 2 (.tmp 7) (.tmp 9), none⟩,
                            ⟨some 13, .load true 2 (.tmp 12), none⟩,
                            ⟨some 6, .alloc [.lit (.int .i64 0), .lit (.int .u32 0)], none⟩,
                            ⟨some 5, .mov (.tmp 11), none⟩,
                            ⟨none, .store 2 (.tmp 6) (.tmp 13), none⟩] [11, 12, 13])
                        (.seq
                          (.region true [
                              ⟨some 14, .load true 2 (.tmp 6), none⟩,
                              ⟨some 15, .mov (.tmp 0), none⟩,
                              ⟨some 16, .mov (.tmp 4), none⟩,
                              ⟨some 17, .iaddr 2 (.tmp 15) (.tmp 16), none⟩,
                              ⟨some 18, .load true 2 (.tmp 17), none⟩,
                              ⟨some 19, .call 9 [.tmp 14, .tmp 18], none⟩] [6, 14, 15, 16, 17, 18])
                          (.cond (.tmp 19)
                            (.region false [
                                ⟨some 20, .mov (.tmp 5), none⟩,
                                ⟨some 4, .mov (.tmp 20), none⟩] [5, 20])
                            .skip))) [5, 6, 11, 12, 13, 14, 15, 16, 17, 18, 19, 20])
                    (.region false [
                        ⟨some 21, .bin .add 3 (.tmp 9) (.const (.int .i64 1)), none⟩,
                        ⟨some 9, .mov (.tmp 21), none⟩] [21])))) [5, 6, 10, 11, 12, 13, 14, 15, 16, 17, 18, 19, 20, 21] [6]) [5, 6, 7, 8, 9, 10, 11, 12, 13, 14, 15, 16, 17, 18, 19, 20, 21]))
        (.seq
          (.region false [
              ⟨some 22, .mov (.tmp 4), none⟩,
              ⟨some 23, .mov (.tmp 0), none⟩,
              ⟨some 24, .lenl (.tmp 23), none⟩,
              ⟨some 25, .bin .gtr 3 (.tmp 24) (.const (.int .i64 0)), none⟩,
              ⟨some 2, .mov (.tmp 22), none⟩,
              ⟨some 3, .mov (.tmp 25), none⟩] [0, 4, 22, 23, 24, 25])
          .ret))))
abbrev v_seat_Best : List RV := [.tmp 2, .tmp 3]
abbrev f_seat_Best : FuncId := 10
theorem k_seat_Best : closedOf Try.prog Try.f10 = (false, some true, some v_seat_Best, some c_seat_Best.plain, 26) := by kernel_rfl
theorem ac_seat_Best {args : List AV} {r : AV} (h : aw Try.prog c_seat_Best (env0 args) (endQ v_seat_Best r)) (hargs : args.length ≤ 26 := by decide) (hok : resOK r = true := by rfl) : AC Try.prog f_seat_Best args r :=
  AC_mk (by kernel_rfl) Try.func10 k_seat_Best hargs hok h

/-- rivulet/rivuletworld.Number (function 11) -/
def c_rivuletworld_Number : ACode :=
  (.seq
    (.region false [
        ⟨some 4, .mov (.const (.int .i64 0)), none⟩] [4])
    (.seq
      (.region false [
          ⟨some 6, .mov (.tmp 0), none⟩,
          ⟨some 7, .mov (.tmp 1), none⟩,
          ⟨some 8, .bin .rem 3 (.tmp 6) (.tmp 7), none⟩,
          ⟨some 5, .mov (.tmp 8), none⟩] [0, 6, 7, 8])
      (.seq
        (.seq
          (.region false [
              ⟨some 9, .mov (.tmp 5), none⟩,
              ⟨some 10, .bin .lss 3 (.tmp 9) (.const (.int .i64 0)), none⟩] [9])
          (.cond (.tmp 10)
            (.region false [
                ⟨some 11, .mov (.tmp 5), none⟩,
                ⟨some 12, .mov (.tmp 1), none⟩,
                ⟨some 13, .bin .add 3 (.tmp 11) (.tmp 12), none⟩,
                ⟨some 5, .mov (.tmp 13), none⟩] [1, 11, 12, 13])
            .skip))
        (.seq
          (.region false [
              ⟨some 14, .mov (.tmp 5), none⟩,
              ⟨some 4, .mov (.tmp 14), none⟩] [5, 14])
          .ret))))
abbrev v_rivuletworld_Number : List RV := [.tmp 4]
abbrev f_rivuletworld_Number : FuncId := 11
theorem k_rivuletworld_Number : closedOf Try.prog Try.f11 = (false, some true, some v_rivuletworld_Number, some c_rivuletworld_Number.plain, 15) := by kernel_rfl
theorem ac_rivuletworld_Number {args : List AV} {r : AV} (h : aw Try.prog c_rivuletworld_Number (env0 args) (endQ v_rivuletworld_Number r)) (hargs : args.length ≤ 15 := by decide) (hok : resOK r = true := by rfl) : AC Try.prog f_rivuletworld_Number args r :=
  AC_mk (by kernel_rfl) Try.func11 k_rivuletworld_Number hargs hok h

/-- rivulet/rivuletlaw13.first (function 12) -/
def c_rivuletlaw13_first : ACode :=
  (.seq
    (.region false [
        ⟨some 0, .mov (.const (.bool false)), none⟩] [0])
    (.seq
      (.region false [
          ⟨some 2, .build [.lit (.int .i64 0), .lit (.int .i64 0)] [], none⟩,
          ⟨some 3, .call 13 [.tmp 2, .const (.int .u32 5), .const (.slice none 0 0)], none⟩,
          ⟨some 1, .alloc [.lit (.int .i64 0), .lit (.int .i64 0)], none⟩,
          ⟨none, .store 2 (.tmp 1) (.tmp 3), none⟩] [2, 3])
      (.seq
        (.region false [
            ⟨some 4, .faddr 0 1 (.tmp 1), none⟩,
            ⟨some 5, .load false 1 (.tmp 4), none⟩,
            ⟨some 6, .bin .eql 3 (.tmp 5) (.const (.int .i64 1)), none⟩,
            ⟨some 7, .mov (.tmp 6), none⟩,
            ⟨some 8, .faddr 1 1 (.tmp 1), (some (7, true))⟩,
            ⟨some 9, .load false 1 (.tmp 8), (some (7, true))⟩,
            ⟨some 10, .bin .eql 3 (.tmp 9) (.const (.int .i64 0)), (some (7, true))⟩,
            ⟨some 11, .pick (.tmp 7) (.tmp 10) (.const (.bool false)), none⟩,
            ⟨some 0, .mov (.tmp 11), none⟩] [1, 4, 5, 6, 7, 8, 9, 10, 11])
        .ret)))
abbrev v_rivuletlaw13_first : List RV := [.tmp 0]
abbrev f_rivuletlaw13_first : FuncId := 12
theorem k_rivuletlaw13_first : closedOf Try.prog Try.f12 = (false, some true, some v_rivuletlaw13_first, some c_rivuletlaw13_first.plain, 12) := by kernel_rfl
theorem ac_rivuletlaw13_first {args : List AV} {r : AV} (h : aw Try.prog c_rivuletlaw13_first (env0 args) (endQ v_rivuletlaw13_first r)) (hargs : args.length ≤ 12 := by decide) (hok : resOK r = true := by rfl) : AC Try.prog f_rivuletlaw13_first args r :=
  AC_mk (by kernel_rfl) Try.func12 k_rivuletlaw13_first hargs hok h

/-- rivulet/quer.Step (function 13) -/
def c_quer_Step : ACode :=
  (.seq
    (.region false [
        ⟨some 3, .box (.tmp 0), none⟩,
        ⟨some 4, .box (.tmp 1), none⟩,
        ⟨some 6, .alloc [.lit (.int .i64 0), .lit (.int .i64 0)], none⟩] [0, 1])
    (.seq
      (.seq
        (.region false [
            ⟨some 7, .mov (.tmp 2), none⟩,
            ⟨some 8, .mkfn (.func 16) [] [.tmp 4], none⟩,
            ⟨some 9, .call 15 [.tmp 7, .tmp 8], none⟩] [2, 4, 7, 8])
        (.cond (.tmp 9)
          (.seq
            (.region false [
                ⟨some 10, .build [.lit (.int .i64 0), .lit (.int .i64 0)] [(0, 1, .const (.int .i64 0)), (1, 1, .const (.int .i64 3))], none⟩,
                ⟨none, .store 2 (.tmp 6) (.tmp 10), none⟩] [10])
            .ret)
          .skip))
      (.seq
        (.seq
          (.region false [
              ⟨some 11, .faddr 1 1 (.tmp 3), none⟩,
              ⟨some 12, .load false 1 (.tmp 11), none⟩,
              ⟨some 13, .bin .gtr 3 (.tmp 12) (.const (.int .i64 1)), none⟩] [11, 12])
          (.cond (.tmp 13)
            (.seq
              (.region false [
                  ⟨some 14, .faddr 1 1 (.tmp 3), none⟩,
                  ⟨some 15, .load false 1 (.tmp 14), none⟩,
                  ⟨some 16, .bin .sub 3 (.tmp 15) (.const (.int .i64 1)), none⟩,
                  ⟨some 17, .build [.lit (.int .i64 0), .lit (.int .i64 0)] [(0, 1, .const (.int .i64 0)), (1, 1, .tmp 16)], none⟩,
                  ⟨none, .store 2 (.tmp 6) (.tmp 17), none⟩] [3, 14, 15, 16, 17])
              .ret)
            .skip))
        (.seq
          (.region false [
              ⟨some 18, .build [.lit (.int .i64 0), .lit (.int .i64 0)] [(0, 1, .const (.int .i64 1)), (1, 1, .const (.int .i64 0))], none⟩,
              ⟨none, .store 2 (.tmp 6) (.tmp 18), none⟩] [18])
          .ret))))
abbrev v_quer_Step : List RV := [.cell true 2 6]
abbrev f_quer_Step : FuncId := 13
theorem k_quer_Step : closedOf Try.prog Try.f13 = (false, some true, some v_quer_Step, some c_quer_Step.plain, 19) := by kernel_rfl
theorem ac_quer_Step {args : List AV} {r : AV} (h : aw Try.prog c_quer_Step (env0 args) (endQ v_quer_Step r)) (hargs : args.length ≤ 19 := by decide) (hok : resOK r = true := by rfl) : AC Try.prog f_quer_Step args r :=
  AC_mk (by kernel_rfl) Try.func13 k_quer_Step hargs hok h

/-- rivulet/quer.Least (function 14) -/
def c_quer_Least : ACode :=
  (.seq
    (.region false [
        ⟨some 2, .mov (.const (.int .i64 0)), none⟩,
        ⟨some 3, .mov (.const (.bool false)), none⟩] [2, 3])
    (.seq
      (.seq
        (.region false [
            ⟨some 4, .mov (.tmp 0), none⟩,
            ⟨some 5, .lenl (.tmp 4), none⟩,
            ⟨some 6, .bin .eql 3 (.tmp 5) (.const (.int .i64 0)), none⟩] [4, 5])
        (.cond (.tmp 6)
          (.seq
            (.region false [
                ⟨some 2, .mov (.const (.int .i64 0)), none⟩,
                ⟨some 3, .mov (.const (.bool false)), none⟩] [])
            .ret)
          .skip))
      (.seq
        (.region false [
            ⟨some 7, .mov (.tmp 0), none⟩,
            ⟨some 8, .mov (.tmp 0), none⟩,
            ⟨some 9, .call 18 [.tmp 8], none⟩,
            ⟨some 10, .call 17 [.tmp 7, .tmp 9], none⟩,
            ⟨some 2, .mov (.tmp 10), none⟩,
            ⟨some 3, .mov (.const (.bool true)), none⟩] [0, 7, 8, 9, 10])
        .ret)))
abbrev v_quer_Least : List RV := [.tmp 2, .tmp 3]
abbrev f_quer_Least : FuncId := 14
theorem k_quer_Least : closedOf Try.prog Try.f14 = (false, some true, some v_quer_Least, some c_quer_Least.plain, 11) := by kernel_rfl
theorem ac_quer_Least {args : List AV} {r : AV} (h : aw Try.prog c_quer_Least (env0 args) (endQ v_quer_Least r)) (hargs : args.length ≤ 11 := by decide) (hok : resOK r = true := by rfl) : AC Try.prog f_quer_Least args r :=
  AC_mk (by kernel_rfl) Try.func14 k_quer_Least hargs hok h

/-- slices.ContainsFunc[[]rivulet/api.Addr,rivulet/api.Addr] (function 15) -/
def c_slices_ContainsFunc_api_Addr_api_Addr : ACode :=
  (.seq
    (.region false [
        ⟨some 4, .mov (.const (.bool false)), none⟩] [4])
    (.seq
      (.region false [
          ⟨some 5, .mov (.tmp 0), none⟩,
          ⟨some 6, .mov (.tmp 1), none⟩,
          ⟨some 7, .call 19 [.tmp 5, .tmp 6], none⟩,
          ⟨some 8, .bin .geq 3 (.tmp 7) (.const (.int .i64 0)), none⟩,
          ⟨some 4, .mov (.tmp 8), none⟩] [0, 1, 5, 6, 7, 8])
      .ret))
abbrev v_slices_ContainsFunc_api_Addr_api_Addr : List RV := [.tmp 4]
abbrev f_slices_ContainsFunc_api_Addr_api_Addr : FuncId := 15
theorem k_slices_ContainsFunc_api_Addr_api_Addr : closedOf Try.prog Try.f15 = (false, some true, some v_slices_ContainsFunc_api_Addr_api_Addr, some c_slices_ContainsFunc_api_Addr_api_Addr.plain, 9) := by kernel_rfl
theorem ac_slices_ContainsFunc_api_Addr_api_Addr {args : List AV} {r : AV} (h : aw Try.prog c_slices_ContainsFunc_api_Addr_api_Addr (env0 args) (endQ v_slices_ContainsFunc_api_Addr_api_Addr r)) (hargs : args.length ≤ 9 := by decide) (hok : resOK r = true := by rfl) : AC Try.prog f_slices_ContainsFunc_api_Addr_api_Addr args r :=
  AC_mk (by kernel_rfl) Try.func15 k_slices_ContainsFunc_api_Addr_api_Addr hargs hok h

/-- rivulet/quer.Step$1 (function 16) -/
def c_quer_Step_1 : ACode :=
  (.seq
    (.region false [
        ⟨some 3, .mov (.const (.bool false)), none⟩] [3])
    (.seq
      (.region false [
          ⟨some 4, .mov (.tmp 0), none⟩,
          ⟨some 5, .load false 1 (.tmp 1), none⟩,
          ⟨some 6, .bin .lss 23 (.tmp 4) (.tmp 5), none⟩,
          ⟨some 3, .mov (.tmp 6), none⟩] [0, 1, 4, 5, 6])
      .ret))
abbrev v_quer_Step_1 : List RV := [.tmp 3]
abbrev f_quer_Step_1 : FuncId := 16
theorem k_quer_Step_1 : closedOf Try.prog Try.f16 = (false, some true, some v_quer_Step_1, some c_quer_Step_1.plain, 7) := by kernel_rfl
theorem ac_quer_Step_1 {args : List AV} {r : AV} (h : aw Try.prog c_quer_Step_1 (env0 args) (endQ v_quer_Step_1 r)) (hargs : args.length ≤ 7 := by decide) (hok : resOK r = true := by rfl) : AC Try.prog f_quer_Step_1 args r :=
  AC_mk (by kernel_rfl) Try.func16 k_quer_Step_1 hargs hok h

/-- slices.Index[[]rivulet/api.Addr,rivulet/api.Addr] (function 17) -/
def c_slices_Index_api_Addr_api_Addr : ACode :=
  (.seq
    (.region false [
        ⟨some 4, .mov (.const (.int .i64 0)), none⟩] [4])
    (.seq
      (.seq
        (.region false [
            ⟨some 6, .mov (.tmp 0), none⟩,
            ⟨some 7, .lenl (.tmp 6), none⟩,
            ⟨some 8, .mov (.const (.int .i64 0)), none⟩] [6])
        (.block 0
          (.loop
            (.seq
              (.region false [
                  ⟨some 9, .bin .lss 3 (.tmp 8) (.tmp 7), none⟩] [])
              (.seq
                (.cond (.tmp 9)
                  .skip
                  (.exit 0))
                (.seq
                  (.block 1
                    (.seq
                      (.region false [
                          ⟨some 10, .mov (.tmp 8), none⟩,
                          ⟨some 5, .mov (.tmp 10), none⟩] [10])
                      (.seq
                        (.region false [
                            ⟨some 11, .mov (.tmp 1), none⟩,
                            ⟨some 12, .mov (.tmp 0), none⟩,
                            ⟨some 13, .mov (.tmp 5), none⟩,
                            ⟨some 14, .iaddr 1 (.tmp 12) (.tmp 13), none⟩,
                            ⟨some 15, .load false 1 (.tmp 14), none⟩,
                            ⟨some 16, .bin .eql 23 (.tmp 11) (.tmp 15), none⟩] [11, 12, 13, 14, 15])
                        (.cond (.tmp 16)
                          (.seq
                            (.region false [
                                ⟨some 17, .mov (.tmp 5), none⟩,
                                ⟨some 4, .mov (.tmp 17), none⟩] [5, 17])
                            .ret)
                          .skip))) [4, 5, 10, 11, 12, 13, 14, 15, 16, 17])
                  (.region false [
                      ⟨some 18, .bin .add 3 (.tmp 8) (.const (.int .i64 1)), none⟩,
                      ⟨some 8, .mov (.tmp 18), none⟩] [18])))) [4, 5, 9, 10, 11, 12, 13, 14, 15, 16, 17, 18] []) [0, 1, 4, 5, 7, 8, 9, 10, 11, 12, 13, 14, 15, 16, 17, 18]))
      (.seq
        (.region false [
            ⟨some 4, .mov (.const (.int .i64 (-1))), none⟩] [])
        .ret)))
abbrev v_slices_Index_api_Addr_api_Addr : List RV := [.tmp 4]
abbrev f_slices_Index_api_Addr_api_Addr : FuncId := 17
theorem k_slices_Index_api_Addr_api_Addr : closedOf Try.prog Try.f17 = (false, some true, some v_slices_Index_api_Addr_api_Addr, some c_slices_Index_api_Addr_api_Addr.plain, 19) := by kernel_rfl
theorem ac_slices_Index_api_Addr_api_Addr {args : List AV} {r : AV} (h : aw Try.prog c_slices_Index_api_Addr_api_Addr (env0 args) (endQ v_slices_Index_api_Addr_api_Addr r)) (hargs : args.length ≤ 19 := by decide) (hok : resOK r = true := by rfl) : AC Try.prog f_slices_Index_api_Addr_api_Addr args r :=
  AC_mk (by kernel_rfl) Try.func17 k_slices_Index_api_Addr_api_Addr hargs hok h

/-- slices.Min[[]rivulet/api.Addr,rivulet/api.Addr] (function 18) HOLDS 1 OPERATIONS THAT ARE NOT TAKEN -/
def c_slices_Min_api_Addr_api_Addr : ACode :=
  (.seq
    (.region false [
        ⟨some 2, .mov (.const (.int .u32 0)), none⟩] [2])
    (.seq
      (.seq
        (.region false [
            ⟨some 5, .mov (.tmp 0), none⟩,
            ⟨some 6, .lenl (.tmp 5), none⟩,
            ⟨some 7, .bin .lss 3 (.tmp 6) (.const (.int .i64 1)), none⟩] [5, 6])
        (.cond (.tmp 7)
          (.region false [
              ⟨some 8, .mkif 9 (.const (.string ⟨#[115, 108, 105, 99, 101, 115, 46, 77, 105, 110, 58, 32, 101, 109, 112, 116, 121, 32, 108, 105, 115, 116]⟩)), none⟩,
              ⟨none, .bad, none⟩] [8])
          .skip))
      (.seq
        (.region false [
            ⟨some 9, .mov (.tmp 0), none⟩,
            ⟨some 10, .iaddr 1 (.tmp 9) (.const (.int .i64 0)), none⟩,
            ⟨some 11, .load false 1 (.tmp 10), none⟩,
            ⟨some 3, .mov (.tmp 11), none⟩] [9, 10, 11])
        (.seq
          (.seq
            (.region false [
                ⟨some 4, .mov (.const (.int .i64 1)), none⟩] [])
            (.block 0
              (.loop
                (.seq
                  (.seq
                    (.region false [
                        ⟨some 12, .mov (.tmp 4), none⟩,
                        ⟨some 13, .mov (.tmp 0), none⟩,
                        ⟨some 14, .lenl (.tmp 13), none⟩,
                        ⟨some 15, .bin .lss 3 (.tmp 12) (.tmp 14), none⟩] [12, 13, 14])
                    (.cond (.tmp 15)
                      .skip
                      (.exit 0)))
                  (.seq
                    (.block 1
                      (.region false [
                          ⟨some 18, .mov (.tmp 3), none⟩,
                          ⟨some 19, .mov (.tmp 0), none⟩,
                          ⟨some 20, .mov (.tmp 4), none⟩,
                          ⟨some 21, .iaddr 1 (.tmp 19) (.tmp 20), none⟩,
                          ⟨some 22, .load false 1 (.tmp 21), none⟩,
                          ⟨some 23, .mnmx false [.tmp 18, .tmp 22], none⟩,
                          ⟨some 3, .mov (.tmp 23), none⟩] [18, 19, 20, 21, 22, 23]) [18, 19, 20, 21, 22, 23])
                    (.region false [
                        ⟨some 16, .mov (.tmp 4), none⟩,
                        ⟨some 17, .bin .add 3 (.tmp 16) (.const (.int .i64 1)), none⟩,
                        ⟨some 4, .mov (.tmp 17), none⟩] [16, 17]))) [12, 13, 14, 15, 16, 17, 18, 19, 20, 21, 22, 23] []) [0, 4, 12, 13, 14, 15, 16, 17, 18, 19, 20, 21, 22, 23]))
          (.seq
            (.region false [
                ⟨some 24, .mov (.tmp 3), none⟩,
                ⟨some 2, .mov (.tmp 24), none⟩] [3, 24])
            .ret)))))
abbrev v_slices_Min_api_Addr_api_Addr : List RV := [.tmp 2]
abbrev f_slices_Min_api_Addr_api_Addr : FuncId := 18
theorem k_slices_Min_api_Addr_api_Addr : closedOf Try.prog Try.f18 = (false, some true, some v_slices_Min_api_Addr_api_Addr, some c_slices_Min_api_Addr_api_Addr.plain, 25) := by kernel_rfl
theorem ac_slices_Min_api_Addr_api_Addr {args : List AV} {r : AV} (h : aw Try.prog c_slices_Min_api_Addr_api_Addr (env0 args) (endQ v_slices_Min_api_Addr_api_Addr r)) (hargs : args.length ≤ 25 := by decide) (hok : resOK r = true := by rfl) : AC Try.prog f_slices_Min_api_Addr_api_Addr args r :=
  AC_mk (by kernel_rfl) Try.func18 k_slices_Min_api_Addr_api_Addr hargs hok h

/-- slices.IndexFunc[[]rivulet/api.Addr,rivulet/api.Addr] (function 19) -/
def c_slices_IndexFunc_api_Addr_api_Addr : ACode :=
  (.seq
    (.region false [
        ⟨some 4, .mov (.const (.int .i64 0)), none⟩] [4])
    (.seq
      (.seq
        (.region false [
            ⟨some 6, .mov (.tmp 0), none⟩,
            ⟨some 7, .lenl (.tmp 6), none⟩,
            ⟨some 8, .mov (.const (.int .i64 0)), none⟩] [6])
        (.block 0
          (.loop
            (.seq
              (.region false [
                  ⟨some 9, .bin .lss 3 (.tmp 8) (.tmp 7), none⟩] [])
              (.seq
                (.cond (.tmp 9)
                  .skip
                  (.exit 0))
                (.seq
                  (.block 1
                    (.seq
                      (.region false [
                          ⟨some 10, .mov (.tmp 8), none⟩,
                          ⟨some 5, .mov (.tmp 10), none⟩] [10])
                      (.seq
                        (.region false [
                            ⟨some 11, .mov (.tmp 1), none⟩,
                            ⟨some 12, .mov (.tmp 0), none⟩,
                            ⟨some 13, .mov (.tmp 5), none⟩,
                            ⟨some 14, .iaddr 1 (.tmp 12) (.tmp 13), none⟩,
                            ⟨some 15, .load false 1 (.tmp 14), none⟩,
                            ⟨some 16, .callv (.tmp 11) [.tmp 15], none⟩] [11, 12, 13, 14, 15])
                        (.cond (.tmp 16)
                          (.seq
                            (.region false [
                                ⟨some 17, .mov (.tmp 5), none⟩,
                                ⟨some 4, .mov (.tmp 17), none⟩] [5, 17])
                            .ret)
                          .skip))) [4, 5, 10, 11, 12, 13, 14, 15, 16, 17])
                  (.region false [
                      ⟨some 18, .bin .add 3 (.tmp 8) (.const (.int .i64 1)), none⟩,
                      ⟨some 8, .mov (.tmp 18), none⟩] [18])))) [4, 5, 9, 10, 11, 12, 13, 14, 15, 16, 17, 18] []) [0, 1, 4, 5, 7, 8, 9, 10, 11, 12, 13, 14, 15, 16, 17, 18]))
      (.seq
        (.region false [
            ⟨some 4, .mov (.const (.int .i64 (-1))), none⟩] [])
        .ret)))
abbrev v_slices_IndexFunc_api_Addr_api_Addr : List RV := [.tmp 4]
abbrev f_slices_IndexFunc_api_Addr_api_Addr : FuncId := 19
theorem k_slices_IndexFunc_api_Addr_api_Addr : closedOf Try.prog Try.f19 = (false, some true, some v_slices_IndexFunc_api_Addr_api_Addr, some c_slices_IndexFunc_api_Addr_api_Addr.plain, 19) := by kernel_rfl
theorem ac_slices_IndexFunc_api_Addr_api_Addr {args : List AV} {r : AV} (h : aw Try.prog c_slices_IndexFunc_api_Addr_api_Addr (env0 args) (endQ v_slices_IndexFunc_api_Addr_api_Addr r)) (hargs : args.length ≤ 19 := by decide) (hok : resOK r = true := by rfl) : AC Try.prog f_slices_IndexFunc_api_Addr_api_Addr args r :=
  AC_mk (by kernel_rfl) Try.func19 k_slices_IndexFunc_api_Addr_api_Addr hargs hok h


end Go.Proofs.Ytlaklpeghjanjaa.VL
