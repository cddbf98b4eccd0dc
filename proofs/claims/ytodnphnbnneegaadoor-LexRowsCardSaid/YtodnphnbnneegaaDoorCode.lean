/- Bodies, printed by gen.py (this session's program). -/
import Derived.Test.YtodnphnbnneegaaDoorVL20
import Derived.Test.YtodnphnbnneegaaDoorProg
set_option linter.unusedVariables false
set_option maxRecDepth 100000
namespace Go.Proofs.YtodnphnbnneegaaDoor.VL
open Go.Proofs

/-- rivulet/rivuletlaw1.AddrBytes (function 3) -/
def c_rivuletlaw1_AddrBytes : ACode :=
  (.seq
    (.region false [
        ⟨some 8, .mov (.const (.bool false)), none⟩] [8])
    (.seq
      (.region false [
          ⟨some 15, .callm 14 [], none⟩,
          ⟨some 9, .mov (.tmp 15), none⟩] [15])
      (.seq
        (.seq
          (.region false [
              ⟨some 16, .mov (.tmp 9), none⟩,
              ⟨some 17, .un .not (.tmp 16), none⟩] [16])
          (.cond (.tmp 17)
            (.seq
              (.region false [
                  ⟨some 8, .mov (.const (.bool false)), none⟩] [0, 1, 2, 3, 9, 17])
              .ret)
            .skip))
        (.seq
          (.region false [
              ⟨some 18, .mov (.tmp 0), none⟩,
              ⟨some 19, .callm 15 [.tmp 18], none⟩,
              ⟨some 10, .alloc [.lit (.int .u8 0), .lit (.int .u8 0), .lit (.int .u8 0), .lit (.int .u8 0)], none⟩,
              ⟨none, .store 4 (.tmp 10) (.tmp 19), none⟩] [17, 18, 19])
          (.seq
            (.region false [
                ⟨some 20, .mov (.tmp 1), none⟩,
                ⟨some 21, .callm 15 [.tmp 20], none⟩,
                ⟨some 11, .alloc [.lit (.int .u8 0), .lit (.int .u8 0), .lit (.int .u8 0), .lit (.int .u8 0)], none⟩,
                ⟨none, .store 4 (.tmp 11) (.tmp 21), none⟩] [20, 21])
            (.seq
              (.region false [
                  ⟨some 12, .mov (.const (.bool false)), none⟩] [])
              (.seq
                (.seq
                  (.region false [
                      ⟨some 13, .mov (.const (.int .i64 3)), none⟩] [])
                  (.block 0
                    (.loop
                      (.seq
                        (.seq
                          (.region false [
                              ⟨some 22, .mov (.tmp 13), none⟩,
                              ⟨some 23, .bin .geq 3 (.tmp 22) (.const (.int .i64 0)), none⟩] [22])
                          (.cond (.tmp 23)
                            .skip
                            (.exit 0)))
                        (.seq
                          (.block 1
                            (.region true [
                                ⟨some 26, .mov (.tmp 13), none⟩,
                                ⟨some 27, .iadra 4 1 (.tmp 10) (.tmp 26), none⟩,
                                ⟨some 28, .load false 1 (.tmp 27), none⟩,
                                ⟨some 29, .mov (.tmp 13), none⟩,
                                ⟨some 30, .iadra 4 1 (.tmp 11) (.tmp 29), none⟩,
                                ⟨some 31, .load false 1 (.tmp 30), none⟩,
                                ⟨some 32, .bin .lss 5 (.tmp 28) (.tmp 31), none⟩,
                                ⟨some 33, .mov (.tmp 32), none⟩,
                                ⟨some 34, .mov (.tmp 13), (some (33, false))⟩,
                                ⟨some 35, .iadra 4 1 (.tmp 10) (.tmp 34), (some (33, false))⟩,
                                ⟨some 36, .load false 1 (.tmp 35), (some (33, false))⟩,
                                ⟨some 37, .mov (.tmp 13), (some (33, false))⟩,
                                ⟨some 38, .iadra 4 1 (.tmp 11) (.tmp 37), (some (33, false))⟩,
                                ⟨some 39, .load false 1 (.tmp 38), (some (33, false))⟩,
                                ⟨some 40, .bin .eql 5 (.tmp 36) (.tmp 39), (some (33, false))⟩,
                                ⟨some 41, .mov (.tmp 40), (some (33, false))⟩,
                                ⟨some 42, .mov (.tmp 12), (some (41, true))⟩,
                                ⟨some 43, .pick (.tmp 41) (.tmp 42) (.const (.bool false)), (some (33, false))⟩,
                                ⟨some 44, .pick (.tmp 33) (.const (.bool true)) (.tmp 43), none⟩,
                                ⟨some 12, .mov (.tmp 44), none⟩] [23, 26, 27, 28, 29, 30, 31, 32, 33, 34, 35, 36, 37, 38, 39, 40, 41, 42, 43, 44]) [])
                          (.region false [
                              ⟨some 24, .mov (.tmp 13), none⟩,
                              ⟨some 25, .bin .sub 3 (.tmp 24) (.const (.int .i64 1)), none⟩,
                              ⟨some 13, .mov (.tmp 25), none⟩] [24, 25]))) [] []) [11, 13, 23]))
                (.seq
                  (.region false [
                      ⟨some 45, .mov (.tmp 2), none⟩,
                      ⟨some 46, .callm 16 [.tmp 45, .const (.int .i64 4)], none⟩,
                      ⟨some 2, .mov (.tmp 46), none⟩] [45, 46])
                  (.seq
                    (.region false [
                        ⟨some 47, .load true 4 (.tmp 10), none⟩,
                        ⟨some 14, .alloc [.lit (.int .u8 0), .lit (.int .u8 0), .lit (.int .u8 0), .lit (.int .u8 0)], none⟩,
                        ⟨none, .store 4 (.tmp 14) (.tmp 47), none⟩] [47])
                    (.seq
                      (.region false [
                          ⟨some 48, .mov (.tmp 2), none⟩,
                          ⟨some 49, .mov (.tmp 3), none⟩,
                          ⟨some 50, .iadra 4 1 (.tmp 14) (.tmp 48), none⟩,
                          ⟨none, .store 1 (.tmp 50) (.tmp 49), none⟩] [48, 49, 50])
                      (.seq
                        (.region true [
                            ⟨some 51, .mov (.tmp 12), none⟩,
                            ⟨some 52, .mov (.tmp 0), none⟩,
                            ⟨some 53, .mov (.tmp 1), none⟩,
                            ⟨some 54, .bin .lss 23 (.tmp 52) (.tmp 53), none⟩,
                            ⟨some 55, .eqb false 4 (.tmp 51) (.tmp 54), none⟩,
                            ⟨some 56, .mov (.tmp 55), none⟩,
                            ⟨some 57, .load true 4 (.tmp 10), (some (56, true))⟩,
                            ⟨some 58, .call 17 [.tmp 57], (some (56, true))⟩,
                            ⟨some 59, .mov (.tmp 0), (some (56, true))⟩,
                            ⟨some 60, .bin .eql 23 (.tmp 58) (.tmp 59), (some (56, true))⟩,
                            ⟨some 61, .pick (.tmp 56) (.tmp 60) (.const (.bool false)), none⟩,
                            ⟨some 62, .mov (.tmp 61), none⟩,
                            ⟨some 63, .load true 4 (.tmp 14), (some (62, true))⟩,
                            ⟨some 64, .call 17 [.tmp 63], (some (62, true))⟩,
                            ⟨some 65, .mov (.tmp 0), (some (62, true))⟩,
                            ⟨some 66, .bin .eql 23 (.tmp 64) (.tmp 65), (some (62, true))⟩,
                            ⟨some 67, .mov (.tmp 3), (some (62, true))⟩,
                            ⟨some 68, .mov (.tmp 2), (some (62, true))⟩,
                            ⟨some 69, .iadra 4 1 (.tmp 10) (.tmp 68), (some (62, true))⟩,
                            ⟨some 70, .load false 1 (.tmp 69), (some (62, true))⟩,
                            ⟨some 71, .bin .eql 5 (.tmp 67) (.tmp 70), (some (62, true))⟩,
                            ⟨some 72, .eqb false 4 (.tmp 66) (.tmp 71), (some (62, true))⟩,
                            ⟨some 73, .pick (.tmp 62) (.tmp 72) (.const (.bool false)), none⟩,
                            ⟨some 74, .mov (.tmp 73), none⟩,
                            ⟨some 75, .load true 4 (.tmp 14), (some (74, true))⟩,
                            ⟨some 76, .call 17 [.tmp 75], (some (74, true))⟩,
                            ⟨some 77, .call 15 [.tmp 76], (some (74, true))⟩,
                            ⟨some 78, .load true 4 (.tmp 14), (some (74, true))⟩,
                            ⟨some 79, .eqa false [.int, .int, .int, .int] (.tmp 77) (.tmp 78), (some (74, true))⟩,
                            ⟨some 80, .pick (.tmp 74) (.tmp 79) (.const (.bool false)), none⟩,
                            ⟨some 81, .mov (.tmp 80), none⟩,
                            ⟨some 82, .mov (.tmp 9), (some (81, true))⟩,
                            ⟨some 83, .pick (.tmp 81) (.tmp 82) (.const (.bool false)), none⟩,
                            ⟨some 8, .mov (.tmp 83), none⟩] [0, 1, 2, 3, 9, 10, 12, 14, 51, 52, 53, 54, 55, 56, 57, 58, 59, 60, 61, 62, 63, 64, 65, 66, 67, 68, 69, 70, 71, 72, 73, 74, 75, 76, 77, 78, 79, 80, 81, 82, 83])
                        .ret)))))))))))
abbrev v_rivuletlaw1_AddrBytes : List RV := [.tmp 8]
abbrev f_rivuletlaw1_AddrBytes : FuncId := 3
theorem k_rivuletlaw1_AddrBytes : closedOf Tryd.prog Tryd.f3 = (false, some true, some v_rivuletlaw1_AddrBytes, some c_rivuletlaw1_AddrBytes.plain, 84) := by kernel_rfl
theorem ac_rivuletlaw1_AddrBytes {args : List AV} {r : AV} (h : aw Tryd.prog c_rivuletlaw1_AddrBytes (env0 args) (endQ v_rivuletlaw1_AddrBytes r)) (hargs : args.length ≤ 84 := by decide) (hok : resOK r = true := by rfl) : AC Tryd.prog f_rivuletlaw1_AddrBytes args r :=
  AC_mk (by kernel_rfl) Tryd.func3 k_rivuletlaw1_AddrBytes hargs hok (by decide) h

/-- rivulet/rivuletlaw1.AddrMasks (function 4) -/
def c_rivuletlaw1_AddrMasks : ACode :=
  (.seq
    (.region false [
        ⟨some 8, .mov (.const (.bool false)), none⟩] [8])
    (.seq
      (.region false [
          ⟨some 12, .callm 14 [], none⟩,
          ⟨some 9, .mov (.tmp 12), none⟩] [12])
      (.seq
        (.seq
          (.region false [
              ⟨some 13, .mov (.tmp 9), none⟩,
              ⟨some 14, .un .not (.tmp 13), none⟩] [9, 13])
          (.cond (.tmp 14)
            (.seq
              (.region false [
                  ⟨some 8, .mov (.const (.bool false)), none⟩] [0, 1, 2, 3, 14])
              .ret)
            .skip))
        (.seq
          (.region false [
              ⟨some 15, .mov (.tmp 2), none⟩,
              ⟨some 16, .callm 16 [.tmp 15, .const (.int .i64 33)], none⟩,
              ⟨some 2, .mov (.tmp 16), none⟩] [14, 15, 16])
          (.seq
            (.region false [
                ⟨some 17, .mov (.tmp 2), none⟩,
                ⟨some 18, .mov (.tmp 3), none⟩,
                ⟨some 19, .mov (.tmp 2), none⟩,
                ⟨some 20, .bin .sub 3 (.const (.int .i64 33)) (.tmp 19), none⟩,
                ⟨some 21, .callm 16 [.tmp 18, .tmp 20], none⟩,
                ⟨some 22, .bin .add 3 (.tmp 17) (.tmp 21), none⟩,
                ⟨some 3, .mov (.tmp 22), none⟩] [17, 18, 19, 20, 21, 22])
            (.seq
              (.region false [
                  ⟨some 23, .mov (.tmp 0), none⟩,
                  ⟨some 24, .mov (.tmp 2), none⟩,
                  ⟨some 25, .callm 18 [.tmp 24], none⟩,
                  ⟨some 26, .bin .and 23 (.tmp 23) (.tmp 25), none⟩,
                  ⟨some 27, .mov (.tmp 2), none⟩,
                  ⟨some 28, .build [.lit (.int .u32 0), .lit (.int .i64 0)] [(0, 1, .tmp 26), (1, 1, .tmp 27)], none⟩,
                  ⟨some 10, .alloc [.lit (.int .u32 0), .lit (.int .i64 0)], none⟩,
                  ⟨none, .store 2 (.tmp 10) (.tmp 28), none⟩] [23, 24, 25, 26, 27, 28])
              (.seq
                (.region false [
                    ⟨some 29, .mov (.tmp 0), none⟩,
                    ⟨some 30, .mov (.tmp 3), none⟩,
                    ⟨some 31, .callm 18 [.tmp 30], none⟩,
                    ⟨some 32, .bin .and 23 (.tmp 29) (.tmp 31), none⟩,
                    ⟨some 33, .mov (.tmp 3), none⟩,
                    ⟨some 34, .build [.lit (.int .u32 0), .lit (.int .i64 0)] [(0, 1, .tmp 32), (1, 1, .tmp 33)], none⟩,
                    ⟨some 11, .alloc [.lit (.int .u32 0), .lit (.int .i64 0)], none⟩,
                    ⟨none, .store 2 (.tmp 11) (.tmp 34), none⟩] [29, 30, 31, 32, 33, 34])
                (.seq
                  (.seq
                    (.region false [
                        ⟨some 35, .load true 2 (.tmp 11), none⟩,
                        ⟨some 36, .load true 2 (.tmp 10), none⟩,
                        ⟨some 37, .callm 19 [.tmp 35, .tmp 36], none⟩,
                        ⟨some 38, .un .not (.tmp 37), none⟩,
                        ⟨some 39, .mov (.tmp 38), none⟩,
                        ⟨some 40, .load true 2 (.tmp 10), (some (39, false))⟩,
                        ⟨some 41, .mov (.tmp 0), (some (39, false))⟩,
                        ⟨some 42, .callm 20 [.tmp 40, .tmp 41], (some (39, false))⟩,
                        ⟨some 43, .un .not (.tmp 42), (some (39, false))⟩,
                        ⟨some 44, .pick (.tmp 39) (.const (.bool true)) (.tmp 43), none⟩,
                        ⟨some 45, .mov (.tmp 44), none⟩,
                        ⟨some 46, .load true 2 (.tmp 11), (some (45, false))⟩,
                        ⟨some 47, .mov (.tmp 0), (some (45, false))⟩,
                        ⟨some 48, .callm 20 [.tmp 46, .tmp 47], (some (45, false))⟩,
                        ⟨some 49, .un .not (.tmp 48), (some (45, false))⟩,
                        ⟨some 50, .pick (.tmp 45) (.const (.bool true)) (.tmp 49), none⟩,
                        ⟨some 51, .mov (.tmp 50), none⟩,
                        ⟨some 52, .load true 2 (.tmp 11), (some (51, false))⟩,
                        ⟨some 53, .mov (.tmp 1), (some (51, false))⟩,
                        ⟨some 54, .callm 20 [.tmp 52, .tmp 53], (some (51, false))⟩,
                        ⟨some 55, .mov (.tmp 54), (some (51, false))⟩,
                        ⟨some 56, .load true 2 (.tmp 10), (some (55, true))⟩,
                        ⟨some 57, .mov (.tmp 1), (some (55, true))⟩,
                        ⟨some 58, .callm 20 [.tmp 56, .tmp 57], (some (55, true))⟩,
                        ⟨some 59, .un .not (.tmp 58), (some (55, true))⟩,
                        ⟨some 60, .pick (.tmp 55) (.tmp 59) (.const (.bool false)), (some (51, false))⟩,
                        ⟨some 61, .pick (.tmp 51) (.const (.bool true)) (.tmp 60), none⟩,
                        ⟨some 62, .mov (.tmp 61), none⟩,
                        ⟨some 63, .load true 2 (.tmp 10), (some (62, false))⟩,
                        ⟨some 64, .load true 2 (.tmp 11), (some (62, false))⟩,
                        ⟨some 65, .callm 19 [.tmp 63, .tmp 64], (some (62, false))⟩,
                        ⟨some 66, .mov (.tmp 2), (some (62, false))⟩,
                        ⟨some 67, .mov (.tmp 3), (some (62, false))⟩,
                        ⟨some 68, .bin .eql 3 (.tmp 66) (.tmp 67), (some (62, false))⟩,
                        ⟨some 69, .eqb true 4 (.tmp 65) (.tmp 68), (some (62, false))⟩,
                        ⟨some 70, .pick (.tmp 62) (.const (.bool true)) (.tmp 69), none⟩] [0, 1, 3, 10, 11, 35, 36, 37, 38, 39, 40, 41, 42, 43, 44, 45, 46, 47, 48, 49, 50, 51, 52, 53, 54, 55, 56, 57, 58, 59, 60, 61, 62, 63, 64, 65, 66, 67, 68, 69])
                    (.cond (.tmp 70)
                      (.seq
                        (.region false [
                            ⟨some 8, .mov (.const (.bool false)), none⟩] [2, 70])
                        .ret)
                      .skip))
                  (.seq
                    (.region false [
                        ⟨some 71, .mov (.tmp 2), none⟩,
                        ⟨some 72, .bin .eql 3 (.tmp 71) (.const (.int .i64 32)), none⟩,
                        ⟨some 73, .mov (.tmp 72), none⟩,
                        ⟨some 74, .mov (.tmp 2), (some (73, false))⟩,
                        ⟨some 75, .bin .add 3 (.tmp 74) (.const (.int .i64 1)), (some (73, false))⟩,
                        ⟨some 76, .callm 18 [.tmp 75], (some (73, false))⟩,
                        ⟨some 77, .mov (.tmp 2), (some (73, false))⟩,
                        ⟨some 78, .callm 18 [.tmp 77], (some (73, false))⟩,
                        ⟨some 79, .bin .xor 23 (.tmp 76) (.tmp 78), (some (73, false))⟩,
                        ⟨some 80, .mov (.tmp 2), (some (73, false))⟩,
                        ⟨some 81, .bin .sub 3 (.const (.int .i64 31)) (.tmp 80), (some (73, false))⟩,
                        ⟨some 82, .cint .u64 (.tmp 81), (some (73, false))⟩,
                        ⟨some 83, .bin .shl 23 (.const (.int .u32 1)) (.tmp 82), (some (73, false))⟩,
                        ⟨some 84, .bin .eql 23 (.tmp 79) (.tmp 83), (some (73, false))⟩,
                        ⟨some 85, .mov (.tmp 84), (some (73, false))⟩,
                        ⟨some 86, .callm 18 [.const (.int .i64 0)], (some (85, true))⟩,
                        ⟨some 87, .bin .eql 23 (.tmp 86) (.const (.int .u32 0)), (some (85, true))⟩,
                        ⟨some 88, .pick (.tmp 85) (.tmp 87) (.const (.bool false)), (some (73, false))⟩,
                        ⟨some 89, .mov (.tmp 88), (some (73, false))⟩,
                        ⟨some 90, .callm 18 [.const (.int .i64 (-3))], (some (89, true))⟩,
                        ⟨some 91, .bin .eql 23 (.tmp 90) (.const (.int .u32 0)), (some (89, true))⟩,
                        ⟨some 92, .pick (.tmp 89) (.tmp 91) (.const (.bool false)), (some (73, false))⟩,
                        ⟨some 93, .mov (.tmp 92), (some (73, false))⟩,
                        ⟨some 94, .callm 18 [.const (.int .i64 40)], (some (93, true))⟩,
                        ⟨some 95, .bin .eql 23 (.tmp 94) (.const (.int .u32 4294967295)), (some (93, true))⟩,
                        ⟨some 96, .pick (.tmp 93) (.tmp 95) (.const (.bool false)), (some (73, false))⟩,
                        ⟨some 97, .pick (.tmp 73) (.const (.bool true)) (.tmp 96), none⟩,
                        ⟨some 8, .mov (.tmp 97), none⟩] [2, 70, 71, 72, 73, 74, 75, 76, 77, 78, 79, 80, 81, 82, 83, 84, 85, 86, 87, 88, 89, 90, 91, 92, 93, 94, 95, 96, 97])
                    .ret)))))))))
abbrev v_rivuletlaw1_AddrMasks : List RV := [.tmp 8]
abbrev f_rivuletlaw1_AddrMasks : FuncId := 4
theorem k_rivuletlaw1_AddrMasks : closedOf Tryd.prog Tryd.f4 = (false, some true, some v_rivuletlaw1_AddrMasks, some c_rivuletlaw1_AddrMasks.plain, 98) := by kernel_rfl
theorem ac_rivuletlaw1_AddrMasks {args : List AV} {r : AV} (h : aw Tryd.prog c_rivuletlaw1_AddrMasks (env0 args) (endQ v_rivuletlaw1_AddrMasks r)) (hargs : args.length ≤ 98 := by decide) (hok : resOK r = true := by rfl) : AC Tryd.prog f_rivuletlaw1_AddrMasks args r :=
  AC_mk (by kernel_rfl) Tryd.func4 k_rivuletlaw1_AddrMasks hargs hok (by decide) h

/-- rivulet/rivuletlaw5.LexMany (function 5) -/
def c_rivuletlaw5_LexMany : ACode :=
  (.seq
    (.region false [
        ⟨some 2, .mov (.const (.bool false)), none⟩] [2])
    (.seq
      (.region false [
          ⟨some 8, .callm 21 [], none⟩,
          ⟨some 3, .mov (.tmp 8), none⟩] [8])
      (.seq
        (.seq
          (.region false [
              ⟨some 9, .mov (.tmp 3), none⟩,
              ⟨some 10, .un .not (.tmp 9), none⟩] [9])
          (.cond (.tmp 10)
            (.seq
              (.region false [
                  ⟨some 2, .mov (.const (.bool false)), none⟩] [0, 3, 10])
              .ret)
            .skip))
        (.seq
          (.region false [
              ⟨some 11, .mov (.tmp 0), none⟩,
              ⟨some 12, .callm 16 [.tmp 11, .const (.int .i64 7)], none⟩,
              ⟨some 13, .bin .add 3 (.const (.int .i64 16381)) (.tmp 12), none⟩,
              ⟨some 0, .mov (.tmp 13), none⟩] [10, 11, 12, 13])
          (.seq
            (.region false [
                ⟨some 14, .mov (.tmp 0), none⟩,
                ⟨some 15, .mks false 1 1 [.lit (.int .u8 0)] (.tmp 14) (.tmp 14), none⟩,
                ⟨some 4, .mov (.tmp 15), none⟩] [14, 15])
            (.seq
              (.seq
                (.region false [
                    ⟨some 5, .mov (.const (.int .i64 0)), none⟩] [])
                (.block 0
                  (.loop
                    (.seq
                      (.seq
                        (.region false [
                            ⟨some 16, .mov (.tmp 5), none⟩,
                            ⟨some 17, .mov (.tmp 0), none⟩,
                            ⟨some 18, .bin .lss 3 (.tmp 16) (.tmp 17), none⟩] [16, 17])
                        (.cond (.tmp 18)
                          .skip
                          (.exit 0)))
                      (.seq
                        (.block 1
                          (.region false [
                              ⟨some 21, .mov (.tmp 4), none⟩,
                              ⟨some 22, .mov (.tmp 5), none⟩,
                              ⟨some 23, .iaddr 1 (.tmp 21) (.tmp 22), none⟩,
                              ⟨none, .store 1 (.tmp 23) (.const (.int .u8 10)), none⟩] [18, 21, 22, 23]) [])
                        (.region false [
                            ⟨some 19, .mov (.tmp 5), none⟩,
                            ⟨some 20, .bin .add 3 (.tmp 19) (.const (.int .i64 1)), none⟩,
                            ⟨some 5, .mov (.tmp 20), none⟩] [19, 20]))) [] []) [5, 18]))
              (.seq
                (.region false [
                    ⟨some 24, .mov (.tmp 4), none⟩,
                    ⟨some 25, .iaddr 1 (.tmp 24) (.const (.int .i64 0)), none⟩,
                    ⟨none, .store 1 (.tmp 25) (.const (.int .u8 97)), none⟩] [24, 25])
                (.seq
                  (.region false [
                      ⟨some 26, .mov (.tmp 4), none⟩,
                      ⟨some 27, .mov (.tmp 0), none⟩,
                      ⟨some 28, .bin .sub 3 (.tmp 27) (.const (.int .i64 1)), none⟩,
                      ⟨some 29, .iaddr 1 (.tmp 26) (.tmp 28), none⟩,
                      ⟨none, .store 1 (.tmp 29) (.const (.int .u8 98)), none⟩] [26, 27, 28, 29])
                  (.seq
                    (.region false [
                        ⟨some 31, .mov (.tmp 4), none⟩,
                        ⟨some 32, .b2s (.tmp 31), none⟩,
                        ⟨some 33, .callm 22 [.tmp 32], none⟩,
                        ⟨some 30, .mov (.tmp 33), none⟩,
                        ⟨some 34, .ext (.tmp 30) 0, none⟩,
                        ⟨some 35, .ext (.tmp 30) 1, none⟩,
                        ⟨some 6, .mov (.tmp 34), none⟩,
                        ⟨some 7, .mov (.tmp 35), none⟩] [4, 30, 31, 32, 33, 34, 35])
                    (.seq
                      (.seq
                        (.region false [
                            ⟨some 36, .mov (.tmp 0), none⟩,
                            ⟨some 37, .bin .gtr 3 (.tmp 36) (.const (.int .i64 16384)), none⟩] [36])
                        (.cond (.tmp 37)
                          (.seq
                            (.region false [
                                ⟨some 38, .mov (.tmp 3), none⟩,
                                ⟨some 39, .mov (.tmp 38), none⟩,
                                ⟨some 40, .mov (.tmp 6), (some (39, true))⟩,
                                ⟨some 41, .lenl (.tmp 40), (some (39, true))⟩,
                                ⟨some 42, .bin .eql 3 (.tmp 41) (.const (.int .i64 0)), (some (39, true))⟩,
                                ⟨some 43, .pick (.tmp 39) (.tmp 42) (.const (.bool false)), none⟩,
                                ⟨some 44, .mov (.tmp 43), none⟩,
                                ⟨some 45, .mov (.tmp 7), (some (44, true))⟩,
                                ⟨some 46, .callm 23 [.tmp 45, .const (.int .i64 104)], (some (44, true))⟩,
                                ⟨some 47, .pick (.tmp 44) (.tmp 46) (.const (.bool false)), none⟩,
                                ⟨some 2, .mov (.tmp 47), none⟩] [0, 3, 6, 7, 37, 38, 39, 40, 41, 42, 43, 44, 45, 46, 47])
                            .ret)
                          .skip))
                      (.seq
                        (.region false [
                            ⟨some 48, .mov (.tmp 3), none⟩,
                            ⟨some 49, .mov (.tmp 48), none⟩,
                            ⟨some 50, .mov (.tmp 7), (some (49, true))⟩,
                            ⟨some 51, .eqn false (.tmp 50), (some (49, true))⟩,
                            ⟨some 52, .pick (.tmp 49) (.tmp 51) (.const (.bool false)), none⟩,
                            ⟨some 53, .mov (.tmp 52), none⟩,
                            ⟨some 54, .mov (.tmp 6), (some (53, true))⟩,
                            ⟨some 55, .lenl (.tmp 54), (some (53, true))⟩,
                            ⟨some 56, .bin .eql 3 (.tmp 55) (.const (.int .i64 2)), (some (53, true))⟩,
                            ⟨some 57, .pick (.tmp 53) (.tmp 56) (.const (.bool false)), none⟩,
                            ⟨some 58, .mov (.tmp 57), none⟩,
                            ⟨some 59, .mov (.tmp 6), (some (58, true))⟩,
                            ⟨some 60, .iaddr 2 (.tmp 59) (.const (.int .i64 0)), (some (58, true))⟩,
                            ⟨some 61, .faddr 0 1 (.tmp 60), (some (58, true))⟩,
                            ⟨some 62, .load false 1 (.tmp 61), (some (58, true))⟩,
                            ⟨some 63, .bin .eql 3 (.tmp 62) (.const (.int .i64 1)), (some (58, true))⟩,
                            ⟨some 64, .pick (.tmp 58) (.tmp 63) (.const (.bool false)), none⟩,
                            ⟨some 65, .mov (.tmp 64), none⟩,
                            ⟨some 66, .mov (.tmp 6), (some (65, true))⟩,
                            ⟨some 67, .iaddr 2 (.tmp 66) (.const (.int .i64 1)), (some (65, true))⟩,
                            ⟨some 68, .faddr 0 1 (.tmp 67), (some (65, true))⟩,
                            ⟨some 69, .load false 1 (.tmp 68), (some (65, true))⟩,
                            ⟨some 70, .mov (.tmp 0), (some (65, true))⟩,
                            ⟨some 71, .bin .sub 3 (.tmp 70) (.const (.int .i64 1)), (some (65, true))⟩,
                            ⟨some 72, .bin .eql 3 (.tmp 69) (.tmp 71), (some (65, true))⟩,
                            ⟨some 73, .pick (.tmp 65) (.tmp 72) (.const (.bool false)), none⟩,
                            ⟨some 2, .mov (.tmp 73), none⟩] [0, 3, 6, 7, 37, 48, 49, 50, 51, 52, 53, 54, 55, 56, 57, 58, 59, 60, 61, 62, 63, 64, 65, 66, 67, 68, 69, 70, 71, 72, 73])
                        .ret)))))))))))
abbrev v_rivuletlaw5_LexMany : List RV := [.tmp 2]
abbrev f_rivuletlaw5_LexMany : FuncId := 5
theorem k_rivuletlaw5_LexMany : closedOf Tryd.prog Tryd.f5 = (false, some true, some v_rivuletlaw5_LexMany, some c_rivuletlaw5_LexMany.plain, 74) := by kernel_rfl
theorem ac_rivuletlaw5_LexMany {args : List AV} {r : AV} (h : aw Tryd.prog c_rivuletlaw5_LexMany (env0 args) (endQ v_rivuletlaw5_LexMany r)) (hargs : args.length ≤ 74 := by decide) (hok : resOK r = true := by rfl) : AC Tryd.prog f_rivuletlaw5_LexMany args r :=
  AC_mk (by kernel_rfl) Tryd.func5 k_rivuletlaw5_LexMany hargs hok (by decide) h

/-- rivulet/rivuletlaw5.LexNames (function 6) -/
def c_rivuletlaw5_LexNames : ACode :=
  (.seq
    (.region false [
        ⟨some 6, .mov (.const (.bool false)), none⟩] [6])
    (.seq
      (.region false [
          ⟨some 12, .callm 21 [], none⟩,
          ⟨some 7, .mov (.tmp 12), none⟩] [12])
      (.seq
        (.seq
          (.region false [
              ⟨some 13, .mov (.tmp 7), none⟩,
              ⟨some 14, .un .not (.tmp 13), none⟩] [13])
          (.cond (.tmp 14)
            (.seq
              (.region false [
                  ⟨some 6, .mov (.const (.bool false)), none⟩] [0, 1, 2, 7, 14])
              .ret)
            .skip))
        (.seq
          (.region false [
              ⟨some 15, .mov (.tmp 0), none⟩,
              ⟨some 16, .callm 16 [.tmp 15, .const (.int .i64 20)], none⟩,
              ⟨some 0, .mov (.tmp 16), none⟩] [14, 15, 16])
          (.seq
            (.region false [
                ⟨some 17, .mov (.tmp 0), none⟩,
                ⟨some 18, .mks false 1 1 [.lit (.int .u8 0)] (.tmp 17) (.tmp 17), none⟩,
                ⟨some 8, .mov (.tmp 18), none⟩] [17, 18])
            (.seq
              (.seq
                (.region false [
                    ⟨some 9, .mov (.const (.int .i64 0)), none⟩] [])
                (.block 0
                  (.loop
                    (.seq
                      (.seq
                        (.region false [
                            ⟨some 19, .mov (.tmp 9), none⟩,
                            ⟨some 20, .mov (.tmp 0), none⟩,
                            ⟨some 21, .bin .lss 3 (.tmp 19) (.tmp 20), none⟩] [19, 20])
                        (.cond (.tmp 21)
                          .skip
                          (.exit 0)))
                      (.seq
                        (.block 1
                          (.region false [
                              ⟨some 24, .mov (.tmp 8), none⟩,
                              ⟨some 25, .mov (.tmp 9), none⟩,
                              ⟨some 26, .mov (.tmp 9), none⟩,
                              ⟨some 27, .bin .rem 3 (.tmp 26) (.const (.int .i64 26)), none⟩,
                              ⟨some 28, .cint .u8 (.tmp 27), none⟩,
                              ⟨some 29, .bin .add 5 (.const (.int .u8 97)) (.tmp 28), none⟩,
                              ⟨some 30, .iaddr 1 (.tmp 24) (.tmp 25), none⟩,
                              ⟨none, .store 1 (.tmp 30) (.tmp 29), none⟩] [21, 24, 25, 26, 27, 28, 29, 30]) [])
                        (.region false [
                            ⟨some 22, .mov (.tmp 9), none⟩,
                            ⟨some 23, .bin .add 3 (.tmp 22) (.const (.int .i64 1)), none⟩,
                            ⟨some 9, .mov (.tmp 23), none⟩] [22, 23]))) [] []) [9, 21]))
              (.seq
                (.region false [
                    ⟨some 31, .mov (.tmp 0), none⟩,
                    ⟨some 32, .bin .gtr 3 (.tmp 31) (.const (.int .i64 0)), none⟩,
                    ⟨some 33, .mov (.tmp 32), none⟩,
                    ⟨some 34, .mov (.tmp 0), (some (33, true))⟩,
                    ⟨some 35, .bin .leq 3 (.tmp 34) (.const (.int .i64 12)), (some (33, true))⟩,
                    ⟨some 36, .pick (.tmp 33) (.tmp 35) (.const (.bool false)), none⟩,
                    ⟨some 10, .mov (.tmp 36), none⟩] [31, 32, 33, 34, 35, 36])
                (.seq
                  (.seq
                    (.region false [
                        ⟨some 37, .mov (.tmp 0), none⟩,
                        ⟨some 38, .bin .gtr 3 (.tmp 37) (.const (.int .i64 0)), none⟩] [37])
                    (.cond (.tmp 38)
                      (.seq
                        (.region false [
                            ⟨some 39, .mov (.tmp 1), none⟩,
                            ⟨some 40, .mov (.tmp 0), none⟩,
                            ⟨some 41, .callm 16 [.tmp 39, .tmp 40], none⟩,
                            ⟨some 1, .mov (.tmp 41), none⟩] [0, 38, 39, 40, 41])
                        (.seq
                          (.region false [
                              ⟨some 42, .mov (.tmp 8), none⟩,
                              ⟨some 43, .mov (.tmp 1), none⟩,
                              ⟨some 44, .mov (.tmp 2), none⟩,
                              ⟨some 45, .iaddr 1 (.tmp 42) (.tmp 43), none⟩,
                              ⟨none, .store 1 (.tmp 45) (.tmp 44), none⟩] [42, 43, 44, 45])
                          (.seq
                            (.region false [
                                ⟨some 46, .mov (.tmp 2), none⟩,
                                ⟨some 47, .bin .geq 5 (.tmp 46) (.const (.int .u8 97)), none⟩,
                                ⟨some 48, .mov (.tmp 47), none⟩,
                                ⟨some 49, .mov (.tmp 2), (some (48, true))⟩,
                                ⟨some 50, .bin .leq 5 (.tmp 49) (.const (.int .u8 122)), (some (48, true))⟩,
                                ⟨some 51, .pick (.tmp 48) (.tmp 50) (.const (.bool false)), none⟩,
                                ⟨some 11, .mov (.tmp 51), none⟩] [46, 47, 48, 49, 50, 51])
                            (.region false [
                                ⟨some 52, .mov (.tmp 10), none⟩,
                                ⟨some 53, .mov (.tmp 52), none⟩,
                                ⟨some 54, .mov (.tmp 11), (some (53, true))⟩,
                                ⟨some 55, .mov (.tmp 54), (some (53, true))⟩,
                                ⟨some 56, .mov (.tmp 1), (some (55, false))⟩,
                                ⟨some 57, .bin .gtr 3 (.tmp 56) (.const (.int .i64 0)), (some (55, false))⟩,
                                ⟨some 58, .mov (.tmp 57), (some (55, false))⟩,
                                ⟨some 59, .mov (.tmp 2), (some (58, true))⟩,
                                ⟨some 60, .bin .geq 5 (.tmp 59) (.const (.int .u8 48)), (some (58, true))⟩,
                                ⟨some 61, .mov (.tmp 60), (some (58, true))⟩,
                                ⟨some 62, .mov (.tmp 2), (some (61, true))⟩,
                                ⟨some 63, .bin .leq 5 (.tmp 62) (.const (.int .u8 57)), (some (61, true))⟩,
                                ⟨some 64, .pick (.tmp 61) (.tmp 63) (.const (.bool false)), (some (58, true))⟩,
                                ⟨some 65, .mov (.tmp 64), (some (58, true))⟩,
                                ⟨some 66, .mov (.tmp 2), (some (65, false))⟩,
                                ⟨some 67, .bin .eql 5 (.tmp 66) (.const (.int .u8 45)), (some (65, false))⟩,
                                ⟨some 68, .pick (.tmp 65) (.const (.bool true)) (.tmp 67), (some (58, true))⟩,
                                ⟨some 69, .pick (.tmp 58) (.tmp 68) (.const (.bool false)), (some (55, false))⟩,
                                ⟨some 70, .pick (.tmp 55) (.const (.bool true)) (.tmp 69), (some (53, true))⟩,
                                ⟨some 71, .pick (.tmp 53) (.tmp 70) (.const (.bool false)), none⟩,
                                ⟨some 10, .mov (.tmp 71), none⟩] [1, 2, 11, 52, 53, 54, 55, 56, 57, 58, 59, 60, 61, 62, 63, 64, 65, 66, 67, 68, 69, 70, 71]))))
                      .skip))
                  (.seq
                    (.region false [
                        ⟨some 72, .mov (.tmp 7), none⟩,
                        ⟨some 73, .mov (.tmp 72), none⟩,
                        ⟨some 74, .mov (.tmp 8), (some (73, true))⟩,
                        ⟨some 75, .b2s (.tmp 74), (some (73, true))⟩,
                        ⟨some 76, .callm 24 [.tmp 75], (some (73, true))⟩,
                        ⟨some 77, .eqn false (.tmp 76), (some (73, true))⟩,
                        ⟨some 78, .mov (.tmp 10), (some (73, true))⟩,
                        ⟨some 79, .eqb false 4 (.tmp 77) (.tmp 78), (some (73, true))⟩,
                        ⟨some 80, .pick (.tmp 73) (.tmp 79) (.const (.bool false)), none⟩,
                        ⟨some 81, .mov (.tmp 80), none⟩,
                        ⟨some 82, .mov (.tmp 10), (some (81, true))⟩,
                        ⟨some 83, .mov (.tmp 82), (some (81, true))⟩,
                        ⟨some 84, .mov (.tmp 8), (some (83, false))⟩,
                        ⟨some 85, .b2s (.tmp 84), (some (83, false))⟩,
                        ⟨some 86, .callm 24 [.tmp 85], (some (83, false))⟩,
                        ⟨some 87, .callm 23 [.tmp 86, .const (.int .i64 109)], (some (83, false))⟩,
                        ⟨some 88, .pick (.tmp 83) (.const (.bool true)) (.tmp 87), (some (81, true))⟩,
                        ⟨some 89, .pick (.tmp 81) (.tmp 88) (.const (.bool false)), none⟩,
                        ⟨some 6, .mov (.tmp 89), none⟩] [0, 1, 2, 7, 8, 10, 38, 72, 73, 74, 75, 76, 77, 78, 79, 80, 81, 82, 83, 84, 85, 86, 87, 88, 89])
                    .ret)))))))))
abbrev v_rivuletlaw5_LexNames : List RV := [.tmp 6]
abbrev f_rivuletlaw5_LexNames : FuncId := 6
theorem k_rivuletlaw5_LexNames : closedOf Tryd.prog Tryd.f6 = (false, some true, some v_rivuletlaw5_LexNames, some c_rivuletlaw5_LexNames.plain, 90) := by kernel_rfl
theorem ac_rivuletlaw5_LexNames {args : List AV} {r : AV} (h : aw Tryd.prog c_rivuletlaw5_LexNames (env0 args) (endQ v_rivuletlaw5_LexNames r)) (hargs : args.length ≤ 90 := by decide) (hok : resOK r = true := by rfl) : AC Tryd.prog f_rivuletlaw5_LexNames args r :=
  AC_mk (by kernel_rfl) Tryd.func6 k_rivuletlaw5_LexNames hargs hok (by decide) h

/-- rivulet/rivuletlaw5.LexRows (function 7) -/
def c_rivuletlaw5_LexRows : ACode :=
  (.seq
    (.region false [
        ⟨some 4, .mov (.const (.bool false)), none⟩] [4])
    (.seq
      (.region false [
          ⟨some 16, .callm 21 [], none⟩,
          ⟨some 5, .mov (.tmp 16), none⟩] [16])
      (.seq
        (.seq
          (.region false [
              ⟨some 17, .mov (.tmp 5), none⟩,
              ⟨some 18, .un .not (.tmp 17), none⟩] [5, 17])
          (.cond (.tmp 18)
            (.seq
              (.region false [
                  ⟨some 4, .mov (.const (.bool false)), none⟩] [0, 1, 18])
              .ret)
            .skip))
        (.seq
          (.seq
            (.region false [
                ⟨some 19, .mov (.tmp 0), none⟩,
                ⟨some 20, .lenl (.tmp 19), none⟩,
                ⟨some 21, .bin .gtr 3 (.tmp 20) (.const (.int .i64 10)), none⟩] [18, 19, 20])
            (.cond (.tmp 21)
              (.seq
                (.region false [
                    ⟨some 4, .mov (.const (.bool true)), none⟩] [0, 1, 21])
                .ret)
              .skip))
          (.seq
            (.region false [
                ⟨some 6, .mov (.const (.string ⟨#[]⟩)), none⟩] [21])
            (.seq
              (.region false [
                  ⟨some 7, .mov (.const (.slice none 0 0)), none⟩] [])
              (.seq
                (.region false [
                    ⟨some 22, .bslice 4 1 [.const (.string ⟨#[32]⟩), .const (.string ⟨#[9]⟩), .const (.string ⟨#[32, 32, 9, 32]⟩), .const (.string ⟨#[32, 13]⟩)], none⟩,
                    ⟨some 23, .mov (.tmp 1), none⟩,
                    ⟨some 24, .callm 16 [.tmp 23, .const (.int .i64 4)], none⟩,
                    ⟨some 25, .iaddr 1 (.tmp 22) (.tmp 24), none⟩,
                    ⟨some 26, .load false 1 (.tmp 25), none⟩,
                    ⟨some 8, .mov (.tmp 26), none⟩] [1, 22, 23, 24, 25, 26])
                (.seq
                  (.seq
                    (.region false [
                        ⟨some 9, .mov (.const (.int .i64 0)), none⟩] [])
                    (.block 0
                      (.loop
                        (.seq
                          (.seq
                            (.region false [
                                ⟨some 27, .mov (.tmp 9), none⟩,
                                ⟨some 28, .mov (.tmp 0), none⟩,
                                ⟨some 29, .lenl (.tmp 28), none⟩,
                                ⟨some 30, .bin .lss 3 (.tmp 27) (.tmp 29), none⟩] [27, 28, 29])
                            (.cond (.tmp 30)
                              .skip
                              (.exit 0)))
                          (.seq
                            (.block 1
                              (.seq
                                (.region false [
                                    ⟨some 33, .mov (.tmp 0), none⟩,
                                    ⟨some 34, .mov (.tmp 9), none⟩,
                                    ⟨some 35, .iaddr 1 (.tmp 33) (.tmp 34), none⟩,
                                    ⟨some 36, .load false 1 (.tmp 35), none⟩,
                                    ⟨some 37, .callm 16 [.tmp 36, .const (.int .i64 6)], none⟩,
                                    ⟨some 10, .mov (.tmp 37), none⟩] [30, 33, 34, 35, 36, 37])
                                (.seq
                                  (.seq
                                    (.region false [
                                        ⟨some 11, .mov (.const (.int .i64 0)), none⟩] [])
                                    (.block 2
                                      (.loop
                                        (.seq
                                          (.seq
                                            (.region false [
                                                ⟨some 38, .mov (.tmp 11), none⟩,
                                                ⟨some 39, .mov (.tmp 10), none⟩,
                                                ⟨some 40, .bin .lss 3 (.tmp 38) (.tmp 39), none⟩] [38, 39])
                                            (.cond (.tmp 40)
                                              .skip
                                              (.exit 2)))
                                          (.seq
                                            (.block 3
                                              (.seq
                                                (.region false [
                                                    ⟨some 43, .mov (.tmp 6), none⟩,
                                                    ⟨some 44, .mov (.tmp 8), none⟩,
                                                    ⟨some 45, .bin .add 9 (.tmp 43) (.tmp 44), none⟩,
                                                    ⟨some 46, .bin .add 9 (.tmp 45) (.const (.string ⟨#[119]⟩)), none⟩,
                                                    ⟨some 47, .mov (.tmp 9), none⟩,
                                                    ⟨some 48, .callm 25 [.tmp 47], none⟩,
                                                    ⟨some 49, .bin .add 9 (.tmp 46) (.tmp 48), none⟩,
                                                    ⟨some 50, .mov (.tmp 11), none⟩,
                                                    ⟨some 51, .callm 25 [.tmp 50], none⟩,
                                                    ⟨some 52, .bin .add 9 (.tmp 49) (.tmp 51), none⟩,
                                                    ⟨some 6, .mov (.tmp 52), none⟩] [40, 43, 44, 45, 46, 47, 48, 49, 50, 51, 52])
                                                (.region false [
                                                    ⟨some 53, .mov (.tmp 7), none⟩,
                                                    ⟨some 54, .mov (.tmp 9), none⟩,
                                                    ⟨some 55, .callm 25 [.tmp 54], none⟩,
                                                    ⟨some 56, .bin .add 9 (.const (.string ⟨#[119]⟩)) (.tmp 55), none⟩,
                                                    ⟨some 57, .mov (.tmp 11), none⟩,
                                                    ⟨some 58, .callm 25 [.tmp 57], none⟩,
                                                    ⟨some 59, .bin .add 9 (.tmp 56) (.tmp 58), none⟩,
                                                    ⟨some 60, .bslice 1 1 [.tmp 59], none⟩,
                                                    ⟨some 61, .app 1 16 [] (.tmp 53) (.tmp 60), none⟩,
                                                    ⟨some 7, .mov (.tmp 61), none⟩] [53, 54, 55, 56, 57, 58, 59, 60, 61])) [])
                                            (.region false [
                                                ⟨some 41, .mov (.tmp 11), none⟩,
                                                ⟨some 42, .bin .add 3 (.tmp 41) (.const (.int .i64 1)), none⟩,
                                                ⟨some 11, .mov (.tmp 42), none⟩] [41, 42]))) [] []) [10, 11, 40]))
                                  (.region false [
                                      ⟨some 62, .mov (.tmp 6), none⟩,
                                      ⟨some 63, .mov (.tmp 8), none⟩,
                                      ⟨some 64, .bslice 4 1 [.const (.string ⟨#[]⟩), .const (.string ⟨#[32, 35, 32, 110, 111, 116, 101, 32, 35, 32, 109, 111, 114, 101]⟩), .const (.string ⟨#[35, 120]⟩), .tmp 63], none⟩,
                                      ⟨some 65, .mov (.tmp 0), none⟩,
                                      ⟨some 66, .mov (.tmp 9), none⟩,
                                      ⟨some 67, .iaddr 1 (.tmp 65) (.tmp 66), none⟩,
                                      ⟨some 68, .load false 1 (.tmp 67), none⟩,
                                      ⟨some 69, .bin .quo 3 (.tmp 68) (.const (.int .i64 6)), none⟩,
                                      ⟨some 70, .callm 16 [.tmp 69, .const (.int .i64 4)], none⟩,
                                      ⟨some 71, .iaddr 1 (.tmp 64) (.tmp 70), none⟩,
                                      ⟨some 72, .load false 1 (.tmp 71), none⟩,
                                      ⟨some 73, .bin .add 9 (.tmp 62) (.tmp 72), none⟩,
                                      ⟨some 74, .bin .add 9 (.tmp 73) (.const (.string ⟨#[10]⟩)), none⟩,
                                      ⟨some 6, .mov (.tmp 74), none⟩] [62, 63, 64, 65, 66, 67, 68, 69, 70, 71, 72, 73, 74]))) [])
                            (.region false [
                                ⟨some 31, .mov (.tmp 9), none⟩,
                                ⟨some 32, .bin .add 3 (.tmp 31) (.const (.int .i64 1)), none⟩,
                                ⟨some 9, .mov (.tmp 32), none⟩] [31, 32]))) [] []) [8, 9, 30]))
                  (.seq
                    (.region false [
                        ⟨some 76, .mov (.tmp 6), none⟩,
                        ⟨some 77, .callm 22 [.tmp 76], none⟩,
                        ⟨some 75, .mov (.tmp 77), none⟩,
                        ⟨some 78, .ext (.tmp 75) 0, none⟩,
                        ⟨some 79, .ext (.tmp 75) 1, none⟩,
                        ⟨some 12, .mov (.tmp 78), none⟩,
                        ⟨some 13, .mov (.tmp 79), none⟩] [6, 75, 76, 77, 78, 79])
                    (.seq
                      (.region false [
                          ⟨some 14, .mov (.const (.slice none 0 0)), none⟩] [])
                      (.seq
                        (.seq
                          (.region false [
                              ⟨some 15, .mov (.const (.int .i64 0)), none⟩] [])
                          (.block 4
                            (.loop
                              (.seq
                                (.seq
                                  (.region false [
                                      ⟨some 80, .mov (.tmp 15), none⟩,
                                      ⟨some 81, .mov (.tmp 12), none⟩,
                                      ⟨some 82, .lenl (.tmp 81), none⟩,
                                      ⟨some 83, .bin .lss 3 (.tmp 80) (.tmp 82), none⟩] [80, 81, 82])
                                  (.cond (.tmp 83)
                                    .skip
                                    (.exit 4)))
                                (.seq
                                  (.block 5
                                    (.seq
                                      (.seq
                                        (.region true [
                                            ⟨some 86, .mov (.tmp 12), none⟩,
                                            ⟨some 87, .mov (.tmp 15), none⟩,
                                            ⟨some 88, .iaddr 2 (.tmp 86) (.tmp 87), none⟩,
                                            ⟨some 89, .faddr 1 1 (.tmp 88), none⟩,
                                            ⟨some 90, .load false 1 (.tmp 89), none⟩,
                                            ⟨some 91, .lenl (.tmp 90), none⟩,
                                            ⟨some 92, .bin .eql 3 (.tmp 91) (.const (.int .i64 0)), none⟩,
                                            ⟨some 93, .mov (.tmp 92), none⟩,
                                            ⟨some 94, .mov (.tmp 12), (some (93, false))⟩,
                                            ⟨some 95, .mov (.tmp 15), (some (93, false))⟩,
                                            ⟨some 96, .iaddr 2 (.tmp 94) (.tmp 95), (some (93, false))⟩,
                                            ⟨some 97, .faddr 0 1 (.tmp 96), (some (93, false))⟩,
                                            ⟨some 98, .load false 1 (.tmp 97), (some (93, false))⟩,
                                            ⟨some 99, .bin .lss 3 (.tmp 98) (.const (.int .i64 1)), (some (93, false))⟩,
                                            ⟨some 100, .pick (.tmp 93) (.const (.bool true)) (.tmp 99), none⟩,
                                            ⟨some 101, .mov (.tmp 100), none⟩,
                                            ⟨some 102, .mov (.tmp 12), (some (101, false))⟩,
                                            ⟨some 103, .mov (.tmp 15), (some (101, false))⟩,
                                            ⟨some 104, .iaddr 2 (.tmp 102) (.tmp 103), (some (101, false))⟩,
                                            ⟨some 105, .faddr 0 1 (.tmp 104), (some (101, false))⟩,
                                            ⟨some 106, .load false 1 (.tmp 105), (some (101, false))⟩,
                                            ⟨some 107, .mov (.tmp 0), (some (101, false))⟩,
                                            ⟨some 108, .lenl (.tmp 107), (some (101, false))⟩,
                                            ⟨some 109, .bin .gtr 3 (.tmp 106) (.tmp 108), (some (101, false))⟩,
                                            ⟨some 110, .pick (.tmp 101) (.const (.bool true)) (.tmp 109), none⟩,
                                            ⟨some 111, .mov (.tmp 110), none⟩,
                                            ⟨some 112, .mov (.tmp 15), (some (111, false))⟩,
                                            ⟨some 113, .bin .gtr 3 (.tmp 112) (.const (.int .i64 0)), (some (111, false))⟩,
                                            ⟨some 114, .mov (.tmp 113), (some (111, false))⟩,
                                            ⟨some 115, .mov (.tmp 12), (some (114, true))⟩,
                                            ⟨some 116, .mov (.tmp 15), (some (114, true))⟩,
                                            ⟨some 117, .iaddr 2 (.tmp 115) (.tmp 116), (some (114, true))⟩,
                                            ⟨some 118, .faddr 0 1 (.tmp 117), (some (114, true))⟩,
                                            ⟨some 119, .load false 1 (.tmp 118), (some (114, true))⟩,
                                            ⟨some 120, .mov (.tmp 12), (some (114, true))⟩,
                                            ⟨some 121, .mov (.tmp 15), (some (114, true))⟩,
                                            ⟨some 122, .bin .sub 3 (.tmp 121) (.const (.int .i64 1)), (some (114, true))⟩,
                                            ⟨some 123, .iaddr 2 (.tmp 120) (.tmp 122), (some (114, true))⟩,
                                            ⟨some 124, .faddr 0 1 (.tmp 123), (some (114, true))⟩,
                                            ⟨some 125, .load false 1 (.tmp 124), (some (114, true))⟩,
                                            ⟨some 126, .bin .leq 3 (.tmp 119) (.tmp 125), (some (114, true))⟩,
                                            ⟨some 127, .pick (.tmp 114) (.tmp 126) (.const (.bool false)), (some (111, false))⟩,
                                            ⟨some 128, .pick (.tmp 111) (.const (.bool true)) (.tmp 127), none⟩] [83, 86, 87, 88, 89, 90, 91, 92, 93, 94, 95, 96, 97, 98, 99, 100, 101, 102, 103, 104, 105, 106, 107, 108, 109, 110, 111, 112, 113, 114, 115, 116, 117, 118, 119, 120, 121, 122, 123, 124, 125, 126, 127])
                                        (.cond (.tmp 128)
                                          (.seq
                                            (.region false [
                                                ⟨some 4, .mov (.const (.bool false)), none⟩] [0, 7, 12, 13, 14, 15, 128])
                                            .ret)
                                          .skip))
                                      (.region false [
                                          ⟨some 129, .mov (.tmp 14), none⟩,
                                          ⟨some 130, .mov (.tmp 12), none⟩,
                                          ⟨some 131, .mov (.tmp 15), none⟩,
                                          ⟨some 132, .iaddr 2 (.tmp 130) (.tmp 131), none⟩,
                                          ⟨some 133, .faddr 1 1 (.tmp 132), none⟩,
                                          ⟨some 134, .load false 1 (.tmp 133), none⟩,
                                          ⟨some 135, .app 1 16 [] (.tmp 129) (.tmp 134), none⟩,
                                          ⟨some 14, .mov (.tmp 135), none⟩] [128, 129, 130, 131, 132, 133, 134, 135])) [])
                                  (.region false [
                                      ⟨some 84, .mov (.tmp 15), none⟩,
                                      ⟨some 85, .bin .add 3 (.tmp 84) (.const (.int .i64 1)), none⟩,
                                      ⟨some 15, .mov (.tmp 85), none⟩] [84, 85]))) [] []) [0, 12, 15, 83]))
                        (.seq
                          (.region false [
                              ⟨some 136, .mov (.tmp 13), none⟩,
                              ⟨some 137, .eqn false (.tmp 136), none⟩,
                              ⟨some 138, .mov (.tmp 137), none⟩,
                              ⟨some 139, .mov (.tmp 14), (some (138, true))⟩,
                              ⟨some 140, .mov (.tmp 7), (some (138, true))⟩,
                              ⟨some 141, .callm 26 [.tmp 139, .tmp 140], (some (138, true))⟩,
                              ⟨some 142, .pick (.tmp 138) (.tmp 141) (.const (.bool false)), none⟩,
                              ⟨some 4, .mov (.tmp 142), none⟩] [7, 13, 14, 136, 137, 138, 139, 140, 141, 142])
                          .ret))))))))))))
abbrev v_rivuletlaw5_LexRows : List RV := [.tmp 4]
abbrev f_rivuletlaw5_LexRows : FuncId := 7
theorem k_rivuletlaw5_LexRows : closedOf Tryd.prog Tryd.f7 = (false, some true, some v_rivuletlaw5_LexRows, some c_rivuletlaw5_LexRows.plain, 143) := by kernel_rfl
theorem ac_rivuletlaw5_LexRows {args : List AV} {r : AV} (h : aw Tryd.prog c_rivuletlaw5_LexRows (env0 args) (endQ v_rivuletlaw5_LexRows r)) (hargs : args.length ≤ 143 := by decide) (hok : resOK r = true := by rfl) : AC Tryd.prog f_rivuletlaw5_LexRows args r :=
  AC_mk (by kernel_rfl) Tryd.func7 k_rivuletlaw5_LexRows hargs hok (by decide) h

/-- rivulet/rivuletlaw5.LexNumbers (function 8) -/
def c_rivuletlaw5_LexNumbers : ACode :=
  (.seq
    (.region false [
        ⟨some 4, .mov (.const (.bool false)), none⟩] [4])
    (.seq
      (.region false [
          ⟨some 14, .callm 21 [], none⟩,
          ⟨some 5, .mov (.tmp 14), none⟩] [14])
      (.seq
        (.seq
          (.region false [
              ⟨some 15, .mov (.tmp 5), none⟩,
              ⟨some 16, .un .not (.tmp 15), none⟩] [5, 15])
          (.cond (.tmp 16)
            (.seq
              (.region false [
                  ⟨some 4, .mov (.const (.bool false)), none⟩] [0, 1, 16])
              .ret)
            .skip))
        (.seq
          (.region false [
              ⟨some 17, .mov (.tmp 0), none⟩,
              ⟨some 18, .callm 16 [.tmp 17, .const (.int .i64 1000000000)], none⟩,
              ⟨some 0, .mov (.tmp 18), none⟩] [16, 17, 18])
          (.seq
            (.region false [
                ⟨some 19, .mov (.tmp 1), none⟩,
                ⟨some 20, .callm 16 [.tmp 19, .const (.int .i64 1000000000)], none⟩,
                ⟨some 1, .mov (.tmp 20), none⟩] [19, 20])
            (.seq
              (.region false [
                  ⟨some 22, .mov (.tmp 0), none⟩,
                  ⟨some 23, .callm 25 [.tmp 22], none⟩,
                  ⟨some 24, .mov (.tmp 1), none⟩,
                  ⟨some 25, .callm 27 [.tmp 23, .tmp 24], none⟩,
                  ⟨some 21, .mov (.tmp 25), none⟩,
                  ⟨some 26, .ext (.tmp 21) 0, none⟩,
                  ⟨some 27, .ext (.tmp 21) 1, none⟩,
                  ⟨some 6, .mov (.tmp 26), none⟩,
                  ⟨some 7, .mov (.tmp 27), none⟩] [21, 22, 23, 24, 25, 26, 27])
              (.seq
                (.region false [
                    ⟨some 29, .mov (.tmp 0), none⟩,
                    ⟨some 30, .callm 25 [.tmp 29], none⟩,
                    ⟨some 31, .bin .add 9 (.const (.string ⟨#[48]⟩)) (.tmp 30), none⟩,
                    ⟨some 32, .callm 27 [.tmp 31, .const (.int .i64 999999999)], none⟩,
                    ⟨some 28, .mov (.tmp 32), none⟩,
                    ⟨some 33, .ext (.tmp 28) 0, none⟩,
                    ⟨some 34, .ext (.tmp 28) 1, none⟩,
                    ⟨some 8, .mov (.tmp 33), none⟩,
                    ⟨some 9, .mov (.tmp 34), none⟩] [8, 28, 29, 30, 31, 32, 33, 34])
                (.seq
                  (.region false [
                      ⟨some 36, .mov (.tmp 0), none⟩,
                      ⟨some 37, .callm 25 [.tmp 36], none⟩,
                      ⟨some 38, .bin .add 9 (.const (.string ⟨#[45]⟩)) (.tmp 37), none⟩,
                      ⟨some 39, .callm 27 [.tmp 38, .const (.int .i64 999999999)], none⟩,
                      ⟨some 35, .mov (.tmp 39), none⟩,
                      ⟨some 40, .ext (.tmp 35) 0, none⟩,
                      ⟨some 41, .ext (.tmp 35) 1, none⟩,
                      ⟨some 10, .mov (.tmp 40), none⟩,
                      ⟨some 11, .mov (.tmp 41), none⟩] [10, 35, 36, 37, 38, 39, 40, 41])
                  (.seq
                    (.region false [
                        ⟨some 43, .callm 25 [.const (.int .i64 1000000000)], none⟩,
                        ⟨some 44, .bin .add 9 (.const (.string ⟨#[49]⟩)) (.tmp 43), none⟩,
                        ⟨some 45, .callm 27 [.tmp 44, .const (.int .i64 999999999)], none⟩,
                        ⟨some 42, .mov (.tmp 45), none⟩,
                        ⟨some 46, .ext (.tmp 42) 0, none⟩,
                        ⟨some 47, .ext (.tmp 42) 1, none⟩,
                        ⟨some 12, .mov (.tmp 46), none⟩,
                        ⟨some 13, .mov (.tmp 47), none⟩] [12, 42, 43, 44, 45, 46, 47])
                    (.seq
                      (.seq
                        (.region false [
                            ⟨some 48, .mov (.tmp 0), none⟩,
                            ⟨some 49, .mov (.tmp 1), none⟩,
                            ⟨some 50, .bin .gtr 3 (.tmp 48) (.tmp 49), none⟩] [1, 48, 49])
                        (.cond (.tmp 50)
                          (.seq
                            (.region false [
                                ⟨some 51, .mov (.tmp 6), none⟩,
                                ⟨some 52, .bin .eql 3 (.tmp 51) (.const (.int .i64 0)), none⟩,
                                ⟨some 53, .mov (.tmp 52), none⟩,
                                ⟨some 54, .mov (.tmp 7), (some (53, true))⟩,
                                ⟨some 55, .callm 23 [.tmp 54, .const (.int .i64 103)], (some (53, true))⟩,
                                ⟨some 56, .pick (.tmp 53) (.tmp 55) (.const (.bool false)), none⟩,
                                ⟨some 57, .mov (.tmp 56), none⟩,
                                ⟨some 58, .mov (.tmp 9), (some (57, true))⟩,
                                ⟨some 59, .callm 23 [.tmp 58, .const (.int .i64 107)], (some (57, true))⟩,
                                ⟨some 60, .pick (.tmp 57) (.tmp 59) (.const (.bool false)), none⟩,
                                ⟨some 61, .mov (.tmp 60), none⟩,
                                ⟨some 62, .mov (.tmp 11), (some (61, true))⟩,
                                ⟨some 63, .callm 23 [.tmp 62, .const (.int .i64 107)], (some (61, true))⟩,
                                ⟨some 64, .pick (.tmp 61) (.tmp 63) (.const (.bool false)), none⟩,
                                ⟨some 4, .mov (.tmp 64), none⟩] [0, 6, 7, 9, 11, 13, 50, 51, 52, 53, 54, 55, 56, 57, 58, 59, 60, 61, 62, 63, 64])
                            .ret)
                          .skip))
                      (.seq
                        (.region false [
                            ⟨some 65, .mov (.tmp 7), none⟩,
                            ⟨some 66, .eqn false (.tmp 65), none⟩,
                            ⟨some 67, .mov (.tmp 66), none⟩,
                            ⟨some 68, .mov (.tmp 6), (some (67, true))⟩,
                            ⟨some 69, .mov (.tmp 0), (some (67, true))⟩,
                            ⟨some 70, .bin .eql 3 (.tmp 68) (.tmp 69), (some (67, true))⟩,
                            ⟨some 71, .pick (.tmp 67) (.tmp 70) (.const (.bool false)), none⟩,
                            ⟨some 72, .mov (.tmp 71), none⟩,
                            ⟨some 73, .mov (.tmp 9), (some (72, true))⟩,
                            ⟨some 74, .callm 23 [.tmp 73, .const (.int .i64 107)], (some (72, true))⟩,
                            ⟨some 75, .pick (.tmp 72) (.tmp 74) (.const (.bool false)), none⟩,
                            ⟨some 76, .mov (.tmp 75), none⟩,
                            ⟨some 77, .mov (.tmp 11), (some (76, true))⟩,
                            ⟨some 78, .callm 23 [.tmp 77, .const (.int .i64 107)], (some (76, true))⟩,
                            ⟨some 79, .pick (.tmp 76) (.tmp 78) (.const (.bool false)), none⟩,
                            ⟨some 80, .mov (.tmp 79), none⟩,
                            ⟨some 81, .mov (.tmp 13), (some (80, true))⟩,
                            ⟨some 82, .callm 23 [.tmp 81, .const (.int .i64 107)], (some (80, true))⟩,
                            ⟨some 83, .pick (.tmp 80) (.tmp 82) (.const (.bool false)), none⟩,
                            ⟨some 4, .mov (.tmp 83), none⟩] [0, 6, 7, 9, 11, 13, 50, 65, 66, 67, 68, 69, 70, 71, 72, 73, 74, 75, 76, 77, 78, 79, 80, 81, 82, 83])
                        .ret)))))))))))
abbrev v_rivuletlaw5_LexNumbers : List RV := [.tmp 4]
abbrev f_rivuletlaw5_LexNumbers : FuncId := 8
theorem k_rivuletlaw5_LexNumbers : closedOf Tryd.prog Tryd.f8 = (false, some true, some v_rivuletlaw5_LexNumbers, some c_rivuletlaw5_LexNumbers.plain, 84) := by kernel_rfl
theorem ac_rivuletlaw5_LexNumbers {args : List AV} {r : AV} (h : aw Tryd.prog c_rivuletlaw5_LexNumbers (env0 args) (endQ v_rivuletlaw5_LexNumbers r)) (hargs : args.length ≤ 84 := by decide) (hok : resOK r = true := by rfl) : AC Tryd.prog f_rivuletlaw5_LexNumbers args r :=
  AC_mk (by kernel_rfl) Tryd.func8 k_rivuletlaw5_LexNumbers hargs hok (by decide) h

/-- rivulet/rivuletlaw5.LexSays (function 9) -/
def c_rivuletlaw5_LexSays : ACode :=
  (.seq
    (.region false [
        ⟨some 6, .mov (.const (.bool false)), none⟩] [6])
    (.seq
      (.region false [
          ⟨some 17, .callm 21 [], none⟩,
          ⟨some 7, .mov (.tmp 17), none⟩] [17])
      (.seq
        (.seq
          (.region false [
              ⟨some 18, .mov (.tmp 7), none⟩,
              ⟨some 19, .un .not (.tmp 18), none⟩] [7, 18])
          (.cond (.tmp 19)
            (.seq
              (.region false [
                  ⟨some 6, .mov (.const (.bool false)), none⟩] [0, 1, 2, 19])
              .ret)
            .skip))
        (.seq
          (.seq
            (.region false [
                ⟨some 20, .mov (.tmp 0), none⟩,
                ⟨some 21, .lens (.tmp 20), none⟩,
                ⟨some 22, .bin .gtr 3 (.tmp 21) (.const (.int .i64 500)), none⟩,
                ⟨some 23, .mov (.tmp 22), none⟩,
                ⟨some 24, .mov (.tmp 1), (some (23, false))⟩,
                ⟨some 25, .lens (.tmp 24), (some (23, false))⟩,
                ⟨some 26, .bin .gtr 3 (.tmp 25) (.const (.int .i64 40)), (some (23, false))⟩,
                ⟨some 27, .pick (.tmp 23) (.const (.bool true)) (.tmp 26), none⟩] [19, 20, 21, 22, 23, 24, 25, 26])
            (.cond (.tmp 27)
              (.seq
                (.region false [
                    ⟨some 6, .mov (.const (.bool true)), none⟩] [0, 1, 2, 27])
                .ret)
              .skip))
          (.seq
            (.region false [
                ⟨some 29, .mov (.tmp 0), none⟩,
                ⟨some 30, .callm 22 [.tmp 29], none⟩,
                ⟨some 28, .mov (.tmp 30), none⟩,
                ⟨some 31, .ext (.tmp 28) 0, none⟩,
                ⟨some 32, .ext (.tmp 28) 1, none⟩,
                ⟨some 8, .mov (.tmp 31), none⟩,
                ⟨some 9, .mov (.tmp 32), none⟩] [27, 28, 29, 30, 31, 32])
            (.seq
              (.region false [
                  ⟨some 34, .mov (.tmp 0), none⟩,
                  ⟨some 35, .callm 28 [.tmp 34], none⟩,
                  ⟨some 33, .mov (.tmp 35), none⟩,
                  ⟨some 36, .ext (.tmp 33) 0, none⟩,
                  ⟨some 37, .ext (.tmp 33) 1, none⟩,
                  ⟨some 10, .mov (.tmp 36), none⟩,
                  ⟨some 11, .mov (.tmp 37), none⟩] [0, 33, 34, 35, 36, 37])
              (.seq
                (.seq
                  (.region false [
                      ⟨some 38, .mov (.tmp 9), none⟩,
                      ⟨some 39, .mov (.tmp 11), none⟩,
                      ⟨some 40, .callm 23 [.tmp 38, .tmp 39], none⟩,
                      ⟨some 41, .un .not (.tmp 40), none⟩,
                      ⟨some 42, .mov (.tmp 41), none⟩,
                      ⟨some 43, .mov (.tmp 8), (some (42, false))⟩,
                      ⟨some 44, .lenl (.tmp 43), (some (42, false))⟩,
                      ⟨some 45, .mov (.tmp 10), (some (42, false))⟩,
                      ⟨some 46, .lenl (.tmp 45), (some (42, false))⟩,
                      ⟨some 47, .bin .neq 3 (.tmp 44) (.tmp 46), (some (42, false))⟩,
                      ⟨some 48, .pick (.tmp 42) (.const (.bool true)) (.tmp 47), none⟩] [9, 11, 38, 39, 40, 41, 42, 43, 44, 45, 46, 47])
                  (.cond (.tmp 48)
                    (.seq
                      (.region false [
                          ⟨some 6, .mov (.const (.bool false)), none⟩] [1, 2, 8, 10, 48])
                      .ret)
                    .skip))
                (.seq
                  (.seq
                    (.region false [
                        ⟨some 12, .mov (.const (.int .i64 0)), none⟩] [48])
                    (.block 0
                      (.loop
                        (.seq
                          (.seq
                            (.region false [
                                ⟨some 49, .mov (.tmp 12), none⟩,
                                ⟨some 50, .mov (.tmp 8), none⟩,
                                ⟨some 51, .lenl (.tmp 50), none⟩,
                                ⟨some 52, .bin .lss 3 (.tmp 49) (.tmp 51), none⟩] [49, 50, 51])
                            (.cond (.tmp 52)
                              .skip
                              (.exit 0)))
                          (.seq
                            (.block 1
                              (.seq
                                (.region true [
                                    ⟨some 55, .mov (.tmp 8), none⟩,
                                    ⟨some 56, .mov (.tmp 12), none⟩,
                                    ⟨some 57, .iaddr 2 (.tmp 55) (.tmp 56), none⟩,
                                    ⟨some 58, .faddr 0 1 (.tmp 57), none⟩,
                                    ⟨some 59, .load false 1 (.tmp 58), none⟩,
                                    ⟨some 60, .mov (.tmp 10), none⟩,
                                    ⟨some 61, .mov (.tmp 12), none⟩,
                                    ⟨some 62, .iaddr 2 (.tmp 60) (.tmp 61), none⟩,
                                    ⟨some 63, .faddr 0 1 (.tmp 62), none⟩,
                                    ⟨some 64, .load false 1 (.tmp 63), none⟩,
                                    ⟨some 65, .bin .neq 3 (.tmp 59) (.tmp 64), none⟩,
                                    ⟨some 66, .mov (.tmp 65), none⟩,
                                    ⟨some 67, .mov (.tmp 8), (some (66, false))⟩,
                                    ⟨some 68, .mov (.tmp 12), (some (66, false))⟩,
                                    ⟨some 69, .iaddr 2 (.tmp 67) (.tmp 68), (some (66, false))⟩,
                                    ⟨some 70, .faddr 1 1 (.tmp 69), (some (66, false))⟩,
                                    ⟨some 71, .load false 1 (.tmp 70), (some (66, false))⟩,
                                    ⟨some 72, .mov (.tmp 10), (some (66, false))⟩,
                                    ⟨some 73, .mov (.tmp 12), (some (66, false))⟩,
                                    ⟨some 74, .iaddr 2 (.tmp 72) (.tmp 73), (some (66, false))⟩,
                                    ⟨some 75, .faddr 1 1 (.tmp 74), (some (66, false))⟩,
                                    ⟨some 76, .load false 1 (.tmp 75), (some (66, false))⟩,
                                    ⟨some 77, .call 26 [.tmp 71, .tmp 76], (some (66, false))⟩,
                                    ⟨some 78, .un .not (.tmp 77), (some (66, false))⟩,
                                    ⟨some 79, .pick (.tmp 66) (.const (.bool true)) (.tmp 78), none⟩] [52, 55, 56, 57, 58, 59, 60, 61, 62, 63, 64, 65, 66, 67, 68, 69, 70, 71, 72, 73, 74, 75, 76, 77, 78])
                                (.cond (.tmp 79)
                                  (.seq
                                    (.region false [
                                        ⟨some 6, .mov (.const (.bool false)), none⟩] [1, 2, 8, 10, 12, 79])
                                    .ret)
                                  .skip)) [79])
                            (.region false [
                                ⟨some 53, .mov (.tmp 12), none⟩,
                                ⟨some 54, .bin .add 3 (.tmp 53) (.const (.int .i64 1)), none⟩,
                                ⟨some 12, .mov (.tmp 54), none⟩] [53, 54]))) [] []) [8, 10, 12, 52]))
                  (.seq
                    (.region false [
                        ⟨some 81, .mov (.tmp 1), none⟩,
                        ⟨some 82, .mov (.tmp 2), none⟩,
                        ⟨some 83, .callm 27 [.tmp 81, .tmp 82], none⟩,
                        ⟨some 80, .mov (.tmp 83), none⟩,
                        ⟨some 84, .ext (.tmp 80) 0, none⟩,
                        ⟨some 85, .ext (.tmp 80) 1, none⟩,
                        ⟨some 13, .mov (.tmp 84), none⟩,
                        ⟨some 14, .mov (.tmp 85), none⟩] [80, 81, 82, 83, 84, 85])
                    (.seq
                      (.region false [
                          ⟨some 87, .mov (.tmp 1), none⟩,
                          ⟨some 88, .mov (.tmp 2), none⟩,
                          ⟨some 89, .callm 29 [.tmp 87, .tmp 88], none⟩,
                          ⟨some 86, .mov (.tmp 89), none⟩,
                          ⟨some 90, .ext (.tmp 86) 0, none⟩,
                          ⟨some 91, .ext (.tmp 86) 1, none⟩,
                          ⟨some 15, .mov (.tmp 90), none⟩,
                          ⟨some 16, .mov (.tmp 91), none⟩] [2, 86, 87, 88, 89, 90, 91])
                      (.seq
                        (.region false [
                            ⟨some 92, .mov (.tmp 13), none⟩,
                            ⟨some 93, .mov (.tmp 15), none⟩,
                            ⟨some 94, .bin .eql 3 (.tmp 92) (.tmp 93), none⟩,
                            ⟨some 95, .mov (.tmp 94), none⟩,
                            ⟨some 96, .mov (.tmp 14), (some (95, true))⟩,
                            ⟨some 97, .mov (.tmp 16), (some (95, true))⟩,
                            ⟨some 98, .callm 23 [.tmp 96, .tmp 97], (some (95, true))⟩,
                            ⟨some 99, .pick (.tmp 95) (.tmp 98) (.const (.bool false)), none⟩,
                            ⟨some 100, .mov (.tmp 99), none⟩,
                            ⟨some 101, .mov (.tmp 1), (some (100, true))⟩,
                            ⟨some 102, .callm 24 [.tmp 101], (some (100, true))⟩,
                            ⟨some 103, .mov (.tmp 1), (some (100, true))⟩,
                            ⟨some 104, .callm 30 [.tmp 103], (some (100, true))⟩,
                            ⟨some 105, .callm 23 [.tmp 102, .tmp 104], (some (100, true))⟩,
                            ⟨some 106, .pick (.tmp 100) (.tmp 105) (.const (.bool false)), none⟩,
                            ⟨some 6, .mov (.tmp 106), none⟩] [1, 13, 14, 15, 16, 92, 93, 94, 95, 96, 97, 98, 99, 100, 101, 102, 103, 104, 105, 106])
                        .ret)))))))))))
abbrev v_rivuletlaw5_LexSays : List RV := [.tmp 6]
abbrev f_rivuletlaw5_LexSays : FuncId := 9
theorem k_rivuletlaw5_LexSays : closedOf Tryd.prog Tryd.f9 = (false, some true, some v_rivuletlaw5_LexSays, some c_rivuletlaw5_LexSays.plain, 107) := by kernel_rfl
theorem ac_rivuletlaw5_LexSays {args : List AV} {r : AV} (h : aw Tryd.prog c_rivuletlaw5_LexSays (env0 args) (endQ v_rivuletlaw5_LexSays r)) (hargs : args.length ≤ 107 := by decide) (hok : resOK r = true := by rfl) : AC Tryd.prog f_rivuletlaw5_LexSays args r :=
  AC_mk (by kernel_rfl) Tryd.func9 k_rivuletlaw5_LexSays hargs hok (by decide) h

/-- rivulet/rivuletlaw1.AddrPrefixes (function 10) -/
def c_rivuletlaw1_AddrPrefixes : ACode :=
  (.seq
    (.region false [
        ⟨some 6, .mov (.const (.bool false)), none⟩] [6])
    (.seq
      (.region false [
          ⟨some 14, .callm 14 [], none⟩,
          ⟨some 7, .mov (.tmp 14), none⟩] [14])
      (.seq
        (.seq
          (.region false [
              ⟨some 15, .mov (.tmp 7), none⟩,
              ⟨some 16, .un .not (.tmp 15), none⟩] [15])
          (.cond (.tmp 16)
            (.seq
              (.region false [
                  ⟨some 6, .mov (.const (.bool false)), none⟩] [0, 1, 2, 7, 16])
              .ret)
            .skip))
        (.seq
          (.region false [
              ⟨some 17, .mov (.tmp 1), none⟩,
              ⟨some 18, .callm 16 [.tmp 17, .const (.int .i64 32)], none⟩,
              ⟨some 1, .mov (.tmp 18), none⟩] [16, 17, 18])
          (.seq
            (.region false [
                ⟨some 19, .mov (.tmp 0), none⟩,
                ⟨some 20, .mov (.tmp 1), none⟩,
                ⟨some 21, .callm 18 [.tmp 20], none⟩,
                ⟨some 22, .bin .and 23 (.tmp 19) (.tmp 21), none⟩,
                ⟨some 23, .mov (.tmp 1), none⟩,
                ⟨some 24, .build [.lit (.int .u32 0), .lit (.int .i64 0)] [(0, 1, .tmp 22), (1, 1, .tmp 23)], none⟩,
                ⟨some 8, .alloc [.lit (.int .u32 0), .lit (.int .i64 0)], none⟩,
                ⟨none, .store 2 (.tmp 8) (.tmp 24), none⟩] [0, 19, 20, 21, 22, 23, 24])
            (.seq
              (.region false [
                  ⟨some 25, .mov (.tmp 1), none⟩,
                  ⟨some 26, .mov (.tmp 2), none⟩,
                  ⟨some 27, .mov (.tmp 1), none⟩,
                  ⟨some 28, .bin .sub 3 (.const (.int .i64 32)) (.tmp 27), none⟩,
                  ⟨some 29, .callm 16 [.tmp 26, .tmp 28], none⟩,
                  ⟨some 30, .bin .add 3 (.tmp 25) (.tmp 29), none⟩,
                  ⟨some 2, .mov (.tmp 30), none⟩] [25, 26, 27, 28, 29, 30])
              (.seq
                (.region false [
                    ⟨some 31, .faddr 0 1 (.tmp 8), none⟩,
                    ⟨some 32, .load false 1 (.tmp 31), none⟩,
                    ⟨some 33, .mov (.tmp 2), none⟩,
                    ⟨some 34, .bin .sub 3 (.const (.int .i64 31)) (.tmp 33), none⟩,
                    ⟨some 35, .cint .u64 (.tmp 34), none⟩,
                    ⟨some 36, .bin .shl 23 (.const (.int .u32 1)) (.tmp 35), none⟩,
                    ⟨some 37, .bin .or 23 (.tmp 32) (.tmp 36), none⟩,
                    ⟨some 38, .mov (.tmp 1), none⟩,
                    ⟨some 39, .build [.lit (.int .u32 0), .lit (.int .i64 0)] [(0, 1, .tmp 37), (1, 1, .tmp 38)], none⟩,
                    ⟨some 9, .alloc [.lit (.int .u32 0), .lit (.int .i64 0)], none⟩,
                    ⟨none, .store 2 (.tmp 9) (.tmp 39), none⟩] [2, 31, 32, 33, 34, 35, 36, 37, 38, 39])
                (.seq
                  (.region false [
                      ⟨some 41, .faddr 0 1 (.tmp 9), none⟩,
                      ⟨some 42, .load false 1 (.tmp 41), none⟩,
                      ⟨some 43, .callm 32 [.tmp 42], none⟩,
                      ⟨some 44, .bin .add 9 (.tmp 43) (.const (.string ⟨#[47]⟩)), none⟩,
                      ⟨some 45, .mov (.tmp 1), none⟩,
                      ⟨some 46, .callm 25 [.tmp 45], none⟩,
                      ⟨some 47, .bin .add 9 (.tmp 44) (.tmp 46), none⟩,
                      ⟨some 48, .callm 31 [.tmp 47], none⟩,
                      ⟨some 40, .mov (.tmp 48), none⟩,
                      ⟨some 49, .ext (.tmp 40) 0, none⟩,
                      ⟨some 50, .ext (.tmp 40) 1, none⟩,
                      ⟨some 10, .alloc [.lit (.int .u32 0), .lit (.int .i64 0)], none⟩,
                      ⟨none, .store 2 (.tmp 10) (.tmp 49), none⟩,
                      ⟨some 11, .mov (.tmp 50), none⟩] [1, 10, 40, 41, 42, 43, 44, 45, 46, 47, 48, 49, 50])
                  (.seq
                    (.region false [
                        ⟨some 52, .faddr 0 1 (.tmp 8), none⟩,
                        ⟨some 53, .load false 1 (.tmp 52), none⟩,
                        ⟨some 54, .callm 32 [.tmp 53], none⟩,
                        ⟨some 55, .callm 31 [.tmp 54], none⟩,
                        ⟨some 51, .mov (.tmp 55), none⟩,
                        ⟨some 56, .ext (.tmp 51) 0, none⟩,
                        ⟨some 57, .ext (.tmp 51) 1, none⟩,
                        ⟨some 12, .alloc [.lit (.int .u32 0), .lit (.int .i64 0)], none⟩,
                        ⟨none, .store 2 (.tmp 12) (.tmp 56), none⟩,
                        ⟨some 13, .mov (.tmp 57), none⟩] [12, 51, 52, 53, 54, 55, 56, 57])
                    (.seq
                      (.region false [
                          ⟨some 58, .mov (.tmp 7), none⟩,
                          ⟨some 59, .mov (.tmp 58), none⟩,
                          ⟨some 60, .load true 2 (.tmp 8), (some (59, true))⟩,
                          ⟨some 61, .callm 33 [.tmp 60], (some (59, true))⟩,
                          ⟨some 62, .pick (.tmp 59) (.tmp 61) (.const (.bool false)), none⟩,
                          ⟨some 63, .mov (.tmp 62), none⟩,
                          ⟨some 64, .load true 2 (.tmp 9), (some (63, true))⟩,
                          ⟨some 65, .callm 33 [.tmp 64], (some (63, true))⟩,
                          ⟨some 66, .un .not (.tmp 65), (some (63, true))⟩,
                          ⟨some 67, .pick (.tmp 63) (.tmp 66) (.const (.bool false)), none⟩,
                          ⟨some 68, .mov (.tmp 67), none⟩,
                          ⟨some 69, .load true 2 (.tmp 9), (some (68, true))⟩,
                          ⟨some 70, .faddr 0 1 (.tmp 9), (some (68, true))⟩,
                          ⟨some 71, .load false 1 (.tmp 70), (some (68, true))⟩,
                          ⟨some 72, .callm 20 [.tmp 69, .tmp 71], (some (68, true))⟩,
                          ⟨some 73, .un .not (.tmp 72), (some (68, true))⟩,
                          ⟨some 74, .pick (.tmp 68) (.tmp 73) (.const (.bool false)), none⟩,
                          ⟨some 75, .mov (.tmp 74), none⟩,
                          ⟨some 76, .load true 2 (.tmp 8), (some (75, true))⟩,
                          ⟨some 77, .faddr 0 1 (.tmp 9), (some (75, true))⟩,
                          ⟨some 78, .load false 1 (.tmp 77), (some (75, true))⟩,
                          ⟨some 79, .callm 20 [.tmp 76, .tmp 78], (some (75, true))⟩,
                          ⟨some 80, .pick (.tmp 75) (.tmp 79) (.const (.bool false)), none⟩,
                          ⟨some 81, .mov (.tmp 80), none⟩,
                          ⟨some 82, .mov (.tmp 11), (some (81, true))⟩,
                          ⟨some 83, .callm 23 [.tmp 82, .const (.int .i64 108)], (some (81, true))⟩,
                          ⟨some 84, .pick (.tmp 81) (.tmp 83) (.const (.bool false)), none⟩,
                          ⟨some 85, .mov (.tmp 84), none⟩,
                          ⟨some 86, .mov (.tmp 13), (some (85, true))⟩,
                          ⟨some 87, .callm 23 [.tmp 86, .const (.int .i64 108)], (some (85, true))⟩,
                          ⟨some 88, .pick (.tmp 85) (.tmp 87) (.const (.bool false)), none⟩,
                          ⟨some 6, .mov (.tmp 88), none⟩] [7, 8, 9, 11, 13, 58, 59, 60, 61, 62, 63, 64, 65, 66, 67, 68, 69, 70, 71, 72, 73, 74, 75, 76, 77, 78, 79, 80, 81, 82, 83, 84, 85, 86, 87, 88])
                      .ret))))))))))
abbrev v_rivuletlaw1_AddrPrefixes : List RV := [.tmp 6]
abbrev f_rivuletlaw1_AddrPrefixes : FuncId := 10
theorem k_rivuletlaw1_AddrPrefixes : closedOf Tryd.prog Tryd.f10 = (false, some true, some v_rivuletlaw1_AddrPrefixes, some c_rivuletlaw1_AddrPrefixes.plain, 89) := by kernel_rfl
theorem ac_rivuletlaw1_AddrPrefixes {args : List AV} {r : AV} (h : aw Tryd.prog c_rivuletlaw1_AddrPrefixes (env0 args) (endQ v_rivuletlaw1_AddrPrefixes r)) (hargs : args.length ≤ 89 := by decide) (hok : resOK r = true := by rfl) : AC Tryd.prog f_rivuletlaw1_AddrPrefixes args r :=
  AC_mk (by kernel_rfl) Tryd.func10 k_rivuletlaw1_AddrPrefixes hargs hok (by decide) h

/-- rivulet/rivuletlaw1.AddrGroups (function 11) -/
def c_rivuletlaw1_AddrGroups : ACode :=
  (.seq
    (.region false [
        ⟨some 2, .mov (.const (.bool false)), none⟩] [2])
    (.seq
      (.region false [
          ⟨some 6, .callm 14 [], none⟩,
          ⟨some 3, .mov (.tmp 6), none⟩] [6])
      (.seq
        (.seq
          (.region false [
              ⟨some 7, .mov (.tmp 3), none⟩,
              ⟨some 8, .un .not (.tmp 7), none⟩] [7])
          (.cond (.tmp 8)
            (.seq
              (.region false [
                  ⟨some 2, .mov (.const (.bool false)), none⟩] [0, 3, 8])
              .ret)
            .skip))
        (.seq
          (.region false [
              ⟨some 10, .callm 31 [.const (.string ⟨#[50, 50, 52, 46, 48, 46, 48, 46, 48, 47, 52]⟩)], none⟩,
              ⟨some 9, .mov (.tmp 10), none⟩,
              ⟨some 11, .ext (.tmp 9) 0, none⟩,
              ⟨some 12, .ext (.tmp 9) 1, none⟩,
              ⟨some 4, .alloc [.lit (.int .u32 0), .lit (.int .i64 0)], none⟩,
              ⟨none, .store 2 (.tmp 4) (.tmp 11), none⟩,
              ⟨some 5, .mov (.tmp 12), none⟩] [8, 9, 10, 11, 12])
          (.seq
            (.region true [
                ⟨some 13, .mov (.tmp 3), none⟩,
                ⟨some 14, .mov (.tmp 13), none⟩,
                ⟨some 15, .mov (.tmp 5), (some (14, true))⟩,
                ⟨some 16, .eqn false (.tmp 15), (some (14, true))⟩,
                ⟨some 17, .pick (.tmp 14) (.tmp 16) (.const (.bool false)), none⟩,
                ⟨some 18, .mov (.tmp 17), none⟩,
                ⟨some 19, .mov (.tmp 0), (some (18, true))⟩,
                ⟨some 20, .call 34 [.tmp 19], (some (18, true))⟩,
                ⟨some 21, .load true 2 (.tmp 4), (some (18, true))⟩,
                ⟨some 22, .mov (.tmp 0), (some (18, true))⟩,
                ⟨some 23, .call 20 [.tmp 21, .tmp 22], (some (18, true))⟩,
                ⟨some 24, .eqb false 4 (.tmp 20) (.tmp 23), (some (18, true))⟩,
                ⟨some 25, .pick (.tmp 18) (.tmp 24) (.const (.bool false)), none⟩,
                ⟨some 26, .mov (.tmp 25), none⟩,
                ⟨some 27, .mov (.tmp 0), (some (26, true))⟩,
                ⟨some 28, .call 34 [.tmp 27], (some (26, true))⟩,
                ⟨some 29, .mov (.tmp 0), (some (26, true))⟩,
                ⟨some 30, .bin .geq 23 (.tmp 29) (.const (.int .u32 3758096384)), (some (26, true))⟩,
                ⟨some 31, .mov (.tmp 30), (some (26, true))⟩,
                ⟨some 32, .mov (.tmp 0), (some (31, true))⟩,
                ⟨some 33, .bin .lss 23 (.tmp 32) (.const (.int .u32 4026531840)), (some (31, true))⟩,
                ⟨some 34, .pick (.tmp 31) (.tmp 33) (.const (.bool false)), (some (26, true))⟩,
                ⟨some 35, .eqb false 4 (.tmp 28) (.tmp 34), (some (26, true))⟩,
                ⟨some 36, .pick (.tmp 26) (.tmp 35) (.const (.bool false)), none⟩,
                ⟨some 37, .mov (.tmp 36), none⟩,
                ⟨some 38, .load true 2 (.tmp 4), (some (37, true))⟩,
                ⟨some 39, .call 35 [.tmp 38], (some (37, true))⟩,
                ⟨some 40, .pick (.tmp 37) (.tmp 39) (.const (.bool false)), none⟩,
                ⟨some 2, .mov (.tmp 40), none⟩] [0, 3, 4, 5, 13, 14, 15, 16, 17, 18, 19, 20, 21, 22, 23, 24, 25, 26, 27, 28, 29, 30, 31, 32, 33, 34, 35, 36, 37, 38, 39, 40])
            .ret)))))
abbrev v_rivuletlaw1_AddrGroups : List RV := [.tmp 2]
abbrev f_rivuletlaw1_AddrGroups : FuncId := 11
theorem k_rivuletlaw1_AddrGroups : closedOf Tryd.prog Tryd.f11 = (false, some true, some v_rivuletlaw1_AddrGroups, some c_rivuletlaw1_AddrGroups.plain, 41) := by kernel_rfl
theorem ac_rivuletlaw1_AddrGroups {args : List AV} {r : AV} (h : aw Tryd.prog c_rivuletlaw1_AddrGroups (env0 args) (endQ v_rivuletlaw1_AddrGroups r)) (hargs : args.length ≤ 41 := by decide) (hok : resOK r = true := by rfl) : AC Tryd.prog f_rivuletlaw1_AddrGroups args r :=
  AC_mk (by kernel_rfl) Tryd.func11 k_rivuletlaw1_AddrGroups hargs hok (by decide) h

/-- rivulet/rivuletlaw1.AddrBack (function 12) -/
def c_rivuletlaw1_AddrBack : ACode :=
  (.seq
    (.region false [
        ⟨some 6, .mov (.const (.bool false)), none⟩] [6])
    (.seq
      (.region false [
          ⟨some 13, .callm 14 [], none⟩,
          ⟨some 7, .mov (.tmp 13), none⟩] [13])
      (.seq
        (.seq
          (.region false [
              ⟨some 14, .mov (.tmp 7), none⟩,
              ⟨some 15, .un .not (.tmp 14), none⟩] [7, 14])
          (.cond (.tmp 15)
            (.seq
              (.region false [
                  ⟨some 6, .mov (.const (.bool false)), none⟩] [0, 1, 2, 15])
              .ret)
            .skip))
        (.seq
          (.region false [
              ⟨some 16, .mov (.tmp 2), none⟩,
              ⟨some 17, .callm 16 [.tmp 16, .const (.int .i64 33)], none⟩,
              ⟨some 2, .mov (.tmp 17), none⟩] [15, 16, 17])
          (.seq
            (.region false [
                ⟨some 18, .mov (.tmp 0), none⟩,
                ⟨some 19, .mov (.tmp 2), none⟩,
                ⟨some 20, .callm 18 [.tmp 19], none⟩,
                ⟨some 21, .bin .and 23 (.tmp 18) (.tmp 20), none⟩,
                ⟨some 22, .mov (.tmp 2), none⟩,
                ⟨some 23, .build [.lit (.int .u32 0), .lit (.int .i64 0)] [(0, 1, .tmp 21), (1, 1, .tmp 22)], none⟩,
                ⟨some 8, .alloc [.lit (.int .u32 0), .lit (.int .i64 0)], none⟩,
                ⟨none, .store 2 (.tmp 8) (.tmp 23), none⟩] [2, 18, 19, 20, 21, 22, 23])
            (.seq
              (.region false [
                  ⟨some 25, .mov (.tmp 0), none⟩,
                  ⟨some 26, .callm 32 [.tmp 25], none⟩,
                  ⟨some 27, .callm 36 [.tmp 26], none⟩,
                  ⟨some 24, .mov (.tmp 27), none⟩,
                  ⟨some 28, .ext (.tmp 24) 0, none⟩,
                  ⟨some 29, .ext (.tmp 24) 1, none⟩,
                  ⟨some 9, .mov (.tmp 28), none⟩,
                  ⟨some 10, .mov (.tmp 29), none⟩] [24, 25, 26, 27, 28, 29])
              (.seq
                (.region false [
                    ⟨some 31, .load true 2 (.tmp 8), none⟩,
                    ⟨some 32, .callm 37 [.tmp 31], none⟩,
                    ⟨some 33, .callm 31 [.tmp 32], none⟩,
                    ⟨some 30, .mov (.tmp 33), none⟩,
                    ⟨some 34, .ext (.tmp 30) 0, none⟩,
                    ⟨some 35, .ext (.tmp 30) 1, none⟩,
                    ⟨some 11, .alloc [.lit (.int .u32 0), .lit (.int .i64 0)], none⟩,
                    ⟨none, .store 2 (.tmp 11) (.tmp 34), none⟩,
                    ⟨some 12, .mov (.tmp 35), none⟩] [30, 31, 32, 33, 34, 35])
                (.seq
                  (.region false [
                      ⟨some 36, .mov (.tmp 10), none⟩,
                      ⟨some 37, .eqn false (.tmp 36), none⟩,
                      ⟨some 38, .mov (.tmp 37), none⟩,
                      ⟨some 39, .mov (.tmp 9), (some (38, true))⟩,
                      ⟨some 40, .mov (.tmp 0), (some (38, true))⟩,
                      ⟨some 41, .bin .eql 23 (.tmp 39) (.tmp 40), (some (38, true))⟩,
                      ⟨some 42, .pick (.tmp 38) (.tmp 41) (.const (.bool false)), none⟩,
                      ⟨some 43, .mov (.tmp 42), none⟩,
                      ⟨some 44, .mov (.tmp 12), (some (43, true))⟩,
                      ⟨some 45, .eqn false (.tmp 44), (some (43, true))⟩,
                      ⟨some 46, .pick (.tmp 43) (.tmp 45) (.const (.bool false)), none⟩,
                      ⟨some 47, .mov (.tmp 46), none⟩,
                      ⟨some 48, .load true 2 (.tmp 8), (some (47, true))⟩,
                      ⟨some 49, .load true 2 (.tmp 11), (some (47, true))⟩,
                      ⟨some 50, .callm 38 [.tmp 48, .tmp 49], (some (47, true))⟩,
                      ⟨some 51, .pick (.tmp 47) (.tmp 50) (.const (.bool false)), none⟩,
                      ⟨some 52, .mov (.tmp 51), none⟩,
                      ⟨some 53, .mov (.tmp 0), (some (52, true))⟩,
                      ⟨some 54, .callm 32 [.tmp 53], (some (52, true))⟩,
                      ⟨some 55, .mov (.tmp 1), (some (52, true))⟩,
                      ⟨some 56, .callm 32 [.tmp 55], (some (52, true))⟩,
                      ⟨some 57, .bin .eql 9 (.tmp 54) (.tmp 56), (some (52, true))⟩,
                      ⟨some 58, .mov (.tmp 0), (some (52, true))⟩,
                      ⟨some 59, .mov (.tmp 1), (some (52, true))⟩,
                      ⟨some 60, .bin .eql 23 (.tmp 58) (.tmp 59), (some (52, true))⟩,
                      ⟨some 61, .eqb false 4 (.tmp 57) (.tmp 60), (some (52, true))⟩,
                      ⟨some 62, .pick (.tmp 52) (.tmp 61) (.const (.bool false)), none⟩,
                      ⟨some 63, .mov (.tmp 62), none⟩,
                      ⟨some 64, .load true 2 (.tmp 8), (some (63, true))⟩,
                      ⟨some 65, .callm 33 [.tmp 64], (some (63, true))⟩,
                      ⟨some 66, .pick (.tmp 63) (.tmp 65) (.const (.bool false)), none⟩,
                      ⟨some 6, .mov (.tmp 66), none⟩] [0, 1, 8, 9, 10, 11, 12, 36, 37, 38, 39, 40, 41, 42, 43, 44, 45, 46, 47, 48, 49, 50, 51, 52, 53, 54, 55, 56, 57, 58, 59, 60, 61, 62, 63, 64, 65, 66])
                  .ret))))))))
abbrev v_rivuletlaw1_AddrBack : List RV := [.tmp 6]
abbrev f_rivuletlaw1_AddrBack : FuncId := 12
theorem k_rivuletlaw1_AddrBack : closedOf Tryd.prog Tryd.f12 = (false, some true, some v_rivuletlaw1_AddrBack, some c_rivuletlaw1_AddrBack.plain, 67) := by kernel_rfl
theorem ac_rivuletlaw1_AddrBack {args : List AV} {r : AV} (h : aw Tryd.prog c_rivuletlaw1_AddrBack (env0 args) (endQ v_rivuletlaw1_AddrBack r)) (hargs : args.length ≤ 67 := by decide) (hok : resOK r = true := by rfl) : AC Tryd.prog f_rivuletlaw1_AddrBack args r :=
  AC_mk (by kernel_rfl) Tryd.func12 k_rivuletlaw1_AddrBack hargs hok (by decide) h

/-- rivulet/rivuletlaw1.AddrSays (function 13) -/
def c_rivuletlaw1_AddrSays : ACode :=
  (.seq
    (.region false [
        ⟨some 7, .box (.tmp 2), none⟩,
        ⟨some 8, .box (.tmp 3), none⟩,
        ⟨some 10, .mov (.const (.bool false)), none⟩] [2, 3, 10])
    (.seq
      (.region false [
          ⟨some 21, .callm 14 [], none⟩,
          ⟨some 11, .mov (.tmp 21), none⟩] [21])
      (.seq
        (.seq
          (.region false [
              ⟨some 22, .mov (.tmp 11), none⟩,
              ⟨some 23, .un .not (.tmp 22), none⟩] [11, 22])
          (.cond (.tmp 23)
            (.seq
              (.region false [
                  ⟨some 10, .mov (.const (.bool false)), none⟩] [0, 1, 4, 7, 8, 23])
              .ret)
            .skip))
        (.seq
          (.seq
            (.region false [
                ⟨some 24, .mov (.tmp 0), none⟩,
                ⟨some 25, .lens (.tmp 24), none⟩,
                ⟨some 26, .bin .gtr 3 (.tmp 25) (.const (.int .i64 60)), none⟩] [23, 24, 25])
            (.cond (.tmp 26)
              (.seq
                (.region false [
                    ⟨some 10, .mov (.const (.bool true)), none⟩] [0, 1, 4, 7, 8, 26])
                .ret)
              .skip))
          (.seq
            (.region false [
                ⟨some 28, .mov (.tmp 0), none⟩,
                ⟨some 29, .callm 36 [.tmp 28], none⟩,
                ⟨some 27, .mov (.tmp 29), none⟩,
                ⟨some 30, .ext (.tmp 27) 0, none⟩,
                ⟨some 31, .ext (.tmp 27) 1, none⟩,
                ⟨some 12, .mov (.tmp 30), none⟩,
                ⟨some 13, .mov (.tmp 31), none⟩] [26, 27, 28, 29, 30, 31])
            (.seq
              (.region false [
                  ⟨some 33, .mov (.tmp 0), none⟩,
                  ⟨some 34, .callm 39 [.tmp 33], none⟩,
                  ⟨some 32, .mov (.tmp 34), none⟩,
                  ⟨some 35, .ext (.tmp 32) 0, none⟩,
                  ⟨some 36, .ext (.tmp 32) 1, none⟩,
                  ⟨some 14, .mov (.tmp 35), none⟩,
                  ⟨some 15, .mov (.tmp 36), none⟩] [32, 33, 34, 35, 36])
              (.seq
                (.region false [
                    ⟨some 38, .mov (.tmp 0), none⟩,
                    ⟨some 39, .callm 31 [.tmp 38], none⟩,
                    ⟨some 37, .mov (.tmp 39), none⟩,
                    ⟨some 40, .ext (.tmp 37) 0, none⟩,
                    ⟨some 41, .ext (.tmp 37) 1, none⟩,
                    ⟨some 16, .alloc [.lit (.int .u32 0), .lit (.int .i64 0)], none⟩,
                    ⟨none, .store 2 (.tmp 16) (.tmp 40), none⟩,
                    ⟨some 17, .mov (.tmp 41), none⟩] [37, 38, 39, 40, 41])
                (.seq
                  (.region false [
                      ⟨some 43, .mov (.tmp 0), none⟩,
                      ⟨some 44, .callm 40 [.tmp 43], none⟩,
                      ⟨some 42, .mov (.tmp 44), none⟩,
                      ⟨some 45, .ext (.tmp 42) 0, none⟩,
                      ⟨some 46, .ext (.tmp 42) 1, none⟩,
                      ⟨some 18, .alloc [.lit (.int .u32 0), .lit (.int .i64 0)], none⟩,
                      ⟨none, .store 2 (.tmp 18) (.tmp 45), none⟩,
                      ⟨some 19, .mov (.tmp 46), none⟩] [0, 42, 43, 44, 45, 46])
                  (.seq
                    (.seq
                      (.region false [
                          ⟨some 47, .mov (.tmp 12), none⟩,
                          ⟨some 48, .mov (.tmp 14), none⟩,
                          ⟨some 49, .bin .neq 23 (.tmp 47) (.tmp 48), none⟩,
                          ⟨some 50, .mov (.tmp 49), none⟩,
                          ⟨some 51, .load true 2 (.tmp 16), (some (50, false))⟩,
                          ⟨some 52, .load true 2 (.tmp 18), (some (50, false))⟩,
                          ⟨some 53, .callm 38 [.tmp 51, .tmp 52], (some (50, false))⟩,
                          ⟨some 54, .un .not (.tmp 53), (some (50, false))⟩,
                          ⟨some 55, .pick (.tmp 50) (.const (.bool true)) (.tmp 54), none⟩,
                          ⟨some 56, .mov (.tmp 55), none⟩,
                          ⟨some 57, .mov (.tmp 13), (some (56, false))⟩,
                          ⟨some 58, .eqn false (.tmp 57), (some (56, false))⟩,
                          ⟨some 59, .mov (.tmp 15), (some (56, false))⟩,
                          ⟨some 60, .eqb true 4 (.tmp 58) (.tmp 59), (some (56, false))⟩,
                          ⟨some 61, .pick (.tmp 56) (.const (.bool true)) (.tmp 60), none⟩,
                          ⟨some 62, .mov (.tmp 61), none⟩,
                          ⟨some 63, .mov (.tmp 15), (some (62, false))⟩,
                          ⟨some 64, .un .not (.tmp 63), (some (62, false))⟩,
                          ⟨some 65, .mov (.tmp 64), (some (62, false))⟩,
                          ⟨some 66, .mov (.tmp 13), (some (65, true))⟩,
                          ⟨some 67, .callm 23 [.tmp 66, .const (.int .i64 108)], (some (65, true))⟩,
                          ⟨some 68, .un .not (.tmp 67), (some (65, true))⟩,
                          ⟨some 69, .pick (.tmp 65) (.tmp 68) (.const (.bool false)), (some (62, false))⟩,
                          ⟨some 70, .pick (.tmp 62) (.const (.bool true)) (.tmp 69), none⟩,
                          ⟨some 71, .mov (.tmp 70), none⟩,
                          ⟨some 72, .mov (.tmp 17), (some (71, false))⟩,
                          ⟨some 73, .eqn false (.tmp 72), (some (71, false))⟩,
                          ⟨some 74, .mov (.tmp 19), (some (71, false))⟩,
                          ⟨some 75, .eqb true 4 (.tmp 73) (.tmp 74), (some (71, false))⟩,
                          ⟨some 76, .pick (.tmp 71) (.const (.bool true)) (.tmp 75), none⟩,
                          ⟨some 77, .mov (.tmp 76), none⟩,
                          ⟨some 78, .mov (.tmp 19), (some (77, false))⟩,
                          ⟨some 79, .un .not (.tmp 78), (some (77, false))⟩,
                          ⟨some 80, .mov (.tmp 79), (some (77, false))⟩,
                          ⟨some 81, .mov (.tmp 17), (some (80, true))⟩,
                          ⟨some 82, .callm 23 [.tmp 81, .const (.int .i64 108)], (some (80, true))⟩,
                          ⟨some 83, .un .not (.tmp 82), (some (80, true))⟩,
                          ⟨some 84, .pick (.tmp 80) (.tmp 83) (.const (.bool false)), (some (77, false))⟩,
                          ⟨some 85, .pick (.tmp 77) (.const (.bool true)) (.tmp 84), none⟩] [12, 13, 14, 15, 16, 17, 18, 19, 47, 48, 49, 50, 51, 52, 53, 54, 55, 56, 57, 58, 59, 60, 61, 62, 63, 64, 65, 66, 67, 68, 69, 70, 71, 72, 73, 74, 75, 76, 77, 78, 79, 80, 81, 82, 83, 84])
                      (.cond (.tmp 85)
                        (.seq
                          (.region false [
                              ⟨some 10, .mov (.const (.bool false)), none⟩] [1, 4, 7, 8, 85])
                          .ret)
                        .skip))
                    (.seq
                      (.region false [
                          ⟨some 86, .mov (.tmp 1), none⟩,
                          ⟨some 87, .callm 15 [.tmp 86], none⟩,
                          ⟨some 20, .alloc [.lit (.int .u8 0), .lit (.int .u8 0), .lit (.int .u8 0), .lit (.int .u8 0)], none⟩,
                          ⟨none, .store 4 (.tmp 20) (.tmp 87), none⟩] [85, 86, 87])
                      (.seq
                        (.region true [
                            ⟨some 88, .mov (.tmp 1), none⟩,
                            ⟨some 89, .call 32 [.tmp 88], none⟩,
                            ⟨some 90, .mov (.tmp 1), none⟩,
                            ⟨some 91, .call 41 [.tmp 90], none⟩,
                            ⟨some 92, .bin .eql 9 (.tmp 89) (.tmp 91), none⟩,
                            ⟨some 93, .mov (.tmp 92), none⟩,
                            ⟨some 94, .mov (.tmp 4), (some (93, true))⟩,
                            ⟨some 95, .call 18 [.tmp 94], (some (93, true))⟩,
                            ⟨some 96, .mov (.tmp 4), (some (93, true))⟩,
                            ⟨some 97, .call 42 [.tmp 96], (some (93, true))⟩,
                            ⟨some 98, .bin .eql 23 (.tmp 95) (.tmp 97), (some (93, true))⟩,
                            ⟨some 99, .pick (.tmp 93) (.tmp 98) (.const (.bool false)), none⟩,
                            ⟨some 100, .mov (.tmp 99), none⟩,
                            ⟨some 101, .load true 2 (.tmp 7), (some (100, true))⟩,
                            ⟨some 102, .call 33 [.tmp 101], (some (100, true))⟩,
                            ⟨some 103, .load true 2 (.tmp 7), (some (100, true))⟩,
                            ⟨some 104, .call 35 [.tmp 103], (some (100, true))⟩,
                            ⟨some 105, .eqb false 4 (.tmp 102) (.tmp 104), (some (100, true))⟩,
                            ⟨some 106, .pick (.tmp 100) (.tmp 105) (.const (.bool false)), none⟩,
                            ⟨some 107, .mov (.tmp 106), none⟩,
                            ⟨some 108, .load true 2 (.tmp 7), (some (107, true))⟩,
                            ⟨some 109, .mov (.tmp 1), (some (107, true))⟩,
                            ⟨some 110, .call 20 [.tmp 108, .tmp 109], (some (107, true))⟩,
                            ⟨some 111, .load true 2 (.tmp 7), (some (107, true))⟩,
                            ⟨some 112, .mov (.tmp 1), (some (107, true))⟩,
                            ⟨some 113, .call 43 [.tmp 111, .tmp 112], (some (107, true))⟩,
                            ⟨some 114, .eqb false 4 (.tmp 110) (.tmp 113), (some (107, true))⟩,
                            ⟨some 115, .pick (.tmp 107) (.tmp 114) (.const (.bool false)), none⟩,
                            ⟨some 116, .mov (.tmp 115), none⟩,
                            ⟨some 117, .load true 2 (.tmp 7), (some (116, true))⟩,
                            ⟨some 118, .load true 2 (.tmp 8), (some (116, true))⟩,
                            ⟨some 119, .call 19 [.tmp 117, .tmp 118], (some (116, true))⟩,
                            ⟨some 120, .load true 2 (.tmp 8), (some (116, true))⟩,
                            ⟨some 121, .call 35 [.tmp 120], (some (116, true))⟩,
                            ⟨some 122, .mov (.tmp 121), (some (116, true))⟩,
                            ⟨some 123, .load true 2 (.tmp 7), (some (122, true))⟩,
                            ⟨some 124, .load true 2 (.tmp 8), (some (122, true))⟩,
                            ⟨some 125, .call 44 [.tmp 123, .tmp 124], (some (122, true))⟩,
                            ⟨some 126, .pick (.tmp 122) (.tmp 125) (.const (.bool false)), (some (116, true))⟩,
                            ⟨some 127, .eqb false 4 (.tmp 119) (.tmp 126), (some (116, true))⟩,
                            ⟨some 128, .pick (.tmp 116) (.tmp 127) (.const (.bool false)), none⟩,
                            ⟨some 129, .mov (.tmp 128), none⟩,
                            ⟨some 130, .mov (.tmp 1), (some (129, true))⟩,
                            ⟨some 131, .call 34 [.tmp 130], (some (129, true))⟩,
                            ⟨some 132, .mov (.tmp 1), (some (129, true))⟩,
                            ⟨some 133, .call 45 [.tmp 132], (some (129, true))⟩,
                            ⟨some 134, .eqb false 4 (.tmp 131) (.tmp 133), (some (129, true))⟩,
                            ⟨some 135, .pick (.tmp 129) (.tmp 134) (.const (.bool false)), none⟩,
                            ⟨some 136, .mov (.tmp 135), none⟩,
                            ⟨some 137, .load true 4 (.tmp 20), (some (136, true))⟩,
                            ⟨some 138, .call 17 [.tmp 137], (some (136, true))⟩,
                            ⟨some 139, .mov (.tmp 1), (some (136, true))⟩,
                            ⟨some 140, .bin .eql 23 (.tmp 138) (.tmp 139), (some (136, true))⟩,
                            ⟨some 141, .pick (.tmp 136) (.tmp 140) (.const (.bool false)), none⟩,
                            ⟨some 142, .mov (.tmp 141), none⟩,
                            ⟨some 143, .iadra 4 1 (.tmp 20) (.const (.int .i64 0)), (some (142, true))⟩,
                            ⟨some 144, .load false 1 (.tmp 143), (some (142, true))⟩,
                            ⟨some 145, .cint .i64 (.tmp 144), (some (142, true))⟩,
                            ⟨some 146, .mov (.tmp 1), (some (142, true))⟩,
                            ⟨some 147, .bin .shr 23 (.tmp 146) (.const (.int .u64 24)), (some (142, true))⟩,
                            ⟨some 148, .cint .i64 (.tmp 147), (some (142, true))⟩,
                            ⟨some 149, .bin .eql 3 (.tmp 145) (.tmp 148), (some (142, true))⟩,
                            ⟨some 150, .pick (.tmp 142) (.tmp 149) (.const (.bool false)), none⟩,
                            ⟨some 151, .mov (.tmp 150), none⟩,
                            ⟨some 152, .iadra 4 1 (.tmp 20) (.const (.int .i64 3)), (some (151, true))⟩,
                            ⟨some 153, .load false 1 (.tmp 152), (some (151, true))⟩,
                            ⟨some 154, .cint .i64 (.tmp 153), (some (151, true))⟩,
                            ⟨some 155, .mov (.tmp 1), (some (151, true))⟩,
                            ⟨some 156, .bin .and 23 (.tmp 155) (.const (.int .u32 255)), (some (151, true))⟩,
                            ⟨some 157, .cint .i64 (.tmp 156), (some (151, true))⟩,
                            ⟨some 158, .bin .eql 3 (.tmp 154) (.tmp 157), (some (151, true))⟩,
                            ⟨some 159, .pick (.tmp 151) (.tmp 158) (.const (.bool false)), none⟩,
                            ⟨some 10, .mov (.tmp 159), none⟩] [1, 4, 7, 8, 20, 88, 89, 90, 91, 92, 93, 94, 95, 96, 97, 98, 99, 100, 101, 102, 103, 104, 105, 106, 107, 108, 109, 110, 111, 112, 113, 114, 115, 116, 117, 118, 119, 120, 121, 122, 123, 124, 125, 126, 127, 128, 129, 130, 131, 132, 133, 134, 135, 136, 137, 138, 139, 140, 141, 142, 143, 144, 145, 146, 147, 148, 149, 150, 151, 152, 153, 154, 155, 156, 157, 158, 159])
                        .ret)))))))))))
abbrev v_rivuletlaw1_AddrSays : List RV := [.tmp 10]
abbrev f_rivuletlaw1_AddrSays : FuncId := 13
theorem k_rivuletlaw1_AddrSays : closedOf Tryd.prog Tryd.f13 = (false, some true, some v_rivuletlaw1_AddrSays, some c_rivuletlaw1_AddrSays.plain, 160) := by kernel_rfl
theorem ac_rivuletlaw1_AddrSays {args : List AV} {r : AV} (h : aw Tryd.prog c_rivuletlaw1_AddrSays (env0 args) (endQ v_rivuletlaw1_AddrSays r)) (hargs : args.length ≤ 160 := by decide) (hok : resOK r = true := by rfl) : AC Tryd.prog f_rivuletlaw1_AddrSays args r :=
  AC_mk (by kernel_rfl) Tryd.func13 k_rivuletlaw1_AddrSays hargs hok (by decide) h

/-- rivulet/rivuletlaw1.first (function 14) -/
def c_rivuletlaw1_first : ACode :=
  (.seq
    (.region false [
        ⟨some 0, .mov (.const (.bool false)), none⟩] [0])
    (.seq
      (.region false [
          ⟨some 1, .callm 32 [.const (.int .u32 16777218)], none⟩,
          ⟨some 2, .bin .eql 9 (.tmp 1) (.const (.string ⟨#[49, 46, 48, 46, 48, 46, 50]⟩)), none⟩,
          ⟨some 0, .mov (.tmp 2), none⟩] [1, 2])
      .ret))
abbrev v_rivuletlaw1_first : List RV := [.tmp 0]
abbrev f_rivuletlaw1_first : FuncId := 14
theorem k_rivuletlaw1_first : closedOf Tryd.prog Tryd.f14 = (false, some true, some v_rivuletlaw1_first, some c_rivuletlaw1_first.plain, 3) := by kernel_rfl
theorem ac_rivuletlaw1_first {args : List AV} {r : AV} (h : aw Tryd.prog c_rivuletlaw1_first (env0 args) (endQ v_rivuletlaw1_first r)) (hargs : args.length ≤ 3 := by decide) (hok : resOK r = true := by rfl) : AC Tryd.prog f_rivuletlaw1_first args r :=
  AC_mk (by kernel_rfl) Tryd.func14 k_rivuletlaw1_first hargs hok (by decide) h

/-- rivulet/addr.Bytes (function 15) -/
def c_addr_Bytes : ACode :=
  (.seq
    (.region false [
        ⟨some 2, .alloc [.lit (.int .u8 0), .lit (.int .u8 0), .lit (.int .u8 0), .lit (.int .u8 0)], none⟩] [])
    (.seq
      (.region false [
          ⟨some 3, .alloc [.lit (.int .u8 0), .lit (.int .u8 0), .lit (.int .u8 0), .lit (.int .u8 0)], none⟩] [])
      (.seq
        (.seq
          (.region false [
              ⟨some 5, .mov (.const (.int .i64 0)), none⟩] [])
          (.block 0
            (.loop
              (.seq
                (.region false [
                    ⟨some 6, .bin .lss 3 (.tmp 5) (.const (.int .i64 4)), none⟩] [])
                (.seq
                  (.cond (.tmp 6)
                    .skip
                    (.exit 0))
                  (.seq
                    (.block 1
                      (.seq
                        (.region false [
                            ⟨some 7, .mov (.tmp 5), none⟩,
                            ⟨some 4, .mov (.tmp 7), none⟩] [6, 7])
                        (.region false [
                            ⟨some 8, .mov (.tmp 4), none⟩,
                            ⟨some 9, .mov (.tmp 0), none⟩,
                            ⟨some 10, .mov (.tmp 4), none⟩,
                            ⟨some 11, .bin .sub 3 (.const (.int .i64 3)) (.tmp 10), none⟩,
                            ⟨some 12, .bin .mul 3 (.const (.int .i64 8)) (.tmp 11), none⟩,
                            ⟨some 13, .bin .shr 23 (.tmp 9) (.tmp 12), none⟩,
                            ⟨some 14, .cint .u8 (.tmp 13), none⟩,
                            ⟨some 15, .iadra 4 1 (.tmp 3) (.tmp 8), none⟩,
                            ⟨none, .store 1 (.tmp 15) (.tmp 14), none⟩] [4, 8, 9, 10, 11, 12, 13, 14, 15])) [])
                    (.region false [
                        ⟨some 16, .bin .add 3 (.tmp 5) (.const (.int .i64 1)), none⟩,
                        ⟨some 5, .mov (.tmp 16), none⟩] [16])))) [] []) [0, 5, 6]))
        (.seq
          (.region false [
              ⟨some 17, .load true 4 (.tmp 3), none⟩,
              ⟨none, .store 4 (.tmp 2) (.tmp 17), none⟩] [3, 17])
          .ret))))
abbrev v_addr_Bytes : List RV := [.cell true 4 2]
abbrev f_addr_Bytes : FuncId := 15
theorem k_addr_Bytes : closedOf Tryd.prog Tryd.f15 = (false, some true, some v_addr_Bytes, some c_addr_Bytes.plain, 18) := by kernel_rfl
theorem ac_addr_Bytes {args : List AV} {r : AV} (h : aw Tryd.prog c_addr_Bytes (env0 args) (endQ v_addr_Bytes r)) (hargs : args.length ≤ 18 := by decide) (hok : resOK r = true := by rfl) : AC Tryd.prog f_addr_Bytes args r :=
  AC_mk (by kernel_rfl) Tryd.func15 k_addr_Bytes hargs hok (by decide) h

/-- rivulet/rivuletworld.Number (function 16) -/
def c_rivuletworld_Number : ACode :=
  (.seq
    (.region false [
        ⟨some 4, .mov (.const (.int .i64 0)), none⟩] [4])
    (.seq
      (.region false [
          ⟨some 6, .mov (.tmp 0), none⟩,
          ⟨some 7, .mov (.tmp 1), none⟩,
          ⟨some 8, .bin .rem 3 (.tmp 6) (.tmp 7), none⟩,
          ⟨some 5, .mov (.tmp 8), none⟩] [0, 6, 7, 8])
      (.seq
        (.seq
          (.region false [
              ⟨some 9, .mov (.tmp 5), none⟩,
              ⟨some 10, .bin .lss 3 (.tmp 9) (.const (.int .i64 0)), none⟩] [9])
          (.cond (.tmp 10)
            (.region false [
                ⟨some 11, .mov (.tmp 5), none⟩,
                ⟨some 12, .mov (.tmp 1), none⟩,
                ⟨some 13, .bin .add 3 (.tmp 11) (.tmp 12), none⟩,
                ⟨some 5, .mov (.tmp 13), none⟩] [1, 10, 11, 12, 13])
            .skip))
        (.seq
          (.region false [
              ⟨some 14, .mov (.tmp 5), none⟩,
              ⟨some 4, .mov (.tmp 14), none⟩] [1, 5, 10, 14])
          .ret))))
abbrev v_rivuletworld_Number : List RV := [.tmp 4]
abbrev f_rivuletworld_Number : FuncId := 16
theorem k_rivuletworld_Number : closedOf Tryd.prog Tryd.f16 = (false, some true, some v_rivuletworld_Number, some c_rivuletworld_Number.plain, 15) := by kernel_rfl
theorem ac_rivuletworld_Number {args : List AV} {r : AV} (h : aw Tryd.prog c_rivuletworld_Number (env0 args) (endQ v_rivuletworld_Number r)) (hargs : args.length ≤ 15 := by decide) (hok : resOK r = true := by rfl) : AC Tryd.prog f_rivuletworld_Number args r :=
  AC_mk (by kernel_rfl) Tryd.func16 k_rivuletworld_Number hargs hok (by decide) h

/-- rivulet/addr.Of (function 17) -/
def c_addr_Of : ACode :=
  (.seq
    (.region false [
        ⟨some 1, .box (.tmp 0), none⟩,
        ⟨some 2, .mov (.const (.int .u32 0)), none⟩] [0, 2])
    (.seq
      (.region false [
          ⟨some 3, .mov (.const (.int .u32 0)), none⟩] [])
      (.seq
        (.seq
          (.region false [
              ⟨some 6, .load true 4 (.tmp 1), none⟩,
              ⟨some 7, .mov (.const (.int .i64 0)), none⟩] [1])
          (.block 0
            (.loop
              (.seq
                (.region false [
                    ⟨some 8, .bin .lss 3 (.tmp 7) (.const (.int .i64 4)), none⟩] [])
                (.seq
                  (.cond (.tmp 8)
                    .skip
                    (.exit 0))
                  (.seq
                    (.block 1
                      (.seq
                        (.region false [
                            ⟨some 9, .idxa false 4 1 (.tmp 6) (.tmp 7), none⟩,
                            ⟨some 5, .mov (.tmp 9), none⟩] [8, 9])
                        (.region false [
                            ⟨some 10, .mov (.tmp 3), none⟩,
                            ⟨some 11, .bin .shl 23 (.tmp 10) (.const (.int .u64 8)), none⟩,
                            ⟨some 12, .mov (.tmp 5), none⟩,
                            ⟨some 13, .cint .u32 (.tmp 12), none⟩,
                            ⟨some 14, .bin .or 23 (.tmp 11) (.tmp 13), none⟩,
                            ⟨some 3, .mov (.tmp 14), none⟩] [5, 10, 11, 12, 13, 14])) [])
                    (.region false [
                        ⟨some 15, .bin .add 3 (.tmp 7) (.const (.int .i64 1)), none⟩,
                        ⟨some 7, .mov (.tmp 15), none⟩] [15])))) [] []) [6, 7, 8]))
        (.seq
          (.region false [
              ⟨some 16, .mov (.tmp 3), none⟩,
              ⟨some 2, .mov (.tmp 16), none⟩] [3, 16])
          .ret))))
abbrev v_addr_Of : List RV := [.tmp 2]
abbrev f_addr_Of : FuncId := 17
theorem k_addr_Of : closedOf Tryd.prog Tryd.f17 = (false, some true, some v_addr_Of, some c_addr_Of.plain, 17) := by kernel_rfl
theorem ac_addr_Of {args : List AV} {r : AV} (h : aw Tryd.prog c_addr_Of (env0 args) (endQ v_addr_Of r)) (hargs : args.length ≤ 17 := by decide) (hok : resOK r = true := by rfl) : AC Tryd.prog f_addr_Of args r :=
  AC_mk (by kernel_rfl) Tryd.func17 k_addr_Of hargs hok (by decide) h

/-- rivulet/addr.Mask (function 18) -/
def c_addr_Mask : ACode :=
  (.seq
    (.region false [
        ⟨some 2, .mov (.const (.int .u32 0)), none⟩] [2])
    (.seq
      (.region false [
          ⟨some 4, .mov (.tmp 0), none⟩,
          ⟨some 5, .mnmx true [.tmp 4, .const (.int .i64 0)], none⟩,
          ⟨some 6, .mnmx false [.tmp 5, .const (.int .i64 32)], none⟩,
          ⟨some 3, .mov (.tmp 6), none⟩] [0, 4, 5, 6])
      (.seq
        (.region false [
            ⟨some 7, .mov (.tmp 3), none⟩,
            ⟨some 8, .bin .shr 23 (.const (.int .u32 4294967295)) (.tmp 7), none⟩,
            ⟨some 9, .un .xor (.tmp 8), none⟩,
            ⟨some 2, .mov (.tmp 9), none⟩] [3, 7, 8, 9])
        .ret)))
abbrev v_addr_Mask : List RV := [.tmp 2]
abbrev f_addr_Mask : FuncId := 18
theorem k_addr_Mask : closedOf Tryd.prog Tryd.f18 = (false, some true, some v_addr_Mask, some c_addr_Mask.plain, 10) := by kernel_rfl
theorem ac_addr_Mask {args : List AV} {r : AV} (h : aw Tryd.prog c_addr_Mask (env0 args) (endQ v_addr_Mask r)) (hargs : args.length ≤ 10 := by decide) (hok : resOK r = true := by rfl) : AC Tryd.prog f_addr_Mask args r :=
  AC_mk (by kernel_rfl) Tryd.func18 k_addr_Mask hargs hok (by decide) h

/-- rivulet/addr.Within (function 19) -/
def c_addr_Within : ACode :=
  (.seq
    (.region false [
        ⟨some 2, .box (.tmp 0), none⟩,
        ⟨some 3, .box (.tmp 1), none⟩,
        ⟨some 4, .mov (.const (.bool false)), none⟩] [0, 1, 4])
    (.seq
      (.region false [
          ⟨some 5, .load true 2 (.tmp 2), none⟩,
          ⟨some 6, .callm 33 [.tmp 5], none⟩,
          ⟨some 7, .mov (.tmp 6), none⟩,
          ⟨some 8, .faddr 1 1 (.tmp 2), (some (7, true))⟩,
          ⟨some 9, .load false 1 (.tmp 8), (some (7, true))⟩,
          ⟨some 10, .faddr 1 1 (.tmp 3), (some (7, true))⟩,
          ⟨some 11, .load false 1 (.tmp 10), (some (7, true))⟩,
          ⟨some 12, .bin .geq 3 (.tmp 9) (.tmp 11), (some (7, true))⟩,
          ⟨some 13, .pick (.tmp 7) (.tmp 12) (.const (.bool false)), none⟩,
          ⟨some 14, .mov (.tmp 13), none⟩,
          ⟨some 15, .load true 2 (.tmp 3), (some (14, true))⟩,
          ⟨some 16, .faddr 0 1 (.tmp 2), (some (14, true))⟩,
          ⟨some 17, .load false 1 (.tmp 16), (some (14, true))⟩,
          ⟨some 18, .callm 20 [.tmp 15, .tmp 17], (some (14, true))⟩,
          ⟨some 19, .pick (.tmp 14) (.tmp 18) (.const (.bool false)), none⟩,
          ⟨some 4, .mov (.tmp 19), none⟩] [2, 3, 5, 6, 7, 8, 9, 10, 11, 12, 13, 14, 15, 16, 17, 18, 19])
      .ret))
abbrev v_addr_Within : List RV := [.tmp 4]
abbrev f_addr_Within : FuncId := 19
theorem k_addr_Within : closedOf Tryd.prog Tryd.f19 = (false, some true, some v_addr_Within, some c_addr_Within.plain, 20) := by kernel_rfl
theorem ac_addr_Within {args : List AV} {r : AV} (h : aw Tryd.prog c_addr_Within (env0 args) (endQ v_addr_Within r)) (hargs : args.length ≤ 20 := by decide) (hok : resOK r = true := by rfl) : AC Tryd.prog f_addr_Within args r :=
  AC_mk (by kernel_rfl) Tryd.func19 k_addr_Within hargs hok (by decide) h

/-- rivulet/addr.In (function 20) -/
def c_addr_In : ACode :=
  (.seq
    (.region false [
        ⟨some 2, .box (.tmp 0), none⟩,
        ⟨some 4, .mov (.const (.bool false)), none⟩] [0, 4])
    (.seq
      (.region true [
          ⟨some 5, .load true 2 (.tmp 2), none⟩,
          ⟨some 6, .call 33 [.tmp 5], none⟩,
          ⟨some 7, .mov (.tmp 6), none⟩,
          ⟨some 8, .mov (.tmp 1), (some (7, true))⟩,
          ⟨some 9, .faddr 1 1 (.tmp 2), (some (7, true))⟩,
          ⟨some 10, .load false 1 (.tmp 9), (some (7, true))⟩,
          ⟨some 11, .call 18 [.tmp 10], (some (7, true))⟩,
          ⟨some 12, .bin .and 23 (.tmp 8) (.tmp 11), (some (7, true))⟩,
          ⟨some 13, .faddr 0 1 (.tmp 2), (some (7, true))⟩,
          ⟨some 14, .load false 1 (.tmp 13), (some (7, true))⟩,
          ⟨some 15, .bin .eql 23 (.tmp 12) (.tmp 14), (some (7, true))⟩,
          ⟨some 16, .pick (.tmp 7) (.tmp 15) (.const (.bool false)), none⟩,
          ⟨some 4, .mov (.tmp 16), none⟩] [1, 2, 5, 6, 7, 8, 9, 10, 11, 12, 13, 14, 15, 16])
      .ret))
abbrev v_addr_In : List RV := [.tmp 4]
abbrev f_addr_In : FuncId := 20
theorem k_addr_In : closedOf Tryd.prog Tryd.f20 = (false, some true, some v_addr_In, some c_addr_In.plain, 17) := by kernel_rfl
theorem ac_addr_In {args : List AV} {r : AV} (h : aw Tryd.prog c_addr_In (env0 args) (endQ v_addr_In r)) (hargs : args.length ≤ 17 := by decide) (hok : resOK r = true := by rfl) : AC Tryd.prog f_addr_In args r :=
  AC_mk (by kernel_rfl) Tryd.func20 k_addr_In hargs hok (by decide) h

/-- rivulet/rivuletlaw5.first (function 21) -/
def c_rivuletlaw5_first : ACode :=
  (.seq
    (.region false [
        ⟨some 0, .mov (.const (.bool false)), none⟩] [0])
    (.seq
      (.region false [
          ⟨some 4, .callm 22 [.const (.string ⟨#[97, 32, 98, 32, 35, 32, 99]⟩)], none⟩,
          ⟨some 3, .mov (.tmp 4), none⟩,
          ⟨some 5, .ext (.tmp 3) 0, none⟩,
          ⟨some 6, .ext (.tmp 3) 1, none⟩,
          ⟨some 1, .mov (.tmp 5), none⟩,
          ⟨some 2, .mov (.tmp 6), none⟩] [3, 4, 5, 6])
      (.seq
        (.region false [
            ⟨some 7, .mov (.tmp 2), none⟩,
            ⟨some 8, .eqn false (.tmp 7), none⟩,
            ⟨some 9, .mov (.tmp 8), none⟩,
            ⟨some 10, .mov (.tmp 1), (some (9, true))⟩,
            ⟨some 11, .lenl (.tmp 10), (some (9, true))⟩,
            ⟨some 12, .bin .eql 3 (.tmp 11) (.const (.int .i64 1)), (some (9, true))⟩,
            ⟨some 13, .pick (.tmp 9) (.tmp 12) (.const (.bool false)), none⟩,
            ⟨some 14, .mov (.tmp 13), none⟩,
            ⟨some 15, .mov (.tmp 1), (some (14, true))⟩,
            ⟨some 16, .iaddr 2 (.tmp 15) (.const (.int .i64 0)), (some (14, true))⟩,
            ⟨some 17, .faddr 1 1 (.tmp 16), (some (14, true))⟩,
            ⟨some 18, .load false 1 (.tmp 17), (some (14, true))⟩,
            ⟨some 19, .bslice 2 1 [.const (.string ⟨#[97]⟩), .const (.string ⟨#[98]⟩)], (some (14, true))⟩,
            ⟨some 20, .callm 26 [.tmp 18, .tmp 19], (some (14, true))⟩,
            ⟨some 21, .pick (.tmp 14) (.tmp 20) (.const (.bool false)), none⟩,
            ⟨some 22, .mov (.tmp 21), none⟩,
            ⟨some 23, .mov (.tmp 1), (some (22, true))⟩,
            ⟨some 24, .iaddr 2 (.tmp 23) (.const (.int .i64 0)), (some (22, true))⟩,
            ⟨some 25, .faddr 0 1 (.tmp 24), (some (22, true))⟩,
            ⟨some 26, .load false 1 (.tmp 25), (some (22, true))⟩,
            ⟨some 27, .bin .eql 3 (.tmp 26) (.const (.int .i64 1)), (some (22, true))⟩,
            ⟨some 28, .pick (.tmp 22) (.tmp 27) (.const (.bool false)), none⟩,
            ⟨some 0, .mov (.tmp 28), none⟩] [1, 2, 7, 8, 9, 10, 11, 12, 13, 14, 15, 16, 17, 18, 19, 20, 21, 22, 23, 24, 25, 26, 27, 28])
        .ret)))
abbrev v_rivuletlaw5_first : List RV := [.tmp 0]
abbrev f_rivuletlaw5_first : FuncId := 21
theorem k_rivuletlaw5_first : closedOf Tryd.prog Tryd.f21 = (false, some true, some v_rivuletlaw5_first, some c_rivuletlaw5_first.plain, 29) := by kernel_rfl
theorem ac_rivuletlaw5_first {args : List AV} {r : AV} (h : aw Tryd.prog c_rivuletlaw5_first (env0 args) (endQ v_rivuletlaw5_first r)) (hargs : args.length ≤ 29 := by decide) (hok : resOK r = true := by rfl) : AC Tryd.prog f_rivuletlaw5_first args r :=
  AC_mk (by kernel_rfl) Tryd.func21 k_rivuletlaw5_first hargs hok (by decide) h

/-- rivulet/lex.Lines (function 22) -/
def c_lex_Lines : ACode :=
  (.seq
    (.region false [
        ⟨some 2, .mov (.const (.slice none 0 0)), none⟩,
        ⟨some 3, .mov (.const (.nilIface)), none⟩] [2, 3])
    (.seq
      (.seq
        (.region false [
            ⟨some 8, .mov (.tmp 0), none⟩,
            ⟨some 9, .lens (.tmp 8), none⟩,
            ⟨some 10, .bin .gtr 3 (.tmp 9) (.const (.int .i64 16384)), none⟩] [8, 9])
        (.cond (.tmp 10)
          (.seq
            (.region true [
                ⟨some 11, .load false 1 (.global 0), none⟩,
                ⟨some 2, .mov (.const (.slice none 0 0)), none⟩,
                ⟨some 3, .mov (.tmp 11), none⟩] [0, 10, 11])
            .ret)
          .skip))
      (.seq
        (.region false [
            ⟨some 4, .mov (.const (.slice none 0 0)), none⟩] [10])
        (.seq
          (.seq
            (.region false [
                ⟨some 12, .mov (.tmp 0), none⟩,
                ⟨some 13, .callm 46 [.tmp 12, .const (.string ⟨#[10]⟩)], none⟩,
                ⟨some 14, .lenl (.tmp 13), none⟩,
                ⟨some 15, .mov (.const (.int .i64 0)), none⟩] [0, 12])
            (.block 0
              (.loop
                (.seq
                  (.region false [
                      ⟨some 16, .bin .lss 3 (.tmp 15) (.tmp 14), none⟩] [])
                  (.seq
                    (.cond (.tmp 16)
                      .skip
                      (.exit 0))
                    (.seq
                      (.block 1
                        (.seq
                          (.region false [
                              ⟨some 17, .mov (.tmp 15), none⟩,
                              ⟨some 18, .iaddr 1 (.tmp 13) (.tmp 15), none⟩,
                              ⟨some 19, .load false 1 (.tmp 18), none⟩,
                              ⟨some 5, .mov (.tmp 17), none⟩,
                              ⟨some 6, .mov (.tmp 19), none⟩] [16, 17, 18, 19])
                          (.seq
                            (.region false [
                                ⟨some 21, .mov (.tmp 6), none⟩,
                                ⟨some 22, .callm 47 [.tmp 21, .const (.string ⟨#[35]⟩)], none⟩,
                                ⟨some 20, .mov (.tmp 22), none⟩,
                                ⟨some 23, .ext (.tmp 20) 0, none⟩,
                                ⟨some 24, .ext (.tmp 20) 1, none⟩,
                                ⟨some 25, .ext (.tmp 20) 2, none⟩,
                                ⟨some 6, .mov (.tmp 23), none⟩] [20, 21, 22, 23, 24, 25])
                            (.seq
                              (.region false [
                                  ⟨some 26, .mov (.tmp 6), none⟩,
                                  ⟨some 27, .callm 48 [.tmp 26, .func 49], none⟩,
                                  ⟨some 7, .mov (.tmp 27), none⟩] [6, 26, 27])
                              (.seq
                                (.region false [
                                    ⟨some 28, .mov (.tmp 7), none⟩,
                                    ⟨some 29, .lenl (.tmp 28), none⟩,
                                    ⟨some 30, .bin .gtr 3 (.tmp 29) (.const (.int .i64 0)), none⟩] [28, 29])
                                (.cond (.tmp 30)
                                  (.region false [
                                      ⟨some 31, .mov (.tmp 4), none⟩,
                                      ⟨some 32, .mov (.tmp 5), none⟩,
                                      ⟨some 33, .bin .add 3 (.tmp 32) (.const (.int .i64 1)), none⟩,
                                      ⟨some 34, .mov (.tmp 7), none⟩,
                                      ⟨some 35, .build [.lit (.int .i64 0), .sl .nil 0 []] [(0, 1, .tmp 33), (1, 1, .tmp 34)], none⟩,
                                      ⟨some 36, .bslice 1 2 [.tmp 35], none⟩,
                                      ⟨some 37, .app 2 32 [] (.tmp 31) (.tmp 36), none⟩,
                                      ⟨some 4, .mov (.tmp 37), none⟩] [5, 7, 30, 31, 32, 33, 34, 35, 36, 37])
                                  .skip))))) [5, 7, 30])
                      (.region false [
                          ⟨some 38, .bin .add 3 (.tmp 15) (.const (.int .i64 1)), none⟩,
                          ⟨some 15, .mov (.tmp 38), none⟩] [38])))) [] []) [13, 14, 15, 16]))
          (.seq
            (.region false [
                ⟨some 39, .mov (.tmp 4), none⟩,
                ⟨some 2, .mov (.tmp 39), none⟩,
                ⟨some 3, .mov (.const (.nilIface)), none⟩] [4, 39])
            .ret)))))
abbrev v_lex_Lines : List RV := [.tmp 2, .tmp 3]
abbrev f_lex_Lines : FuncId := 22
theorem k_lex_Lines : closedOf Tryd.prog Tryd.f22 = (false, some true, some v_lex_Lines, some c_lex_Lines.plain, 40) := by kernel_rfl
theorem ac_lex_Lines {args : List AV} {r : AV} (h : aw Tryd.prog c_lex_Lines (env0 args) (endQ v_lex_Lines r)) (hargs : args.length ≤ 40 := by decide) (hok : resOK r = true := by rfl) : AC Tryd.prog f_lex_Lines args r :=
  AC_mk (by kernel_rfl) Tryd.func22 k_lex_Lines hargs hok (by decide) h

/-- rivulet/rivuletsee.Is (function 23) -/
def c_rivuletsee_Is : ACode :=
  (.seq
    (.region false [
        ⟨some 4, .mov (.const (.bool false)), none⟩] [4])
    (.seq
      (.region false [
          ⟨some 5, .mov (.tmp 0), none⟩,
          ⟨some 6, .mov (.tmp 1), none⟩,
          ⟨some 7, .callm 51 [.tmp 6], none⟩,
          ⟨some 8, .callm 50 [.tmp 5, .tmp 7], none⟩,
          ⟨some 4, .mov (.tmp 8), none⟩] [0, 1, 5, 6, 7, 8])
      .ret))
abbrev v_rivuletsee_Is : List RV := [.tmp 4]
abbrev f_rivuletsee_Is : FuncId := 23
theorem k_rivuletsee_Is : closedOf Tryd.prog Tryd.f23 = (false, some true, some v_rivuletsee_Is, some c_rivuletsee_Is.plain, 9) := by kernel_rfl
theorem ac_rivuletsee_Is {args : List AV} {r : AV} (h : aw Tryd.prog c_rivuletsee_Is (env0 args) (endQ v_rivuletsee_Is r)) (hargs : args.length ≤ 9 := by decide) (hok : resOK r = true := by rfl) : AC Tryd.prog f_rivuletsee_Is args r :=
  AC_mk (by kernel_rfl) Tryd.func23 k_rivuletsee_Is hargs hok (by decide) h

/-- rivulet/lex.Name (function 24) -/
def c_lex_Name : ACode :=
  (.seq
    (.region false [
        ⟨some 2, .mov (.const (.nilIface)), none⟩] [2])
    (.seq
      (.seq
        (.region false [
            ⟨some 5, .mov (.tmp 0), none⟩,
            ⟨some 6, .lens (.tmp 5), none⟩,
            ⟨some 7, .bin .lss 3 (.tmp 6) (.const (.int .i64 1)), none⟩,
            ⟨some 8, .mov (.tmp 7), none⟩,
            ⟨some 9, .mov (.tmp 0), (some (8, false))⟩,
            ⟨some 10, .lens (.tmp 9), (some (8, false))⟩,
            ⟨some 11, .bin .gtr 3 (.tmp 10) (.const (.int .i64 12)), (some (8, false))⟩,
            ⟨some 12, .pick (.tmp 8) (.const (.bool true)) (.tmp 11), none⟩,
            ⟨some 13, .mov (.tmp 12), none⟩,
            ⟨some 14, .mov (.tmp 0), (some (13, false))⟩,
            ⟨some 15, .idxs (.tmp 14) (.const (.int .i64 0)), (some (13, false))⟩,
            ⟨some 16, .callm 52 [.tmp 15], (some (13, false))⟩,
            ⟨some 17, .un .not (.tmp 16), (some (13, false))⟩,
            ⟨some 18, .pick (.tmp 13) (.const (.bool true)) (.tmp 17), none⟩] [5, 6, 7, 8, 9, 10, 11, 12, 13, 14, 15, 16, 17])
        (.cond (.tmp 18)
          (.seq
            (.region false [
                ⟨some 19, .load false 1 (.global 1), none⟩,
                ⟨some 2, .mov (.tmp 19), none⟩] [0, 18, 19])
            .ret)
          .skip))
      (.seq
        (.seq
          (.region false [
              ⟨some 20, .mov (.tmp 0), none⟩,
              ⟨some 21, .lens (.tmp 20), none⟩,
              ⟨some 22, .mov (.const (.int .i64 0)), none⟩] [18, 20])
          (.block 0
            (.loop
              (.seq
                (.region false [
                    ⟨some 23, .bin .lss 3 (.tmp 22) (.tmp 21), none⟩] [])
                (.seq
                  (.cond (.tmp 23)
                    .skip
                    (.exit 0))
                  (.seq
                    (.block 1
                      (.seq
                        (.region false [
                            ⟨some 24, .mov (.tmp 22), none⟩,
                            ⟨some 3, .mov (.tmp 24), none⟩] [23, 24])
                        (.seq
                          (.region false [
                              ⟨some 25, .mov (.tmp 0), none⟩,
                              ⟨some 26, .mov (.tmp 3), none⟩,
                              ⟨some 27, .idxs (.tmp 25) (.tmp 26), none⟩,
                              ⟨some 4, .mov (.tmp 27), none⟩] [3, 25, 26, 27])
                          (.seq
                            (.region false [
                                ⟨some 28, .mov (.tmp 4), none⟩,
                                ⟨some 29, .callm 52 [.tmp 28], none⟩,
                                ⟨some 30, .un .not (.tmp 29), none⟩,
                                ⟨some 31, .mov (.tmp 30), none⟩,
                                ⟨some 32, .mov (.tmp 4), (some (31, true))⟩,
                                ⟨some 33, .bin .neq 5 (.tmp 32) (.const (.int .u8 45)), (some (31, true))⟩,
                                ⟨some 34, .pick (.tmp 31) (.tmp 33) (.const (.bool false)), none⟩,
                                ⟨some 35, .mov (.tmp 34), none⟩,
                                ⟨some 36, .mov (.tmp 4), (some (35, true))⟩,
                                ⟨some 37, .bin .lss 5 (.tmp 36) (.const (.int .u8 48)), (some (35, true))⟩,
                                ⟨some 38, .mov (.tmp 37), (some (35, true))⟩,
                                ⟨some 39, .mov (.tmp 4), (some (38, false))⟩,
                                ⟨some 40, .bin .gtr 5 (.tmp 39) (.const (.int .u8 57)), (some (38, false))⟩,
                                ⟨some 41, .pick (.tmp 38) (.const (.bool true)) (.tmp 40), (some (35, true))⟩,
                                ⟨some 42, .pick (.tmp 35) (.tmp 41) (.const (.bool false)), none⟩] [4, 28, 29, 30, 31, 32, 33, 34, 35, 36, 37, 38, 39, 40, 41])
                            (.cond (.tmp 42)
                              (.seq
                                (.region false [
                                    ⟨some 43, .load false 1 (.global 1), none⟩,
                                    ⟨some 2, .mov (.tmp 43), none⟩] [0, 21, 22, 42, 43])
                                .ret)
                              .skip)))) [42])
                    (.region false [
                        ⟨some 44, .bin .add 3 (.tmp 22) (.const (.int .i64 1)), none⟩,
                        ⟨some 22, .mov (.tmp 44), none⟩] [44])))) [] []) [0, 21, 22, 23]))
        (.seq
          (.region false [
              ⟨some 2, .mov (.const (.nilIface)), none⟩] [])
          .ret))))
abbrev v_lex_Name : List RV := [.tmp 2]
abbrev f_lex_Name : FuncId := 24
theorem k_lex_Name : closedOf Tryd.prog Tryd.f24 = (false, some true, some v_lex_Name, some c_lex_Name.plain, 45) := by kernel_rfl
theorem ac_lex_Name {args : List AV} {r : AV} (h : aw Tryd.prog c_lex_Name (env0 args) (endQ v_lex_Name r)) (hargs : args.length ≤ 45 := by decide) (hok : resOK r = true := by rfl) : AC Tryd.prog f_lex_Name args r :=
  AC_mk (by kernel_rfl) Tryd.func24 k_lex_Name hargs hok (by decide) h

/-- rivulet/rivuletworld.Num (function 25) -/
def c_rivuletworld_Num : ACode :=
  (.seq
    (.region false [
        ⟨some 2, .mov (.const (.string ⟨#[]⟩)), none⟩] [2])
    (.seq
      (.region false [
          ⟨some 3, .mov (.tmp 0), none⟩,
          ⟨some 4, .callm 53 [.tmp 3], none⟩,
          ⟨some 2, .mov (.tmp 4), none⟩] [0, 3, 4])
      .ret))
abbrev v_rivuletworld_Num : List RV := [.tmp 2]
abbrev f_rivuletworld_Num : FuncId := 25
theorem k_rivuletworld_Num : closedOf Tryd.prog Tryd.f25 = (false, some true, some v_rivuletworld_Num, some c_rivuletworld_Num.plain, 5) := by kernel_rfl
theorem ac_rivuletworld_Num {args : List AV} {r : AV} (h : aw Tryd.prog c_rivuletworld_Num (env0 args) (endQ v_rivuletworld_Num r)) (hargs : args.length ≤ 5 := by decide) (hok : resOK r = true := by rfl) : AC Tryd.prog f_rivuletworld_Num args r :=
  AC_mk (by kernel_rfl) Tryd.func25 k_rivuletworld_Num hargs hok (by decide) h

/-- rivulet/rivuletref.SameTexts (function 26) -/
def c_rivuletref_SameTexts : ACode :=
  (.seq
    (.region false [
        ⟨some 4, .mov (.const (.bool false)), none⟩] [4])
    (.seq
      (.seq
        (.region false [
            ⟨some 7, .mov (.tmp 0), none⟩,
            ⟨some 8, .lenl (.tmp 7), none⟩,
            ⟨some 9, .mov (.tmp 1), none⟩,
            ⟨some 10, .lenl (.tmp 9), none⟩,
            ⟨some 11, .bin .neq 3 (.tmp 8) (.tmp 10), none⟩] [7, 8, 9, 10])
        (.cond (.tmp 11)
          (.seq
            (.region false [
                ⟨some 4, .mov (.const (.bool false)), none⟩] [0, 1, 11])
            .ret)
          .skip))
      (.seq
        (.seq
          (.region false [
              ⟨some 5, .mov (.const (.int .i64 0)), none⟩] [11])
          (.block 0
            (.loop
              (.seq
                (.seq
                  (.region false [
                      ⟨some 12, .mov (.tmp 5), none⟩,
                      ⟨some 13, .mov (.tmp 0), none⟩,
                      ⟨some 14, .lenl (.tmp 13), none⟩,
                      ⟨some 15, .bin .lss 3 (.tmp 12) (.tmp 14), none⟩] [12, 13, 14])
                  (.cond (.tmp 15)
                    .skip
                    (.exit 0)))
                (.seq
                  (.block 1
                    (.seq
                      (.region true [
                          ⟨some 18, .mov (.tmp 0), none⟩,
                          ⟨some 19, .mov (.tmp 5), none⟩,
                          ⟨some 20, .iaddr 1 (.tmp 18) (.tmp 19), none⟩,
                          ⟨some 21, .load false 1 (.tmp 20), none⟩,
                          ⟨some 22, .mov (.tmp 1), none⟩,
                          ⟨some 23, .mov (.tmp 5), none⟩,
                          ⟨some 24, .iaddr 1 (.tmp 22) (.tmp 23), none⟩,
                          ⟨some 25, .load false 1 (.tmp 24), none⟩,
                          ⟨some 26, .bin .eql 9 (.tmp 21) (.tmp 25), none⟩,
                          ⟨some 6, .mov (.tmp 26), none⟩] [15, 18, 19, 20, 21, 22, 23, 24, 25, 26])
                      (.seq
                        (.region false [
                            ⟨some 27, .mov (.tmp 6), none⟩,
                            ⟨some 28, .un .not (.tmp 27), none⟩] [6, 27])
                        (.cond (.tmp 28)
                          (.seq
                            (.region false [
                                ⟨some 4, .mov (.const (.bool false)), none⟩] [0, 1, 5, 28])
                            .ret)
                          .skip))) [28])
                  (.region false [
                      ⟨some 16, .mov (.tmp 5), none⟩,
                      ⟨some 17, .bin .add 3 (.tmp 16) (.const (.int .i64 1)), none⟩,
                      ⟨some 5, .mov (.tmp 17), none⟩] [16, 17]))) [] []) [0, 1, 5, 15]))
        (.seq
          (.region false [
              ⟨some 4, .mov (.const (.bool true)), none⟩] [])
          .ret))))
abbrev v_rivuletref_SameTexts : List RV := [.tmp 4]
abbrev f_rivuletref_SameTexts : FuncId := 26
theorem k_rivuletref_SameTexts : closedOf Tryd.prog Tryd.f26 = (false, some true, some v_rivuletref_SameTexts, some c_rivuletref_SameTexts.plain, 29) := by kernel_rfl
theorem ac_rivuletref_SameTexts {args : List AV} {r : AV} (h : aw Tryd.prog c_rivuletref_SameTexts (env0 args) (endQ v_rivuletref_SameTexts r)) (hargs : args.length ≤ 29 := by decide) (hok : resOK r = true := by rfl) : AC Tryd.prog f_rivuletref_SameTexts args r :=
  AC_mk (by kernel_rfl) Tryd.func26 k_rivuletref_SameTexts hargs hok (by decide) h

/-- rivulet/lex.Number (function 27) -/
def c_lex_Number : ACode :=
  (.seq
    (.region false [
        ⟨some 4, .mov (.const (.int .i64 0)), none⟩,
        ⟨some 5, .mov (.const (.nilIface)), none⟩] [4, 5])
    (.seq
      (.region false [
          ⟨some 9, .mov (.tmp 0), none⟩,
          ⟨some 10, .callm 54 [.tmp 9], none⟩,
          ⟨some 8, .mov (.tmp 10), none⟩,
          ⟨some 11, .ext (.tmp 8) 0, none⟩,
          ⟨some 12, .ext (.tmp 8) 1, none⟩,
          ⟨some 6, .mov (.tmp 11), none⟩,
          ⟨some 7, .mov (.tmp 12), none⟩] [8, 9, 10, 11, 12])
      (.seq
        (.block 0
          (.seq
            (.region false [
                ⟨some 14, .mov (.tmp 0), none⟩,
                ⟨some 15, .lens (.tmp 14), none⟩,
                ⟨some 16, .bin .gtr 3 (.tmp 15) (.const (.int .i64 9)), none⟩,
                ⟨some 17, .mov (.tmp 16), none⟩,
                ⟨some 18, .mov (.tmp 7), (some (17, false))⟩,
                ⟨some 19, .eqn true (.tmp 18), (some (17, false))⟩,
                ⟨some 20, .pick (.tmp 17) (.const (.bool true)) (.tmp 19), none⟩,
                ⟨some 21, .mov (.tmp 20), none⟩,
                ⟨some 22, .mov (.tmp 6), (some (21, false))⟩,
                ⟨some 23, .bin .lss 3 (.tmp 22) (.const (.int .i64 0)), (some (21, false))⟩,
                ⟨some 24, .pick (.tmp 21) (.const (.bool true)) (.tmp 23), none⟩,
                ⟨some 25, .mov (.tmp 24), none⟩,
                ⟨some 26, .mov (.tmp 6), (some (25, false))⟩,
                ⟨some 27, .callm 53 [.tmp 26], (some (25, false))⟩,
                ⟨some 28, .mov (.tmp 0), (some (25, false))⟩,
                ⟨some 29, .bin .neq 9 (.tmp 27) (.tmp 28), (some (25, false))⟩,
                ⟨some 30, .pick (.tmp 25) (.const (.bool true)) (.tmp 29), none⟩,
                ⟨some 13, .mov (.tmp 30), none⟩] [0, 7, 14, 15, 16, 17, 18, 19, 20, 21, 22, 23, 24, 25, 26, 27, 28, 29, 30])
            (.cond (.tmp 13)
              (.seq
                (.region true [
                    ⟨some 31, .load false 1 (.global 2), none⟩,
                    ⟨some 4, .mov (.const (.int .i64 0)), none⟩,
                    ⟨some 5, .mov (.tmp 31), none⟩] [1, 6, 13, 31])
                .ret)
              (.seq
                (.region false [
                    ⟨some 33, .mov (.tmp 6), none⟩,
                    ⟨some 34, .mov (.tmp 1), none⟩,
                    ⟨some 35, .bin .gtr 3 (.tmp 33) (.tmp 34), none⟩,
                    ⟨some 32, .mov (.tmp 35), none⟩] [1, 13, 33, 34, 35])
                (.cond (.tmp 32)
                  (.seq
                    (.region true [
                        ⟨some 36, .load false 1 (.global 3), none⟩,
                        ⟨some 4, .mov (.const (.int .i64 0)), none⟩,
                        ⟨some 5, .mov (.tmp 36), none⟩] [6, 32, 36])
                    .ret)
                  .skip)))) [32])
        (.seq
          (.region false [
              ⟨some 37, .mov (.tmp 6), none⟩,
              ⟨some 4, .mov (.tmp 37), none⟩,
              ⟨some 5, .mov (.const (.nilIface)), none⟩] [6, 37])
          .ret))))
abbrev v_lex_Number : List RV := [.tmp 4, .tmp 5]
abbrev f_lex_Number : FuncId := 27
theorem k_lex_Number : closedOf Tryd.prog Tryd.f27 = (false, some true, some v_lex_Number, some c_lex_Number.plain, 38) := by kernel_rfl
theorem ac_lex_Number {args : List AV} {r : AV} (h : aw Tryd.prog c_lex_Number (env0 args) (endQ v_lex_Number r)) (hargs : args.length ≤ 38 := by decide) (hok : resOK r = true := by rfl) : AC Tryd.prog f_lex_Number args r :=
  AC_mk (by kernel_rfl) Tryd.func27 k_lex_Number hargs hok (by decide) h

/-- rivulet/rivuletref5.Lines (function 28) -/
def c_rivuletref5_Lines : ACode :=
  (.seq
    (.region false [
        ⟨some 2, .mov (.const (.slice none 0 0)), none⟩,
        ⟨some 3, .mov (.const (.int .i64 0)), none⟩] [2, 3])
    (.seq
      (.seq
        (.region false [
            ⟨some 11, .mov (.tmp 0), none⟩,
            ⟨some 12, .lens (.tmp 11), none⟩,
            ⟨some 13, .bin .gtr 3 (.tmp 12) (.const (.int .i64 16384)), none⟩] [11, 12])
        (.cond (.tmp 13)
          (.seq
            (.region false [
                ⟨some 2, .mov (.const (.slice none 0 0)), none⟩,
                ⟨some 3, .mov (.const (.int .i64 104)), none⟩] [0, 13])
            .ret)
          .skip))
      (.seq
        (.region false [
            ⟨some 4, .mov (.const (.slice none 0 0)), none⟩] [13])
        (.seq
          (.region false [
              ⟨some 5, .mov (.const (.int .i64 1)), none⟩] [])
          (.seq
            (.region false [
                ⟨some 6, .mov (.const (.slice none 0 0)), none⟩] [])
            (.seq
              (.region false [
                  ⟨some 7, .mov (.const (.string ⟨#[]⟩)), none⟩] [])
              (.seq
                (.region false [
                    ⟨some 8, .mov (.const (.bool false)), none⟩] [])
                (.seq
                  (.seq
                    (.region false [
                        ⟨some 9, .mov (.const (.int .i64 0)), none⟩] [])
                    (.block 0
                      (.loop
                        (.seq
                          (.seq
                            (.region false [
                                ⟨some 14, .mov (.tmp 9), none⟩,
                                ⟨some 15, .mov (.tmp 0), none⟩,
                                ⟨some 16, .lens (.tmp 15), none⟩,
                                ⟨some 17, .bin .leq 3 (.tmp 14) (.tmp 16), none⟩] [14, 15, 16])
                            (.cond (.tmp 17)
                              .skip
                              (.exit 0)))
                          (.seq
                            (.block 1
                              (.seq
                                (.region false [
                                    ⟨some 10, .mov (.const (.int .u8 10)), none⟩] [17])
                                (.seq
                                  (.seq
                                    (.region false [
                                        ⟨some 20, .mov (.tmp 9), none⟩,
                                        ⟨some 21, .mov (.tmp 0), none⟩,
                                        ⟨some 22, .lens (.tmp 21), none⟩,
                                        ⟨some 23, .bin .lss 3 (.tmp 20) (.tmp 22), none⟩] [20, 21, 22])
                                    (.cond (.tmp 23)
                                      (.region false [
                                          ⟨some 24, .mov (.tmp 0), none⟩,
                                          ⟨some 25, .mov (.tmp 9), none⟩,
                                          ⟨some 26, .idxs (.tmp 24) (.tmp 25), none⟩,
                                          ⟨some 10, .mov (.tmp 26), none⟩] [23, 24, 25, 26])
                                      .skip))
                                  (.seq
                                    (.region false [
                                        ⟨some 27, .mov (.tmp 8), none⟩,
                                        ⟨some 28, .mov (.tmp 27), none⟩,
                                        ⟨some 29, .mov (.tmp 10), (some (28, false))⟩,
                                        ⟨some 30, .bin .eql 5 (.tmp 29) (.const (.int .u8 35)), (some (28, false))⟩,
                                        ⟨some 31, .pick (.tmp 28) (.const (.bool true)) (.tmp 30), none⟩,
                                        ⟨some 8, .mov (.tmp 31), none⟩] [23, 27, 28, 29, 30, 31])
                                    (.seq
                                      (.seq
                                        (.region false [
                                            ⟨some 32, .mov (.tmp 10), none⟩,
                                            ⟨some 33, .bin .neq 5 (.tmp 32) (.const (.int .u8 10)), none⟩,
                                            ⟨some 34, .mov (.tmp 33), none⟩,
                                            ⟨some 35, .mov (.tmp 10), (some (34, true))⟩,
                                            ⟨some 36, .bin .neq 5 (.tmp 35) (.const (.int .u8 32)), (some (34, true))⟩,
                                            ⟨some 37, .pick (.tmp 34) (.tmp 36) (.const (.bool false)), none⟩,
                                            ⟨some 38, .mov (.tmp 37), none⟩,
                                            ⟨some 39, .mov (.tmp 10), (some (38, true))⟩,
                                            ⟨some 40, .bin .neq 5 (.tmp 39) (.const (.int .u8 9)), (some (38, true))⟩,
                                            ⟨some 41, .pick (.tmp 38) (.tmp 40) (.const (.bool false)), none⟩,
                                            ⟨some 42, .mov (.tmp 41), none⟩,
                                            ⟨some 43, .mov (.tmp 10), (some (42, true))⟩,
                                            ⟨some 44, .bin .neq 5 (.tmp 43) (.const (.int .u8 13)), (some (42, true))⟩,
                                            ⟨some 45, .pick (.tmp 42) (.tmp 44) (.const (.bool false)), none⟩,
                                            ⟨some 46, .mov (.tmp 45), none⟩,
                                            ⟨some 47, .mov (.tmp 8), (some (46, true))⟩,
                                            ⟨some 48, .un .not (.tmp 47), (some (46, true))⟩,
                                            ⟨some 49, .pick (.tmp 46) (.tmp 48) (.const (.bool false)), none⟩] [32, 33, 34, 35, 36, 37, 38, 39, 40, 41, 42, 43, 44, 45, 46, 47, 48])
                                        (.cond (.tmp 49)
                                          (.seq
                                            (.region false [
                                                ⟨some 50, .mov (.tmp 7), none⟩,
                                                ⟨some 51, .mov (.tmp 0), none⟩,
                                                ⟨some 52, .mov (.tmp 9), none⟩,
                                                ⟨some 53, .mov (.tmp 9), none⟩,
                                                ⟨some 54, .bin .add 3 (.tmp 53) (.const (.int .i64 1)), none⟩,
                                                ⟨some 55, .slcs (.tmp 51) (some (.tmp 52)) (some (.tmp 54)), none⟩,
                                                ⟨some 56, .bin .add 9 (.tmp 50) (.tmp 55), none⟩,
                                                ⟨some 7, .mov (.tmp 56), none⟩] [10, 49, 50, 51, 52, 53, 54, 55, 56])
                                            (.exit 1))
                                          .skip))
                                      (.seq
                                        (.seq
                                          (.region false [
                                              ⟨some 57, .mov (.tmp 7), none⟩,
                                              ⟨some 58, .bin .neq 9 (.tmp 57) (.const (.string ⟨#[]⟩)), none⟩] [49, 57])
                                          (.cond (.tmp 58)
                                            (.seq
                                              (.region false [
                                                  ⟨some 59, .mov (.tmp 6), none⟩,
                                                  ⟨some 60, .mov (.tmp 7), none⟩,
                                                  ⟨some 61, .bslice 1 1 [.tmp 60], none⟩,
                                                  ⟨some 62, .app 1 16 [] (.tmp 59) (.tmp 61), none⟩,
                                                  ⟨some 6, .mov (.tmp 62), none⟩] [7, 58, 59, 60, 61, 62])
                                              (.region false [
                                                  ⟨some 7, .mov (.const (.string ⟨#[]⟩)), none⟩] []))
                                            .skip))
                                        (.seq
                                          (.region false [
                                              ⟨some 63, .mov (.tmp 10), none⟩,
                                              ⟨some 64, .bin .eql 5 (.tmp 63) (.const (.int .u8 10)), none⟩] [10, 58, 63])
                                          (.cond (.tmp 64)
                                            (.seq
                                              (.seq
                                                (.region false [
                                                    ⟨some 65, .mov (.tmp 6), none⟩,
                                                    ⟨some 66, .lenl (.tmp 65), none⟩,
                                                    ⟨some 67, .bin .gtr 3 (.tmp 66) (.const (.int .i64 0)), none⟩] [8, 64, 65, 66])
                                                (.cond (.tmp 67)
                                                  (.region false [
                                                      ⟨some 68, .mov (.tmp 4), none⟩,
                                                      ⟨some 69, .mov (.tmp 5), none⟩,
                                                      ⟨some 70, .mov (.tmp 6), none⟩,
                                                      ⟨some 71, .build [.lit (.int .i64 0), .sl .nil 0 []] [(0, 1, .tmp 69), (1, 1, .tmp 70)], none⟩,
                                                      ⟨some 72, .bslice 1 2 [.tmp 71], none⟩,
                                                      ⟨some 73, .app 2 32 [] (.tmp 68) (.tmp 72), none⟩,
                                                      ⟨some 4, .mov (.tmp 73), none⟩] [6, 67, 68, 69, 70, 71, 72, 73])
                                                  .skip))
                                              (.seq
                                                (.region false [
                                                    ⟨some 6, .mov (.const (.slice none 0 0)), none⟩] [67])
                                                (.seq
                                                  (.region false [
                                                      ⟨some 8, .mov (.const (.bool false)), none⟩] [])
                                                  (.region false [
                                                      ⟨some 74, .mov (.tmp 5), none⟩,
                                                      ⟨some 75, .bin .add 3 (.tmp 74) (.const (.int .i64 1)), none⟩,
                                                      ⟨some 5, .mov (.tmp 75), none⟩] [74, 75]))))
                                            .skip))))))) [64])
                            (.region false [
                                ⟨some 18, .mov (.tmp 9), none⟩,
                                ⟨some 19, .bin .add 3 (.tmp 18) (.const (.int .i64 1)), none⟩,
                                ⟨some 9, .mov (.tmp 19), none⟩] [18, 19]))) [] []) [0, 5, 6, 7, 8, 9, 17]))
                  (.seq
                    (.region false [
                        ⟨some 76, .mov (.tmp 4), none⟩,
                        ⟨some 2, .mov (.tmp 76), none⟩,
                        ⟨some 3, .mov (.const (.int .i64 0)), none⟩] [4, 76])
                    .ret)))))))))
abbrev v_rivuletref5_Lines : List RV := [.tmp 2, .tmp 3]
abbrev f_rivuletref5_Lines : FuncId := 28
theorem k_rivuletref5_Lines : closedOf Tryd.prog Tryd.f28 = (false, some true, some v_rivuletref5_Lines, some c_rivuletref5_Lines.plain, 77) := by kernel_rfl
theorem ac_rivuletref5_Lines {args : List AV} {r : AV} (h : aw Tryd.prog c_rivuletref5_Lines (env0 args) (endQ v_rivuletref5_Lines r)) (hargs : args.length ≤ 77 := by decide) (hok : resOK r = true := by rfl) : AC Tryd.prog f_rivuletref5_Lines args r :=
  AC_mk (by kernel_rfl) Tryd.func28 k_rivuletref5_Lines hargs hok (by decide) h

/-- rivulet/rivuletref5.Number (function 29) -/
def c_rivuletref5_Number : ACode :=
  (.seq
    (.region false [
        ⟨some 4, .mov (.const (.int .i64 0)), none⟩,
        ⟨some 5, .mov (.const (.int .i64 0)), none⟩] [4, 5])
    (.seq
      (.region false [
          ⟨some 7, .mov (.tmp 0), none⟩,
          ⟨some 8, .callm 55 [.tmp 7, .const (.int .i64 9)], none⟩,
          ⟨some 6, .mov (.tmp 8), none⟩] [0, 7, 8])
      (.seq
        (.seq
          (.region false [
              ⟨some 9, .mov (.tmp 6), none⟩,
              ⟨some 10, .bin .lss 3 (.tmp 9) (.const (.int .i64 0)), none⟩] [9])
          (.cond (.tmp 10)
            (.seq
              (.region false [
                  ⟨some 4, .mov (.const (.int .i64 0)), none⟩,
                  ⟨some 5, .mov (.const (.int .i64 107)), none⟩] [1, 6, 10])
              .ret)
            .skip))
        (.seq
          (.seq
            (.region false [
                ⟨some 11, .mov (.tmp 6), none⟩,
                ⟨some 12, .mov (.tmp 1), none⟩,
                ⟨some 13, .bin .gtr 3 (.tmp 11) (.tmp 12), none⟩] [1, 10, 11, 12])
            (.cond (.tmp 13)
              (.seq
                (.region false [
                    ⟨some 4, .mov (.const (.int .i64 0)), none⟩,
                    ⟨some 5, .mov (.const (.int .i64 103)), none⟩] [6, 13])
                .ret)
              .skip))
          (.seq
            (.region false [
                ⟨some 14, .mov (.tmp 6), none⟩,
                ⟨some 4, .mov (.tmp 14), none⟩,
                ⟨some 5, .mov (.const (.int .i64 0)), none⟩] [6, 13, 14])
            .ret)))))
abbrev v_rivuletref5_Number : List RV := [.tmp 4, .tmp 5]
abbrev f_rivuletref5_Number : FuncId := 29
theorem k_rivuletref5_Number : closedOf Tryd.prog Tryd.f29 = (false, some true, some v_rivuletref5_Number, some c_rivuletref5_Number.plain, 15) := by kernel_rfl
theorem ac_rivuletref5_Number {args : List AV} {r : AV} (h : aw Tryd.prog c_rivuletref5_Number (env0 args) (endQ v_rivuletref5_Number r)) (hargs : args.length ≤ 15 := by decide) (hok : resOK r = true := by rfl) : AC Tryd.prog f_rivuletref5_Number args r :=
  AC_mk (by kernel_rfl) Tryd.func29 k_rivuletref5_Number hargs hok (by decide) h

/-- rivulet/rivuletref5.Name (function 30) -/
def c_rivuletref5_Name : ACode :=
  (.seq
    (.region false [
        ⟨some 2, .mov (.const (.int .i64 0)), none⟩] [2])
    (.seq
      (.region false [
          ⟨some 6, .mov (.tmp 0), none⟩,
          ⟨some 7, .lens (.tmp 6), none⟩,
          ⟨some 8, .bin .geq 3 (.tmp 7) (.const (.int .i64 1)), none⟩,
          ⟨some 9, .mov (.tmp 8), none⟩,
          ⟨some 10, .mov (.tmp 0), (some (9, true))⟩,
          ⟨some 11, .lens (.tmp 10), (some (9, true))⟩,
          ⟨some 12, .bin .leq 3 (.tmp 11) (.const (.int .i64 12)), (some (9, true))⟩,
          ⟨some 13, .pick (.tmp 9) (.tmp 12) (.const (.bool false)), none⟩,
          ⟨some 14, .mov (.tmp 13), none⟩,
          ⟨some 15, .mov (.tmp 0), (some (14, true))⟩,
          ⟨some 16, .idxs (.tmp 15) (.const (.int .i64 0)), (some (14, true))⟩,
          ⟨some 17, .bin .geq 5 (.tmp 16) (.const (.int .u8 97)), (some (14, true))⟩,
          ⟨some 18, .pick (.tmp 14) (.tmp 17) (.const (.bool false)), none⟩,
          ⟨some 19, .mov (.tmp 18), none⟩,
          ⟨some 20, .mov (.tmp 0), (some (19, true))⟩,
          ⟨some 21, .idxs (.tmp 20) (.const (.int .i64 0)), (some (19, true))⟩,
          ⟨some 22, .bin .leq 5 (.tmp 21) (.const (.int .u8 122)), (some (19, true))⟩,
          ⟨some 23, .pick (.tmp 19) (.tmp 22) (.const (.bool false)), none⟩,
          ⟨some 3, .mov (.tmp 23), none⟩] [6, 7, 8, 9, 10, 11, 12, 13, 14, 15, 16, 17, 18, 19, 20, 21, 22, 23])
      (.seq
        (.seq
          (.region false [
              ⟨some 4, .mov (.const (.int .i64 0)), none⟩] [])
          (.block 0
            (.loop
              (.seq
                (.seq
                  (.region false [
                      ⟨some 24, .mov (.tmp 4), none⟩,
                      ⟨some 25, .mov (.tmp 0), none⟩,
                      ⟨some 26, .lens (.tmp 25), none⟩,
                      ⟨some 27, .bin .lss 3 (.tmp 24) (.tmp 26), none⟩] [24, 25, 26])
                  (.cond (.tmp 27)
                    .skip
                    (.exit 0)))
                (.seq
                  (.block 1
                    (.seq
                      (.region false [
                          ⟨some 30, .mov (.tmp 0), none⟩,
                          ⟨some 31, .mov (.tmp 4), none⟩,
                          ⟨some 32, .idxs (.tmp 30) (.tmp 31), none⟩,
                          ⟨some 5, .mov (.tmp 32), none⟩] [27, 30, 31, 32])
                      (.region false [
                          ⟨some 33, .mov (.tmp 3), none⟩,
                          ⟨some 34, .mov (.tmp 33), none⟩,
                          ⟨some 35, .mov (.tmp 5), (some (34, true))⟩,
                          ⟨some 36, .bin .geq 5 (.tmp 35) (.const (.int .u8 97)), (some (34, true))⟩,
                          ⟨some 37, .mov (.tmp 36), (some (34, true))⟩,
                          ⟨some 38, .mov (.tmp 5), (some (37, true))⟩,
                          ⟨some 39, .bin .leq 5 (.tmp 38) (.const (.int .u8 122)), (some (37, true))⟩,
                          ⟨some 40, .pick (.tmp 37) (.tmp 39) (.const (.bool false)), (some (34, true))⟩,
                          ⟨some 41, .mov (.tmp 40), (some (34, true))⟩,
                          ⟨some 42, .mov (.tmp 5), (some (41, false))⟩,
                          ⟨some 43, .bin .geq 5 (.tmp 42) (.const (.int .u8 48)), (some (41, false))⟩,
                          ⟨some 44, .mov (.tmp 43), (some (41, false))⟩,
                          ⟨some 45, .mov (.tmp 5), (some (44, true))⟩,
                          ⟨some 46, .bin .leq 5 (.tmp 45) (.const (.int .u8 57)), (some (44, true))⟩,
                          ⟨some 47, .pick (.tmp 44) (.tmp 46) (.const (.bool false)), (some (41, false))⟩,
                          ⟨some 48, .pick (.tmp 41) (.const (.bool true)) (.tmp 47), (some (34, true))⟩,
                          ⟨some 49, .mov (.tmp 48), (some (34, true))⟩,
                          ⟨some 50, .mov (.tmp 5), (some (49, false))⟩,
                          ⟨some 51, .bin .eql 5 (.tmp 50) (.const (.int .u8 45)), (some (49, false))⟩,
                          ⟨some 52, .pick (.tmp 49) (.const (.bool true)) (.tmp 51), (some (34, true))⟩,
                          ⟨some 53, .pick (.tmp 34) (.tmp 52) (.const (.bool false)), none⟩,
                          ⟨some 3, .mov (.tmp 53), none⟩] [5, 33, 34, 35, 36, 37, 38, 39, 40, 41, 42, 43, 44, 45, 46, 47, 48, 49, 50, 51, 52, 53])) [])
                  (.region false [
                      ⟨some 28, .mov (.tmp 4), none⟩,
                      ⟨some 29, .bin .add 3 (.tmp 28) (.const (.int .i64 1)), none⟩,
                      ⟨some 4, .mov (.tmp 29), none⟩] [28, 29]))) [] []) [0, 4, 27]))
        (.seq
          (.seq
            (.region false [
                ⟨some 54, .mov (.tmp 3), none⟩,
                ⟨some 55, .un .not (.tmp 54), none⟩] [3, 54])
            (.cond (.tmp 55)
              (.seq
                (.region false [
                    ⟨some 2, .mov (.const (.int .i64 109)), none⟩] [55])
                .ret)
              .skip))
          (.seq
            (.region false [
                ⟨some 2, .mov (.const (.int .i64 0)), none⟩] [55])
            .ret)))))
abbrev v_rivuletref5_Name : List RV := [.tmp 2]
abbrev f_rivuletref5_Name : FuncId := 30
theorem k_rivuletref5_Name : closedOf Tryd.prog Tryd.f30 = (false, some true, some v_rivuletref5_Name, some c_rivuletref5_Name.plain, 56) := by kernel_rfl
theorem ac_rivuletref5_Name {args : List AV} {r : AV} (h : aw Tryd.prog c_rivuletref5_Name (env0 args) (endQ v_rivuletref5_Name r)) (hargs : args.length ≤ 56 := by decide) (hok : resOK r = true := by rfl) : AC Tryd.prog f_rivuletref5_Name args r :=
  AC_mk (by kernel_rfl) Tryd.func30 k_rivuletref5_Name hargs hok (by decide) h

/-- rivulet/addr.ParsePrefix (function 31) -/
def c_addr_ParsePrefix : ACode :=
  (.seq
    (.region false [
        ⟨some 2, .alloc [.lit (.int .u32 0), .lit (.int .i64 0)], none⟩,
        ⟨some 3, .mov (.const (.nilIface)), none⟩] [3])
    (.seq
      (.region false [
          ⟨some 13, .mov (.tmp 0), none⟩,
          ⟨some 14, .callm 47 [.tmp 13, .const (.string ⟨#[47]⟩)], none⟩,
          ⟨some 12, .mov (.tmp 14), none⟩,
          ⟨some 15, .ext (.tmp 12) 0, none⟩,
          ⟨some 16, .ext (.tmp 12) 1, none⟩,
          ⟨some 17, .ext (.tmp 12) 2, none⟩,
          ⟨some 4, .mov (.tmp 15), none⟩,
          ⟨some 5, .mov (.tmp 16), none⟩,
          ⟨some 6, .mov (.tmp 17), none⟩] [0, 6, 12, 13, 14, 15, 16, 17])
      (.seq
        (.region false [
            ⟨some 19, .mov (.tmp 4), none⟩,
            ⟨some 20, .callm 56 [.tmp 19], none⟩,
            ⟨some 18, .mov (.tmp 20), none⟩,
            ⟨some 21, .ext (.tmp 18) 0, none⟩,
            ⟨some 22, .ext (.tmp 18) 1, none⟩,
            ⟨some 7, .mov (.tmp 21), none⟩,
            ⟨some 8, .mov (.tmp 22), none⟩] [4, 18, 19, 20, 21, 22])
        (.seq
          (.region false [
              ⟨some 24, .mov (.tmp 5), none⟩,
              ⟨some 25, .callm 57 [.tmp 24, .const (.int .i64 32)], none⟩,
              ⟨some 23, .mov (.tmp 25), none⟩,
              ⟨some 26, .ext (.tmp 23) 0, none⟩,
              ⟨some 27, .ext (.tmp 23) 1, none⟩,
              ⟨some 9, .mov (.tmp 26), none⟩,
              ⟨some 10, .mov (.tmp 27), none⟩] [5, 23, 24, 25, 26, 27])
          (.seq
            (.region false [
                ⟨some 28, .mov (.tmp 7), none⟩,
                ⟨some 29, .mov (.tmp 9), none⟩,
                ⟨some 30, .build [.lit (.int .u32 0), .lit (.int .i64 0)] [(0, 1, .tmp 28), (1, 1, .tmp 29)], none⟩,
                ⟨some 11, .alloc [.lit (.int .u32 0), .lit (.int .i64 0)], none⟩,
                ⟨none, .store 2 (.tmp 11) (.tmp 30), none⟩] [7, 9, 28, 29, 30])
            (.seq
              (.seq
                (.region false [
                    ⟨some 31, .mov (.tmp 8), none⟩,
                    ⟨some 32, .un .not (.tmp 31), none⟩,
                    ⟨some 33, .mov (.tmp 32), none⟩,
                    ⟨some 34, .mov (.tmp 10), (some (33, false))⟩,
                    ⟨some 35, .un .not (.tmp 34), (some (33, false))⟩,
                    ⟨some 36, .pick (.tmp 33) (.const (.bool true)) (.tmp 35), none⟩,
                    ⟨some 37, .mov (.tmp 36), none⟩,
                    ⟨some 38, .load true 2 (.tmp 11), (some (37, false))⟩,
                    ⟨some 39, .callm 33 [.tmp 38], (some (37, false))⟩,
                    ⟨some 40, .un .not (.tmp 39), (some (37, false))⟩,
                    ⟨some 41, .pick (.tmp 37) (.const (.bool true)) (.tmp 40), none⟩] [8, 10, 31, 32, 33, 34, 35, 36, 37, 38, 39, 40])
                (.cond (.tmp 41)
                  (.seq
                    (.region true [
                        ⟨some 42, .build [.lit (.int .u32 0), .lit (.int .i64 0)] [], none⟩,
                        ⟨some 43, .load false 1 (.global 4), none⟩,
                        ⟨none, .store 2 (.tmp 2) (.tmp 42), none⟩,
                        ⟨some 3, .mov (.tmp 43), none⟩] [11, 41, 42, 43])
                    .ret)
                  .skip))
              (.seq
                (.region false [
                    ⟨some 44, .load true 2 (.tmp 11), none⟩,
                    ⟨none, .store 2 (.tmp 2) (.tmp 44), none⟩,
                    ⟨some 3, .mov (.const (.nilIface)), none⟩] [11, 41, 44])
                .ret)))))))
abbrev v_addr_ParsePrefix : List RV := [.cell true 2 2, .tmp 3]
abbrev f_addr_ParsePrefix : FuncId := 31
theorem k_addr_ParsePrefix : closedOf Tryd.prog Tryd.f31 = (false, some true, some v_addr_ParsePrefix, some c_addr_ParsePrefix.plain, 45) := by kernel_rfl
theorem ac_addr_ParsePrefix {args : List AV} {r : AV} (h : aw Tryd.prog c_addr_ParsePrefix (env0 args) (endQ v_addr_ParsePrefix r)) (hargs : args.length ≤ 45 := by decide) (hok : resOK r = true := by rfl) : AC Tryd.prog f_addr_ParsePrefix args r :=
  AC_mk (by kernel_rfl) Tryd.func31 k_addr_ParsePrefix hargs hok (by decide) h

/-- rivulet/addr.Text (function 32) -/
def c_addr_Text : ACode :=
  (.seq
    (.region false [
        ⟨some 2, .mov (.const (.string ⟨#[]⟩)), none⟩] [2])
    (.seq
      (.region false [
          ⟨some 3, .mov (.const (.slice none 0 0)), none⟩] [])
      (.seq
        (.seq
          (.region false [
              ⟨some 6, .mov (.tmp 0), none⟩,
              ⟨some 7, .callm 15 [.tmp 6], none⟩,
              ⟨some 8, .mov (.const (.int .i64 0)), none⟩] [0, 6])
          (.block 0
            (.loop
              (.seq
                (.region false [
                    ⟨some 9, .bin .lss 3 (.tmp 8) (.const (.int .i64 4)), none⟩] [])
                (.seq
                  (.cond (.tmp 9)
                    .skip
                    (.exit 0))
                  (.seq
                    (.block 1
                      (.seq
                        (.region false [
                            ⟨some 10, .idxa false 4 1 (.tmp 7) (.tmp 8), none⟩,
                            ⟨some 5, .mov (.tmp 10), none⟩] [9, 10])
                        (.region false [
                            ⟨some 11, .mov (.tmp 3), none⟩,
                            ⟨some 12, .mov (.tmp 5), none⟩,
                            ⟨some 13, .cint .i64 (.tmp 12), none⟩,
                            ⟨some 14, .callm 53 [.tmp 13], none⟩,
                            ⟨some 15, .bslice 1 1 [.tmp 14], none⟩,
                            ⟨some 16, .app 1 16 [] (.tmp 11) (.tmp 15), none⟩,
                            ⟨some 3, .mov (.tmp 16), none⟩] [5, 11, 12, 13, 14, 15, 16])) [])
                    (.region false [
                        ⟨some 17, .bin .add 3 (.tmp 8) (.const (.int .i64 1)), none⟩,
                        ⟨some 8, .mov (.tmp 17), none⟩] [17])))) [] []) [7, 8, 9]))
        (.seq
          (.region false [
              ⟨some 18, .mov (.tmp 3), none⟩,
              ⟨some 19, .callm 58 [.tmp 18, .const (.string ⟨#[46]⟩)], none⟩,
              ⟨some 2, .mov (.tmp 19), none⟩] [3, 18, 19])
          .ret))))
abbrev v_addr_Text : List RV := [.tmp 2]
abbrev f_addr_Text : FuncId := 32
theorem k_addr_Text : closedOf Tryd.prog Tryd.f32 = (false, some true, some v_addr_Text, some c_addr_Text.plain, 20) := by kernel_rfl
theorem ac_addr_Text {args : List AV} {r : AV} (h : aw Tryd.prog c_addr_Text (env0 args) (endQ v_addr_Text r)) (hargs : args.length ≤ 20 := by decide) (hok : resOK r = true := by rfl) : AC Tryd.prog f_addr_Text args r :=
  AC_mk (by kernel_rfl) Tryd.func32 k_addr_Text hargs hok (by decide) h

/-- rivulet/addr.Valid (function 33) -/
def c_addr_Valid : ACode :=
  (.seq
    (.region false [
        ⟨some 1, .box (.tmp 0), none⟩,
        ⟨some 2, .mov (.const (.bool false)), none⟩] [0, 2])
    (.seq
      (.region true [
          ⟨some 3, .faddr 1 1 (.tmp 1), none⟩,
          ⟨some 4, .load false 1 (.tmp 3), none⟩,
          ⟨some 5, .bin .geq 3 (.tmp 4) (.const (.int .i64 0)), none⟩,
          ⟨some 6, .mov (.tmp 5), none⟩,
          ⟨some 7, .faddr 1 1 (.tmp 1), (some (6, true))⟩,
          ⟨some 8, .load false 1 (.tmp 7), (some (6, true))⟩,
          ⟨some 9, .bin .leq 3 (.tmp 8) (.const (.int .i64 32)), (some (6, true))⟩,
          ⟨some 10, .pick (.tmp 6) (.tmp 9) (.const (.bool false)), none⟩,
          ⟨some 11, .mov (.tmp 10), none⟩,
          ⟨some 12, .faddr 0 1 (.tmp 1), (some (11, true))⟩,
          ⟨some 13, .load false 1 (.tmp 12), (some (11, true))⟩,
          ⟨some 14, .faddr 1 1 (.tmp 1), (some (11, true))⟩,
          ⟨some 15, .load false 1 (.tmp 14), (some (11, true))⟩,
          ⟨some 16, .call 18 [.tmp 15], (some (11, true))⟩,
          ⟨some 17, .bin .andNot 23 (.tmp 13) (.tmp 16), (some (11, true))⟩,
          ⟨some 18, .bin .eql 23 (.tmp 17) (.const (.int .u32 0)), (some (11, true))⟩,
          ⟨some 19, .pick (.tmp 11) (.tmp 18) (.const (.bool false)), none⟩,
          ⟨some 2, .mov (.tmp 19), none⟩] [1, 3, 4, 5, 6, 7, 8, 9, 10, 11, 12, 13, 14, 15, 16, 17, 18, 19])
      .ret))
abbrev v_addr_Valid : List RV := [.tmp 2]
abbrev f_addr_Valid : FuncId := 33
theorem k_addr_Valid : closedOf Tryd.prog Tryd.f33 = (false, some true, some v_addr_Valid, some c_addr_Valid.plain, 20) := by kernel_rfl
theorem ac_addr_Valid {args : List AV} {r : AV} (h : aw Tryd.prog c_addr_Valid (env0 args) (endQ v_addr_Valid r)) (hargs : args.length ≤ 20 := by decide) (hok : resOK r = true := by rfl) : AC Tryd.prog f_addr_Valid args r :=
  AC_mk (by kernel_rfl) Tryd.func33 k_addr_Valid hargs hok (by decide) h

/-- rivulet/addr.Group (function 34) -/
def c_addr_Group : ACode :=
  (.seq
    (.region false [
        ⟨some 2, .mov (.const (.bool false)), none⟩] [2])
    (.seq
      (.region false [
          ⟨some 4, .mov (.tmp 0), none⟩,
          ⟨some 5, .callm 15 [.tmp 4], none⟩,
          ⟨some 3, .alloc [.lit (.int .u8 0), .lit (.int .u8 0), .lit (.int .u8 0), .lit (.int .u8 0)], none⟩,
          ⟨none, .store 4 (.tmp 3) (.tmp 5), none⟩] [0, 4, 5])
      (.seq
        (.region false [
            ⟨some 6, .iadra 4 1 (.tmp 3) (.const (.int .i64 0)), none⟩,
            ⟨some 7, .load false 1 (.tmp 6), none⟩,
            ⟨some 8, .bin .geq 5 (.tmp 7) (.const (.int .u8 224)), none⟩,
            ⟨some 9, .mov (.tmp 8), none⟩,
            ⟨some 10, .iadra 4 1 (.tmp 3) (.const (.int .i64 0)), (some (9, true))⟩,
            ⟨some 11, .load false 1 (.tmp 10), (some (9, true))⟩,
            ⟨some 12, .bin .leq 5 (.tmp 11) (.const (.int .u8 239)), (some (9, true))⟩,
            ⟨some 13, .pick (.tmp 9) (.tmp 12) (.const (.bool false)), none⟩,
            ⟨some 2, .mov (.tmp 13), none⟩] [3, 6, 7, 8, 9, 10, 11, 12, 13])
        .ret)))
abbrev v_addr_Group : List RV := [.tmp 2]
abbrev f_addr_Group : FuncId := 34
theorem k_addr_Group : closedOf Tryd.prog Tryd.f34 = (false, some true, some v_addr_Group, some c_addr_Group.plain, 14) := by kernel_rfl
theorem ac_addr_Group {args : List AV} {r : AV} (h : aw Tryd.prog c_addr_Group (env0 args) (endQ v_addr_Group r)) (hargs : args.length ≤ 14 := by decide) (hok : resOK r = true := by rfl) : AC Tryd.prog f_addr_Group args r :=
  AC_mk (by kernel_rfl) Tryd.func34 k_addr_Group hargs hok (by decide) h

/-- rivulet/rivuletref1.Valid (function 35) -/
def c_rivuletref1_Valid : ACode :=
  (.seq
    (.region false [
        ⟨some 1, .box (.tmp 0), none⟩,
        ⟨some 2, .mov (.const (.bool false)), none⟩] [0, 2])
    (.seq
      (.region true [
          ⟨some 3, .faddr 1 1 (.tmp 1), none⟩,
          ⟨some 4, .load false 1 (.tmp 3), none⟩,
          ⟨some 5, .bin .geq 3 (.tmp 4) (.const (.int .i64 0)), none⟩,
          ⟨some 6, .mov (.tmp 5), none⟩,
          ⟨some 7, .faddr 1 1 (.tmp 1), (some (6, true))⟩,
          ⟨some 8, .load false 1 (.tmp 7), (some (6, true))⟩,
          ⟨some 9, .bin .leq 3 (.tmp 8) (.const (.int .i64 32)), (some (6, true))⟩,
          ⟨some 10, .pick (.tmp 6) (.tmp 9) (.const (.bool false)), none⟩,
          ⟨some 11, .mov (.tmp 10), none⟩,
          ⟨some 12, .faddr 0 1 (.tmp 1), (some (11, true))⟩,
          ⟨some 13, .load false 1 (.tmp 12), (some (11, true))⟩,
          ⟨some 14, .faddr 1 1 (.tmp 1), (some (11, true))⟩,
          ⟨some 15, .load false 1 (.tmp 14), (some (11, true))⟩,
          ⟨some 16, .call 42 [.tmp 15], (some (11, true))⟩,
          ⟨some 17, .bin .andNot 23 (.tmp 13) (.tmp 16), (some (11, true))⟩,
          ⟨some 18, .bin .eql 23 (.tmp 17) (.const (.int .u32 0)), (some (11, true))⟩,
          ⟨some 19, .pick (.tmp 11) (.tmp 18) (.const (.bool false)), none⟩,
          ⟨some 2, .mov (.tmp 19), none⟩] [1, 3, 4, 5, 6, 7, 8, 9, 10, 11, 12, 13, 14, 15, 16, 17, 18, 19])
      .ret))
abbrev v_rivuletref1_Valid : List RV := [.tmp 2]
abbrev f_rivuletref1_Valid : FuncId := 35
theorem k_rivuletref1_Valid : closedOf Tryd.prog Tryd.f35 = (false, some true, some v_rivuletref1_Valid, some c_rivuletref1_Valid.plain, 20) := by kernel_rfl
theorem ac_rivuletref1_Valid {args : List AV} {r : AV} (h : aw Tryd.prog c_rivuletref1_Valid (env0 args) (endQ v_rivuletref1_Valid r)) (hargs : args.length ≤ 20 := by decide) (hok : resOK r = true := by rfl) : AC Tryd.prog f_rivuletref1_Valid args r :=
  AC_mk (by kernel_rfl) Tryd.func35 k_rivuletref1_Valid hargs hok (by decide) h

/-- rivulet/addr.Parse (function 36) -/
def c_addr_Parse : ACode :=
  (.seq
    (.region false [
        ⟨some 2, .mov (.const (.int .u32 0)), none⟩,
        ⟨some 3, .mov (.const (.nilIface)), none⟩] [2, 3])
    (.seq
      (.region false [
          ⟨some 7, .mov (.tmp 0), none⟩,
          ⟨some 8, .callm 56 [.tmp 7], none⟩,
          ⟨some 6, .mov (.tmp 8), none⟩,
          ⟨some 9, .ext (.tmp 6) 0, none⟩,
          ⟨some 10, .ext (.tmp 6) 1, none⟩,
          ⟨some 4, .mov (.tmp 9), none⟩,
          ⟨some 5, .mov (.tmp 10), none⟩] [0, 6, 7, 8, 9, 10])
      (.seq
        (.seq
          (.region false [
              ⟨some 11, .mov (.tmp 5), none⟩,
              ⟨some 12, .un .not (.tmp 11), none⟩] [5, 11])
          (.cond (.tmp 12)
            (.seq
              (.region true [
                  ⟨some 13, .load false 1 (.global 4), none⟩,
                  ⟨some 2, .mov (.const (.int .u32 0)), none⟩,
                  ⟨some 3, .mov (.tmp 13), none⟩] [4, 12, 13])
              .ret)
            .skip))
        (.seq
          (.region false [
              ⟨some 14, .mov (.tmp 4), none⟩,
              ⟨some 2, .mov (.tmp 14), none⟩,
              ⟨some 3, .mov (.const (.nilIface)), none⟩] [4, 12, 14])
          .ret))))
abbrev v_addr_Parse : List RV := [.tmp 2, .tmp 3]
abbrev f_addr_Parse : FuncId := 36
theorem k_addr_Parse : closedOf Tryd.prog Tryd.f36 = (false, some true, some v_addr_Parse, some c_addr_Parse.plain, 15) := by kernel_rfl
theorem ac_addr_Parse {args : List AV} {r : AV} (h : aw Tryd.prog c_addr_Parse (env0 args) (endQ v_addr_Parse r)) (hargs : args.length ≤ 15 := by decide) (hok : resOK r = true := by rfl) : AC Tryd.prog f_addr_Parse args r :=
  AC_mk (by kernel_rfl) Tryd.func36 k_addr_Parse hargs hok (by decide) h

/-- rivulet/addr.PrefixText (function 37) -/
def c_addr_PrefixText : ACode :=
  (.seq
    (.region false [
        ⟨some 1, .box (.tmp 0), none⟩,
        ⟨some 2, .mov (.const (.string ⟨#[]⟩)), none⟩] [0, 2])
    (.seq
      (.region true [
          ⟨some 3, .faddr 0 1 (.tmp 1), none⟩,
          ⟨some 4, .load false 1 (.tmp 3), none⟩,
          ⟨some 5, .call 32 [.tmp 4], none⟩,
          ⟨some 6, .bin .add 9 (.tmp 5) (.const (.string ⟨#[47]⟩)), none⟩,
          ⟨some 7, .faddr 1 1 (.tmp 1), none⟩,
          ⟨some 8, .load false 1 (.tmp 7), none⟩,
          ⟨some 9, .call 53 [.tmp 8], none⟩,
          ⟨some 10, .bin .add 9 (.tmp 6) (.tmp 9), none⟩,
          ⟨some 2, .mov (.tmp 10), none⟩] [1, 3, 4, 5, 6, 7, 8, 9, 10])
      .ret))
abbrev v_addr_PrefixText : List RV := [.tmp 2]
abbrev f_addr_PrefixText : FuncId := 37
theorem k_addr_PrefixText : closedOf Tryd.prog Tryd.f37 = (false, some true, some v_addr_PrefixText, some c_addr_PrefixText.plain, 11) := by kernel_rfl
theorem ac_addr_PrefixText {args : List AV} {r : AV} (h : aw Tryd.prog c_addr_PrefixText (env0 args) (endQ v_addr_PrefixText r)) (hargs : args.length ≤ 11 := by decide) (hok : resOK r = true := by rfl) : AC Tryd.prog f_addr_PrefixText args r :=
  AC_mk (by kernel_rfl) Tryd.func37 k_addr_PrefixText hargs hok (by decide) h

/-- rivulet/rivuletref.SamePrefix (function 38) -/
def c_rivuletref_SamePrefix : ACode :=
  (.seq
    (.region false [
        ⟨some 2, .box (.tmp 0), none⟩,
        ⟨some 3, .box (.tmp 1), none⟩,
        ⟨some 4, .mov (.const (.bool false)), none⟩] [0, 1, 4])
    (.seq
      (.region false [
          ⟨some 5, .faddr 0 1 (.tmp 2), none⟩,
          ⟨some 6, .load false 1 (.tmp 5), none⟩,
          ⟨some 7, .faddr 0 1 (.tmp 3), none⟩,
          ⟨some 8, .load false 1 (.tmp 7), none⟩,
          ⟨some 9, .bin .eql 23 (.tmp 6) (.tmp 8), none⟩,
          ⟨some 10, .mov (.tmp 9), none⟩,
          ⟨some 11, .faddr 1 1 (.tmp 2), (some (10, true))⟩,
          ⟨some 12, .load false 1 (.tmp 11), (some (10, true))⟩,
          ⟨some 13, .faddr 1 1 (.tmp 3), (some (10, true))⟩,
          ⟨some 14, .load false 1 (.tmp 13), (some (10, true))⟩,
          ⟨some 15, .bin .eql 3 (.tmp 12) (.tmp 14), (some (10, true))⟩,
          ⟨some 16, .pick (.tmp 10) (.tmp 15) (.const (.bool false)), none⟩,
          ⟨some 4, .mov (.tmp 16), none⟩] [2, 3, 5, 6, 7, 8, 9, 10, 11, 12, 13, 14, 15, 16])
      .ret))
abbrev v_rivuletref_SamePrefix : List RV := [.tmp 4]
abbrev f_rivuletref_SamePrefix : FuncId := 38
theorem k_rivuletref_SamePrefix : closedOf Tryd.prog Tryd.f38 = (false, some true, some v_rivuletref_SamePrefix, some c_rivuletref_SamePrefix.plain, 17) := by kernel_rfl
theorem ac_rivuletref_SamePrefix {args : List AV} {r : AV} (h : aw Tryd.prog c_rivuletref_SamePrefix (env0 args) (endQ v_rivuletref_SamePrefix r)) (hargs : args.length ≤ 17 := by decide) (hok : resOK r = true := by rfl) : AC Tryd.prog f_rivuletref_SamePrefix args r :=
  AC_mk (by kernel_rfl) Tryd.func38 k_rivuletref_SamePrefix hargs hok (by decide) h

/-- rivulet/rivuletref1.Parse (function 39) -/
def c_rivuletref1_Parse : ACode :=
  (.seq
    (.region false [
        ⟨some 2, .mov (.const (.int .u32 0)), none⟩,
        ⟨some 3, .mov (.const (.bool false)), none⟩] [2, 3])
    (.seq
      (.region false [
          ⟨some 4, .mov (.const (.int .u32 0)), none⟩] [])
      (.seq
        (.region false [
            ⟨some 5, .mov (.const (.int .i64 0)), none⟩] [])
        (.seq
          (.region false [
              ⟨some 6, .mov (.const (.int .i64 0)), none⟩] [])
          (.seq
            (.seq
              (.region false [
                  ⟨some 7, .mov (.const (.int .i64 0)), none⟩] [])
              (.block 0
                (.loop
                  (.seq
                    (.seq
                      (.region false [
                          ⟨some 9, .mov (.tmp 7), none⟩,
                          ⟨some 10, .mov (.tmp 0), none⟩,
                          ⟨some 11, .lens (.tmp 10), none⟩,
                          ⟨some 12, .bin .leq 3 (.tmp 9) (.tmp 11), none⟩] [9, 10, 11])
                      (.cond (.tmp 12)
                        .skip
                        (.exit 0)))
                    (.seq
                      (.block 1
                        (.seq
                          (.seq
                            (.region false [
                                ⟨some 15, .mov (.tmp 7), none⟩,
                                ⟨some 16, .mov (.tmp 0), none⟩,
                                ⟨some 17, .lens (.tmp 16), none⟩,
                                ⟨some 18, .bin .lss 3 (.tmp 15) (.tmp 17), none⟩,
                                ⟨some 19, .mov (.tmp 18), none⟩,
                                ⟨some 20, .mov (.tmp 0), (some (19, true))⟩,
                                ⟨some 21, .mov (.tmp 7), (some (19, true))⟩,
                                ⟨some 22, .idxs (.tmp 20) (.tmp 21), (some (19, true))⟩,
                                ⟨some 23, .bin .neq 5 (.tmp 22) (.const (.int .u8 46)), (some (19, true))⟩,
                                ⟨some 24, .pick (.tmp 19) (.tmp 23) (.const (.bool false)), none⟩] [12, 15, 16, 17, 18, 19, 20, 21, 22, 23])
                            (.cond (.tmp 24)
                              (.exit 1)
                              .skip))
                          (.seq
                            (.region false [
                                ⟨some 25, .mov (.tmp 0), none⟩,
                                ⟨some 26, .mov (.tmp 6), none⟩,
                                ⟨some 27, .mov (.tmp 7), none⟩,
                                ⟨some 28, .slcs (.tmp 25) (some (.tmp 26)) (some (.tmp 27)), none⟩,
                                ⟨some 29, .callm 55 [.tmp 28, .const (.int .i64 3)], none⟩,
                                ⟨some 8, .mov (.tmp 29), none⟩] [6, 24, 25, 26, 27, 28, 29])
                            (.seq
                              (.seq
                                (.region false [
                                    ⟨some 30, .mov (.tmp 8), none⟩,
                                    ⟨some 31, .bin .lss 3 (.tmp 30) (.const (.int .i64 0)), none⟩,
                                    ⟨some 32, .mov (.tmp 31), none⟩,
                                    ⟨some 33, .mov (.tmp 8), (some (32, false))⟩,
                                    ⟨some 34, .bin .gtr 3 (.tmp 33) (.const (.int .i64 255)), (some (32, false))⟩,
                                    ⟨some 35, .pick (.tmp 32) (.const (.bool true)) (.tmp 34), none⟩,
                                    ⟨some 36, .mov (.tmp 35), none⟩,
                                    ⟨some 37, .mov (.tmp 5), (some (36, false))⟩,
                                    ⟨some 38, .bin .eql 3 (.tmp 37) (.const (.int .i64 4)), (some (36, false))⟩,
                                    ⟨some 39, .pick (.tmp 36) (.const (.bool true)) (.tmp 38), none⟩] [30, 31, 32, 33, 34, 35, 36, 37, 38])
                                (.cond (.tmp 39)
                                  (.seq
                                    (.region false [
                                        ⟨some 2, .mov (.const (.int .u32 0)), none⟩,
                                        ⟨some 3, .mov (.const (.bool false)), none⟩] [0, 4, 5, 7, 8, 39])
                                    .ret)
                                  .skip))
                              (.seq
                                (.region false [
                                    ⟨some 40, .mov (.tmp 4), none⟩,
                                    ⟨some 41, .bin .shl 23 (.tmp 40) (.const (.int .u64 8)), none⟩,
                                    ⟨some 42, .mov (.tmp 8), none⟩,
                                    ⟨some 43, .cint .u32 (.tmp 42), none⟩,
                                    ⟨some 44, .bin .or 23 (.tmp 41) (.tmp 43), none⟩,
                                    ⟨some 4, .mov (.tmp 44), none⟩] [8, 39, 40, 41, 42, 43, 44])
                                (.seq
                                  (.region false [
                                      ⟨some 45, .mov (.tmp 5), none⟩,
                                      ⟨some 46, .bin .add 3 (.tmp 45) (.const (.int .i64 1)), none⟩,
                                      ⟨some 5, .mov (.tmp 46), none⟩] [45, 46])
                                  (.region false [
                                      ⟨some 47, .mov (.tmp 7), none⟩,
                                      ⟨some 48, .bin .add 3 (.tmp 47) (.const (.int .i64 1)), none⟩,
                                      ⟨some 6, .mov (.tmp 48), none⟩] [47, 48])))))) [24])
                      (.region false [
                          ⟨some 13, .mov (.tmp 7), none⟩,
                          ⟨some 14, .bin .add 3 (.tmp 13) (.const (.int .i64 1)), none⟩,
                          ⟨some 7, .mov (.tmp 14), none⟩] [13, 14]))) [] []) [0, 6, 7, 12]))
            (.seq
              (.seq
                (.region false [
                    ⟨some 49, .mov (.tmp 5), none⟩,
                    ⟨some 50, .bin .neq 3 (.tmp 49) (.const (.int .i64 4)), none⟩] [5, 49])
                (.cond (.tmp 50)
                  (.seq
                    (.region false [
                        ⟨some 2, .mov (.const (.int .u32 0)), none⟩,
                        ⟨some 3, .mov (.const (.bool false)), none⟩] [4, 50])
                    .ret)
                  .skip))
              (.seq
                (.region false [
                    ⟨some 51, .mov (.tmp 4), none⟩,
                    ⟨some 2, .mov (.tmp 51), none⟩,
                    ⟨some 3, .mov (.const (.bool true)), none⟩] [4, 50, 51])
                .ret)))))))
abbrev v_rivuletref1_Parse : List RV := [.tmp 2, .tmp 3]
abbrev f_rivuletref1_Parse : FuncId := 39
theorem k_rivuletref1_Parse : closedOf Tryd.prog Tryd.f39 = (false, some true, some v_rivuletref1_Parse, some c_rivuletref1_Parse.plain, 52) := by kernel_rfl
theorem ac_rivuletref1_Parse {args : List AV} {r : AV} (h : aw Tryd.prog c_rivuletref1_Parse (env0 args) (endQ v_rivuletref1_Parse r)) (hargs : args.length ≤ 52 := by decide) (hok : resOK r = true := by rfl) : AC Tryd.prog f_rivuletref1_Parse args r :=
  AC_mk (by kernel_rfl) Tryd.func39 k_rivuletref1_Parse hargs hok (by decide) h

/-- rivulet/rivuletref1.ParsePrefix (function 40) -/
def c_rivuletref1_ParsePrefix : ACode :=
  (.seq
    (.region false [
        ⟨some 2, .alloc [.lit (.int .u32 0), .lit (.int .i64 0)], none⟩,
        ⟨some 3, .mov (.const (.bool false)), none⟩] [3])
    (.seq
      (.seq
        (.region false [
            ⟨some 4, .mov (.const (.int .i64 0)), none⟩] [])
        (.block 0
          (.loop
            (.seq
              (.seq
                (.region false [
                    ⟨some 9, .mov (.tmp 4), none⟩,
                    ⟨some 10, .mov (.tmp 0), none⟩,
                    ⟨some 11, .lens (.tmp 10), none⟩,
                    ⟨some 12, .bin .lss 3 (.tmp 9) (.tmp 11), none⟩] [9, 10, 11])
                (.cond (.tmp 12)
                  .skip
                  (.exit 0)))
              (.seq
                (.block 1
                  (.seq
                    (.seq
                      (.region false [
                          ⟨some 15, .mov (.tmp 0), none⟩,
                          ⟨some 16, .mov (.tmp 4), none⟩,
                          ⟨some 17, .idxs (.tmp 15) (.tmp 16), none⟩,
                          ⟨some 18, .bin .neq 5 (.tmp 17) (.const (.int .u8 47)), none⟩] [12, 15, 16, 17])
                      (.cond (.tmp 18)
                        (.exit 1)
                        .skip))
                    (.seq
                      (.region false [
                          ⟨some 20, .mov (.tmp 0), none⟩,
                          ⟨some 21, .mov (.tmp 4), none⟩,
                          ⟨some 22, .slcs (.tmp 20) none (some (.tmp 21)), none⟩,
                          ⟨some 23, .callm 39 [.tmp 22], none⟩,
                          ⟨some 19, .mov (.tmp 23), none⟩,
                          ⟨some 24, .ext (.tmp 19) 0, none⟩,
                          ⟨some 25, .ext (.tmp 19) 1, none⟩,
                          ⟨some 5, .mov (.tmp 24), none⟩,
                          ⟨some 6, .mov (.tmp 25), none⟩] [18, 19, 20, 21, 22, 23, 24, 25])
                      (.seq
                        (.region false [
                            ⟨some 26, .mov (.tmp 0), none⟩,
                            ⟨some 27, .mov (.tmp 4), none⟩,
                            ⟨some 28, .bin .add 3 (.tmp 27) (.const (.int .i64 1)), none⟩,
                            ⟨some 29, .slcs (.tmp 26) (some (.tmp 28)) none, none⟩,
                            ⟨some 30, .callm 55 [.tmp 29, .const (.int .i64 2)], none⟩,
                            ⟨some 7, .mov (.tmp 30), none⟩] [0, 4, 26, 27, 28, 29, 30])
                        (.seq
                          (.region false [
                              ⟨some 31, .mov (.tmp 5), none⟩,
                              ⟨some 32, .mov (.tmp 7), none⟩,
                              ⟨some 33, .build [.lit (.int .u32 0), .lit (.int .i64 0)] [(0, 1, .tmp 31), (1, 1, .tmp 32)], none⟩,
                              ⟨some 8, .alloc [.lit (.int .u32 0), .lit (.int .i64 0)], none⟩,
                              ⟨none, .store 2 (.tmp 8) (.tmp 33), none⟩] [5, 31, 32, 33])
                          (.seq
                            (.seq
                              (.region false [
                                  ⟨some 34, .mov (.tmp 6), none⟩,
                                  ⟨some 35, .un .not (.tmp 34), none⟩,
                                  ⟨some 36, .mov (.tmp 35), none⟩,
                                  ⟨some 37, .mov (.tmp 7), (some (36, false))⟩,
                                  ⟨some 38, .bin .lss 3 (.tmp 37) (.const (.int .i64 0)), (some (36, false))⟩,
                                  ⟨some 39, .pick (.tmp 36) (.const (.bool true)) (.tmp 38), none⟩,
                                  ⟨some 40, .mov (.tmp 39), none⟩,
                                  ⟨some 41, .mov (.tmp 7), (some (40, false))⟩,
                                  ⟨some 42, .bin .gtr 3 (.tmp 41) (.const (.int .i64 32)), (some (40, false))⟩,
                                  ⟨some 43, .pick (.tmp 40) (.const (.bool true)) (.tmp 42), none⟩,
                                  ⟨some 44, .mov (.tmp 43), none⟩,
                                  ⟨some 45, .load true 2 (.tmp 8), (some (44, false))⟩,
                                  ⟨some 46, .callm 35 [.tmp 45], (some (44, false))⟩,
                                  ⟨some 47, .un .not (.tmp 46), (some (44, false))⟩,
                                  ⟨some 48, .pick (.tmp 44) (.const (.bool true)) (.tmp 47), none⟩] [6, 7, 34, 35, 36, 37, 38, 39, 40, 41, 42, 43, 44, 45, 46, 47])
                              (.cond (.tmp 48)
                                (.seq
                                  (.region false [
                                      ⟨some 49, .build [.lit (.int .u32 0), .lit (.int .i64 0)] [], none⟩,
                                      ⟨none, .store 2 (.tmp 2) (.tmp 49), none⟩,
                                      ⟨some 3, .mov (.const (.bool false)), none⟩] [8, 48, 49])
                                  .ret)
                                .skip))
                            (.seq
                              (.region false [
                                  ⟨some 50, .load true 2 (.tmp 8), none⟩,
                                  ⟨none, .store 2 (.tmp 2) (.tmp 50), none⟩,
                                  ⟨some 3, .mov (.const (.bool true)), none⟩] [8, 48, 50])
                              .ret)))))) [18])
                (.region false [
                    ⟨some 13, .mov (.tmp 4), none⟩,
                    ⟨some 14, .bin .add 3 (.tmp 13) (.const (.int .i64 1)), none⟩,
                    ⟨some 4, .mov (.tmp 14), none⟩] [13, 14]))) [] [8]) [0, 4, 12]))
      (.seq
        (.region false [
            ⟨some 51, .build [.lit (.int .u32 0), .lit (.int .i64 0)] [], none⟩,
            ⟨none, .store 2 (.tmp 2) (.tmp 51), none⟩,
            ⟨some 3, .mov (.const (.bool false)), none⟩] [51])
        .ret)))
abbrev v_rivuletref1_ParsePrefix : List RV := [.cell true 2 2, .tmp 3]
abbrev f_rivuletref1_ParsePrefix : FuncId := 40
theorem k_rivuletref1_ParsePrefix : closedOf Tryd.prog Tryd.f40 = (false, some true, some v_rivuletref1_ParsePrefix, some c_rivuletref1_ParsePrefix.plain, 52) := by kernel_rfl
theorem ac_rivuletref1_ParsePrefix {args : List AV} {r : AV} (h : aw Tryd.prog c_rivuletref1_ParsePrefix (env0 args) (endQ v_rivuletref1_ParsePrefix r)) (hargs : args.length ≤ 52 := by decide) (hok : resOK r = true := by rfl) : AC Tryd.prog f_rivuletref1_ParsePrefix args r :=
  AC_mk (by kernel_rfl) Tryd.func40 k_rivuletref1_ParsePrefix hargs hok (by decide) h

/-- rivulet/rivuletref1.Text (function 41) -/
def c_rivuletref1_Text : ACode :=
  (.seq
    (.region false [
        ⟨some 2, .mov (.const (.string ⟨#[]⟩)), none⟩] [2])
    (.seq
      (.region false [
          ⟨some 3, .mov (.tmp 0), none⟩,
          ⟨some 4, .bin .shr 23 (.tmp 3) (.const (.int .u64 24)), none⟩,
          ⟨some 5, .cint .i64 (.tmp 4), none⟩,
          ⟨some 6, .callm 53 [.tmp 5], none⟩,
          ⟨some 7, .bin .add 9 (.tmp 6) (.const (.string ⟨#[46]⟩)), none⟩,
          ⟨some 8, .mov (.tmp 0), none⟩,
          ⟨some 9, .bin .shr 23 (.tmp 8) (.const (.int .u64 16)), none⟩,
          ⟨some 10, .bin .and 23 (.tmp 9) (.const (.int .u32 255)), none⟩,
          ⟨some 11, .cint .i64 (.tmp 10), none⟩,
          ⟨some 12, .callm 53 [.tmp 11], none⟩,
          ⟨some 13, .bin .add 9 (.tmp 7) (.tmp 12), none⟩,
          ⟨some 14, .bin .add 9 (.tmp 13) (.const (.string ⟨#[46]⟩)), none⟩,
          ⟨some 15, .mov (.tmp 0), none⟩,
          ⟨some 16, .bin .shr 23 (.tmp 15) (.const (.int .u64 8)), none⟩,
          ⟨some 17, .bin .and 23 (.tmp 16) (.const (.int .u32 255)), none⟩,
          ⟨some 18, .cint .i64 (.tmp 17), none⟩,
          ⟨some 19, .callm 53 [.tmp 18], none⟩,
          ⟨some 20, .bin .add 9 (.tmp 14) (.tmp 19), none⟩,
          ⟨some 21, .bin .add 9 (.tmp 20) (.const (.string ⟨#[46]⟩)), none⟩,
          ⟨some 22, .mov (.tmp 0), none⟩,
          ⟨some 23, .bin .and 23 (.tmp 22) (.const (.int .u32 255)), none⟩,
          ⟨some 24, .cint .i64 (.tmp 23), none⟩,
          ⟨some 25, .callm 53 [.tmp 24], none⟩,
          ⟨some 26, .bin .add 9 (.tmp 21) (.tmp 25), none⟩,
          ⟨some 2, .mov (.tmp 26), none⟩] [0, 3, 4, 5, 6, 7, 8, 9, 10, 11, 12, 13, 14, 15, 16, 17, 18, 19, 20, 21, 22, 23, 24, 25, 26])
      .ret))
abbrev v_rivuletref1_Text : List RV := [.tmp 2]
abbrev f_rivuletref1_Text : FuncId := 41
theorem k_rivuletref1_Text : closedOf Tryd.prog Tryd.f41 = (false, some true, some v_rivuletref1_Text, some c_rivuletref1_Text.plain, 27) := by kernel_rfl
theorem ac_rivuletref1_Text {args : List AV} {r : AV} (h : aw Tryd.prog c_rivuletref1_Text (env0 args) (endQ v_rivuletref1_Text r)) (hargs : args.length ≤ 27 := by decide) (hok : resOK r = true := by rfl) : AC Tryd.prog f_rivuletref1_Text args r :=
  AC_mk (by kernel_rfl) Tryd.func41 k_rivuletref1_Text hargs hok (by decide) h

/-- rivulet/rivuletref1.Mask (function 42) -/
def c_rivuletref1_Mask : ACode :=
  (.seq
    (.region false [
        ⟨some 2, .mov (.const (.int .u32 0)), none⟩] [2])
    (.seq
      (.region false [
          ⟨some 3, .mov (.const (.int .u32 0)), none⟩] [])
      (.seq
        (.seq
          (.region false [
              ⟨some 4, .mov (.const (.int .i64 0)), none⟩] [])
          (.block 0
            (.loop
              (.seq
                (.seq
                  (.region false [
                      ⟨some 5, .mov (.tmp 4), none⟩,
                      ⟨some 6, .mov (.tmp 0), none⟩,
                      ⟨some 7, .bin .lss 3 (.tmp 5) (.tmp 6), none⟩,
                      ⟨some 8, .mov (.tmp 7), none⟩,
                      ⟨some 9, .mov (.tmp 4), (some (8, true))⟩,
                      ⟨some 10, .bin .lss 3 (.tmp 9) (.const (.int .i64 32)), (some (8, true))⟩,
                      ⟨some 11, .pick (.tmp 8) (.tmp 10) (.const (.bool false)), none⟩] [5, 6, 7, 8, 9, 10])
                  (.cond (.tmp 11)
                    .skip
                    (.exit 0)))
                (.seq
                  (.block 1
                    (.region false [
                        ⟨some 14, .mov (.tmp 3), none⟩,
                        ⟨some 15, .mov (.tmp 4), none⟩,
                        ⟨some 16, .bin .sub 3 (.const (.int .i64 31)) (.tmp 15), none⟩,
                        ⟨some 17, .cint .u64 (.tmp 16), none⟩,
                        ⟨some 18, .bin .shl 23 (.const (.int .u32 1)) (.tmp 17), none⟩,
                        ⟨some 19, .bin .or 23 (.tmp 14) (.tmp 18), none⟩,
                        ⟨some 3, .mov (.tmp 19), none⟩] [11, 14, 15, 16, 17, 18, 19]) [])
                  (.region false [
                      ⟨some 12, .mov (.tmp 4), none⟩,
                      ⟨some 13, .bin .add 3 (.tmp 12) (.const (.int .i64 1)), none⟩,
                      ⟨some 4, .mov (.tmp 13), none⟩] [12, 13]))) [] []) [0, 4, 11]))
        (.seq
          (.region false [
              ⟨some 20, .mov (.tmp 3), none⟩,
              ⟨some 2, .mov (.tmp 20), none⟩] [3, 20])
          .ret))))
abbrev v_rivuletref1_Mask : List RV := [.tmp 2]
abbrev f_rivuletref1_Mask : FuncId := 42
theorem k_rivuletref1_Mask : closedOf Tryd.prog Tryd.f42 = (false, some true, some v_rivuletref1_Mask, some c_rivuletref1_Mask.plain, 21) := by kernel_rfl
theorem ac_rivuletref1_Mask {args : List AV} {r : AV} (h : aw Tryd.prog c_rivuletref1_Mask (env0 args) (endQ v_rivuletref1_Mask r)) (hargs : args.length ≤ 21 := by decide) (hok : resOK r = true := by rfl) : AC Tryd.prog f_rivuletref1_Mask args r :=
  AC_mk (by kernel_rfl) Tryd.func42 k_rivuletref1_Mask hargs hok (by decide) h

/-- rivulet/rivuletref1.In (function 43) -/
def c_rivuletref1_In : ACode :=
  (.seq
    (.region false [
        ⟨some 2, .box (.tmp 0), none⟩,
        ⟨some 4, .mov (.const (.bool false)), none⟩] [0, 4])
    (.seq
      (.region true [
          ⟨some 5, .load true 2 (.tmp 2), none⟩,
          ⟨some 6, .call 35 [.tmp 5], none⟩,
          ⟨some 7, .mov (.tmp 6), none⟩,
          ⟨some 8, .mov (.tmp 1), (some (7, true))⟩,
          ⟨some 9, .faddr 1 1 (.tmp 2), (some (7, true))⟩,
          ⟨some 10, .load false 1 (.tmp 9), (some (7, true))⟩,
          ⟨some 11, .call 42 [.tmp 10], (some (7, true))⟩,
          ⟨some 12, .bin .and 23 (.tmp 8) (.tmp 11), (some (7, true))⟩,
          ⟨some 13, .faddr 0 1 (.tmp 2), (some (7, true))⟩,
          ⟨some 14, .load false 1 (.tmp 13), (some (7, true))⟩,
          ⟨some 15, .bin .eql 23 (.tmp 12) (.tmp 14), (some (7, true))⟩,
          ⟨some 16, .pick (.tmp 7) (.tmp 15) (.const (.bool false)), none⟩,
          ⟨some 4, .mov (.tmp 16), none⟩] [1, 2, 5, 6, 7, 8, 9, 10, 11, 12, 13, 14, 15, 16])
      .ret))
abbrev v_rivuletref1_In : List RV := [.tmp 4]
abbrev f_rivuletref1_In : FuncId := 43
theorem k_rivuletref1_In : closedOf Tryd.prog Tryd.f43 = (false, some true, some v_rivuletref1_In, some c_rivuletref1_In.plain, 17) := by kernel_rfl
theorem ac_rivuletref1_In {args : List AV} {r : AV} (h : aw Tryd.prog c_rivuletref1_In (env0 args) (endQ v_rivuletref1_In r)) (hargs : args.length ≤ 17 := by decide) (hok : resOK r = true := by rfl) : AC Tryd.prog f_rivuletref1_In args r :=
  AC_mk (by kernel_rfl) Tryd.func43 k_rivuletref1_In hargs hok (by decide) h

/-- rivulet/rivuletref1.Within (function 44) -/
def c_rivuletref1_Within : ACode :=
  (.seq
    (.region false [
        ⟨some 2, .box (.tmp 0), none⟩,
        ⟨some 3, .box (.tmp 1), none⟩,
        ⟨some 4, .mov (.const (.bool false)), none⟩] [0, 1, 4])
    (.seq
      (.region false [
          ⟨some 5, .load true 2 (.tmp 2), none⟩,
          ⟨some 6, .callm 35 [.tmp 5], none⟩,
          ⟨some 7, .mov (.tmp 6), none⟩,
          ⟨some 8, .faddr 1 1 (.tmp 2), (some (7, true))⟩,
          ⟨some 9, .load false 1 (.tmp 8), (some (7, true))⟩,
          ⟨some 10, .faddr 1 1 (.tmp 3), (some (7, true))⟩,
          ⟨some 11, .load false 1 (.tmp 10), (some (7, true))⟩,
          ⟨some 12, .bin .geq 3 (.tmp 9) (.tmp 11), (some (7, true))⟩,
          ⟨some 13, .pick (.tmp 7) (.tmp 12) (.const (.bool false)), none⟩,
          ⟨some 14, .mov (.tmp 13), none⟩,
          ⟨some 15, .load true 2 (.tmp 3), (some (14, true))⟩,
          ⟨some 16, .faddr 0 1 (.tmp 2), (some (14, true))⟩,
          ⟨some 17, .load false 1 (.tmp 16), (some (14, true))⟩,
          ⟨some 18, .callm 43 [.tmp 15, .tmp 17], (some (14, true))⟩,
          ⟨some 19, .pick (.tmp 14) (.tmp 18) (.const (.bool false)), none⟩,
          ⟨some 4, .mov (.tmp 19), none⟩] [2, 3, 5, 6, 7, 8, 9, 10, 11, 12, 13, 14, 15, 16, 17, 18, 19])
      .ret))
abbrev v_rivuletref1_Within : List RV := [.tmp 4]
abbrev f_rivuletref1_Within : FuncId := 44
theorem k_rivuletref1_Within : closedOf Tryd.prog Tryd.f44 = (false, some true, some v_rivuletref1_Within, some c_rivuletref1_Within.plain, 20) := by kernel_rfl
theorem ac_rivuletref1_Within {args : List AV} {r : AV} (h : aw Tryd.prog c_rivuletref1_Within (env0 args) (endQ v_rivuletref1_Within r)) (hargs : args.length ≤ 20 := by decide) (hok : resOK r = true := by rfl) : AC Tryd.prog f_rivuletref1_Within args r :=
  AC_mk (by kernel_rfl) Tryd.func44 k_rivuletref1_Within hargs hok (by decide) h

/-- rivulet/rivuletref1.Group (function 45) -/
def c_rivuletref1_Group : ACode :=
  (.seq
    (.region false [
        ⟨some 2, .mov (.const (.bool false)), none⟩] [2])
    (.seq
      (.region false [
          ⟨some 3, .mov (.tmp 0), none⟩,
          ⟨some 4, .bin .shr 23 (.tmp 3) (.const (.int .u64 28)), none⟩,
          ⟨some 5, .bin .eql 23 (.tmp 4) (.const (.int .u32 14)), none⟩,
          ⟨some 2, .mov (.tmp 5), none⟩] [0, 3, 4, 5])
      .ret))
abbrev v_rivuletref1_Group : List RV := [.tmp 2]
abbrev f_rivuletref1_Group : FuncId := 45
theorem k_rivuletref1_Group : closedOf Tryd.prog Tryd.f45 = (false, some true, some v_rivuletref1_Group, some c_rivuletref1_Group.plain, 6) := by kernel_rfl
theorem ac_rivuletref1_Group {args : List AV} {r : AV} (h : aw Tryd.prog c_rivuletref1_Group (env0 args) (endQ v_rivuletref1_Group r)) (hargs : args.length ≤ 6 := by decide) (hok : resOK r = true := by rfl) : AC Tryd.prog f_rivuletref1_Group args r :=
  AC_mk (by kernel_rfl) Tryd.func45 k_rivuletref1_Group hargs hok (by decide) h

/-- rivulet/lex.space (function 49) -/
def c_lex_space : ACode :=
  (.seq
    (.region false [
        ⟨some 2, .mov (.const (.bool false)), none⟩] [2])
    (.seq
      (.region false [
          ⟨some 3, .mov (.tmp 0), none⟩,
          ⟨some 4, .bin .eql 21 (.tmp 3) (.const (.int .i32 32)), none⟩,
          ⟨some 5, .mov (.tmp 4), none⟩,
          ⟨some 6, .mov (.tmp 0), (some (5, false))⟩,
          ⟨some 7, .bin .eql 21 (.tmp 6) (.const (.int .i32 9)), (some (5, false))⟩,
          ⟨some 8, .pick (.tmp 5) (.const (.bool true)) (.tmp 7), none⟩,
          ⟨some 9, .mov (.tmp 8), none⟩,
          ⟨some 10, .mov (.tmp 0), (some (9, false))⟩,
          ⟨some 11, .bin .eql 21 (.tmp 10) (.const (.int .i32 13)), (some (9, false))⟩,
          ⟨some 12, .pick (.tmp 9) (.const (.bool true)) (.tmp 11), none⟩,
          ⟨some 2, .mov (.tmp 12), none⟩] [0, 3, 4, 5, 6, 7, 8, 9, 10, 11, 12])
      .ret))
abbrev v_lex_space : List RV := [.tmp 2]
abbrev f_lex_space : FuncId := 49
theorem k_lex_space : closedOf Tryd.prog Tryd.f49 = (false, some true, some v_lex_space, some c_lex_space.plain, 13) := by kernel_rfl
theorem ac_lex_space {args : List AV} {r : AV} (h : aw Tryd.prog c_lex_space (env0 args) (endQ v_lex_space r)) (hargs : args.length ≤ 13 := by decide) (hok : resOK r = true := by rfl) : AC Tryd.prog f_lex_space args r :=
  AC_mk (by kernel_rfl) Tryd.func49 k_lex_space hargs hok (by decide) h

/-- rivulet/rivuletsee.Same (function 50) -/
def c_rivuletsee_Same : ACode :=
  (.seq
    (.region false [
        ⟨some 3, .box (.tmp 1), none⟩,
        ⟨some 4, .mov (.const (.bool false)), none⟩] [1, 4])
    (.seq
      (.region true [
          ⟨some 5, .mov (.tmp 0), none⟩,
          ⟨some 6, .call 62 [.tmp 5], none⟩,
          ⟨some 7, .load true 3 (.tmp 3), none⟩,
          ⟨some 8, .call 61 [.tmp 6, .tmp 7], none⟩,
          ⟨some 4, .mov (.tmp 8), none⟩] [0, 3, 5, 6, 7, 8])
      .ret))
abbrev v_rivuletsee_Same : List RV := [.tmp 4]
abbrev f_rivuletsee_Same : FuncId := 50
theorem k_rivuletsee_Same : closedOf Tryd.prog Tryd.f50 = (false, some true, some v_rivuletsee_Same, some c_rivuletsee_Same.plain, 9) := by kernel_rfl
theorem ac_rivuletsee_Same {args : List AV} {r : AV} (h : aw Tryd.prog c_rivuletsee_Same (env0 args) (endQ v_rivuletsee_Same r)) (hargs : args.length ≤ 9 := by decide) (hok : resOK r = true := by rfl) : AC Tryd.prog f_rivuletsee_Same args r :=
  AC_mk (by kernel_rfl) Tryd.func50 k_rivuletsee_Same hargs hok (by decide) h

/-- rivulet/rivuletref.Bare (function 51) -/
def c_rivuletref_Bare : ACode :=
  (.seq
    (.region false [
        ⟨some 2, .alloc [.lit (.int .i64 0), .lit (.bool false), .lit (.int .i64 0)], none⟩] [])
    (.seq
      (.region false [
          ⟨some 3, .mov (.tmp 0), none⟩,
          ⟨some 4, .build [.lit (.int .i64 0), .lit (.bool false), .lit (.int .i64 0)] [(0, 1, .tmp 3)], none⟩,
          ⟨none, .store 3 (.tmp 2) (.tmp 4), none⟩] [0, 3, 4])
      .ret))
abbrev v_rivuletref_Bare : List RV := [.cell true 3 2]
abbrev f_rivuletref_Bare : FuncId := 51
theorem k_rivuletref_Bare : closedOf Tryd.prog Tryd.f51 = (false, some true, some v_rivuletref_Bare, some c_rivuletref_Bare.plain, 5) := by kernel_rfl
theorem ac_rivuletref_Bare {args : List AV} {r : AV} (h : aw Tryd.prog c_rivuletref_Bare (env0 args) (endQ v_rivuletref_Bare r)) (hargs : args.length ≤ 5 := by decide) (hok : resOK r = true := by rfl) : AC Tryd.prog f_rivuletref_Bare args r :=
  AC_mk (by kernel_rfl) Tryd.func51 k_rivuletref_Bare hargs hok (by decide) h

/-- rivulet/lex.letter (function 52) -/
def c_lex_letter : ACode :=
  (.seq
    (.region false [
        ⟨some 2, .mov (.const (.bool false)), none⟩] [2])
    (.seq
      (.region false [
          ⟨some 3, .mov (.tmp 0), none⟩,
          ⟨some 4, .bin .geq 5 (.tmp 3) (.const (.int .u8 97)), none⟩,
          ⟨some 5, .mov (.tmp 4), none⟩,
          ⟨some 6, .mov (.tmp 0), (some (5, true))⟩,
          ⟨some 7, .bin .leq 5 (.tmp 6) (.const (.int .u8 122)), (some (5, true))⟩,
          ⟨some 8, .pick (.tmp 5) (.tmp 7) (.const (.bool false)), none⟩,
          ⟨some 2, .mov (.tmp 8), none⟩] [0, 3, 4, 5, 6, 7, 8])
      .ret))
abbrev v_lex_letter : List RV := [.tmp 2]
abbrev f_lex_letter : FuncId := 52
theorem k_lex_letter : closedOf Tryd.prog Tryd.f52 = (false, some true, some v_lex_letter, some c_lex_letter.plain, 9) := by kernel_rfl
theorem ac_lex_letter {args : List AV} {r : AV} (h : aw Tryd.prog c_lex_letter (env0 args) (endQ v_lex_letter r)) (hargs : args.length ≤ 9 := by decide) (hok : resOK r = true := by rfl) : AC Tryd.prog f_lex_letter args r :=
  AC_mk (by kernel_rfl) Tryd.func52 k_lex_letter hargs hok (by decide) h

/-- rivulet/rivuletref1.Number (function 55) -/
def c_rivuletref1_Number : ACode :=
  (.seq
    (.region false [
        ⟨some 4, .mov (.const (.int .i64 0)), none⟩] [4])
    (.seq
      (.seq
        (.region false [
            ⟨some 7, .mov (.tmp 0), none⟩,
            ⟨some 8, .lens (.tmp 7), none⟩,
            ⟨some 9, .bin .lss 3 (.tmp 8) (.const (.int .i64 1)), none⟩,
            ⟨some 10, .mov (.tmp 9), none⟩,
            ⟨some 11, .mov (.tmp 0), (some (10, false))⟩,
            ⟨some 12, .lens (.tmp 11), (some (10, false))⟩,
            ⟨some 13, .mov (.tmp 1), (some (10, false))⟩,
            ⟨some 14, .bin .gtr 3 (.tmp 12) (.tmp 13), (some (10, false))⟩,
            ⟨some 15, .pick (.tmp 10) (.const (.bool true)) (.tmp 14), none⟩,
            ⟨some 16, .mov (.tmp 15), none⟩,
            ⟨some 17, .mov (.tmp 0), (some (16, false))⟩,
            ⟨some 18, .idxs (.tmp 17) (.const (.int .i64 0)), (some (16, false))⟩,
            ⟨some 19, .bin .eql 5 (.tmp 18) (.const (.int .u8 48)), (some (16, false))⟩,
            ⟨some 20, .mov (.tmp 19), (some (16, false))⟩,
            ⟨some 21, .mov (.tmp 0), (some (20, true))⟩,
            ⟨some 22, .lens (.tmp 21), (some (20, true))⟩,
            ⟨some 23, .bin .gtr 3 (.tmp 22) (.const (.int .i64 1)), (some (20, true))⟩,
            ⟨some 24, .pick (.tmp 20) (.tmp 23) (.const (.bool false)), (some (16, false))⟩,
            ⟨some 25, .pick (.tmp 16) (.const (.bool true)) (.tmp 24), none⟩] [1, 7, 8, 9, 10, 11, 12, 13, 14, 15, 16, 17, 18, 19, 20, 21, 22, 23, 24])
        (.cond (.tmp 25)
          (.seq
            (.region false [
                ⟨some 4, .mov (.const (.int .i64 (-1))), none⟩] [0, 25])
            .ret)
          .skip))
      (.seq
        (.region false [
            ⟨some 5, .mov (.const (.int .i64 0)), none⟩] [25])
        (.seq
          (.seq
            (.region false [
                ⟨some 6, .mov (.const (.int .i64 0)), none⟩] [])
            (.block 0
              (.loop
                (.seq
                  (.seq
                    (.region false [
                        ⟨some 26, .mov (.tmp 6), none⟩,
                        ⟨some 27, .mov (.tmp 0), none⟩,
                        ⟨some 28, .lens (.tmp 27), none⟩,
                        ⟨some 29, .bin .lss 3 (.tmp 26) (.tmp 28), none⟩] [26, 27, 28])
                    (.cond (.tmp 29)
                      .skip
                      (.exit 0)))
                  (.seq
                    (.block 1
                      (.seq
                        (.seq
                          (.region false [
                              ⟨some 32, .mov (.tmp 0), none⟩,
                              ⟨some 33, .mov (.tmp 6), none⟩,
                              ⟨some 34, .idxs (.tmp 32) (.tmp 33), none⟩,
                              ⟨some 35, .bin .lss 5 (.tmp 34) (.const (.int .u8 48)), none⟩,
                              ⟨some 36, .mov (.tmp 35), none⟩,
                              ⟨some 37, .mov (.tmp 0), (some (36, false))⟩,
                              ⟨some 38, .mov (.tmp 6), (some (36, false))⟩,
                              ⟨some 39, .idxs (.tmp 37) (.tmp 38), (some (36, false))⟩,
                              ⟨some 40, .bin .gtr 5 (.tmp 39) (.const (.int .u8 57)), (some (36, false))⟩,
                              ⟨some 41, .pick (.tmp 36) (.const (.bool true)) (.tmp 40), none⟩] [29, 32, 33, 34, 35, 36, 37, 38, 39, 40])
                          (.cond (.tmp 41)
                            (.seq
                              (.region false [
                                  ⟨some 4, .mov (.const (.int .i64 (-1))), none⟩] [0, 5, 6, 41])
                              .ret)
                            .skip))
                        (.region false [
                            ⟨some 42, .mov (.tmp 5), none⟩,
                            ⟨some 43, .bin .mul 3 (.const (.int .i64 10)) (.tmp 42), none⟩,
                            ⟨some 44, .mov (.tmp 0), none⟩,
                            ⟨some 45, .mov (.tmp 6), none⟩,
                            ⟨some 46, .idxs (.tmp 44) (.tmp 45), none⟩,
                            ⟨some 47, .bin .sub 5 (.tmp 46) (.const (.int .u8 48)), none⟩,
                            ⟨some 48, .cint .i64 (.tmp 47), none⟩,
                            ⟨some 49, .bin .add 3 (.tmp 43) (.tmp 48), none⟩,
                            ⟨some 5, .mov (.tmp 49), none⟩] [41, 42, 43, 44, 45, 46, 47, 48, 49])) [])
                    (.region false [
                        ⟨some 30, .mov (.tmp 6), none⟩,
                        ⟨some 31, .bin .add 3 (.tmp 30) (.const (.int .i64 1)), none⟩,
                        ⟨some 6, .mov (.tmp 31), none⟩] [30, 31]))) [] []) [0, 6, 29]))
          (.seq
            (.region false [
                ⟨some 50, .mov (.tmp 5), none⟩,
                ⟨some 4, .mov (.tmp 50), none⟩] [5, 50])
            .ret)))))
abbrev v_rivuletref1_Number : List RV := [.tmp 4]
abbrev f_rivuletref1_Number : FuncId := 55
theorem k_rivuletref1_Number : closedOf Tryd.prog Tryd.f55 = (false, some true, some v_rivuletref1_Number, some c_rivuletref1_Number.plain, 51) := by kernel_rfl
theorem ac_rivuletref1_Number {args : List AV} {r : AV} (h : aw Tryd.prog c_rivuletref1_Number (env0 args) (endQ v_rivuletref1_Number r)) (hargs : args.length ≤ 51 := by decide) (hok : resOK r = true := by rfl) : AC Tryd.prog f_rivuletref1_Number args r :=
  AC_mk (by kernel_rfl) Tryd.func55 k_rivuletref1_Number hargs hok (by decide) h

/-- rivulet/addr.parse (function 56) -/
def c_addr_parse : ACode :=
  (.seq
    (.region false [
        ⟨some 2, .mov (.const (.int .u32 0)), none⟩,
        ⟨some 3, .mov (.const (.bool false)), none⟩] [2, 3])
    (.seq
      (.region false [
          ⟨some 10, .mov (.tmp 0), none⟩,
          ⟨some 11, .callm 46 [.tmp 10, .const (.string ⟨#[46]⟩)], none⟩,
          ⟨some 4, .mov (.tmp 11), none⟩] [0, 10, 11])
      (.seq
        (.seq
          (.region false [
              ⟨some 12, .mov (.tmp 4), none⟩,
              ⟨some 13, .lenl (.tmp 12), none⟩,
              ⟨some 14, .bin .neq 3 (.tmp 13) (.const (.int .i64 4)), none⟩] [12, 13])
          (.cond (.tmp 14)
            (.seq
              (.region false [
                  ⟨some 2, .mov (.const (.int .u32 0)), none⟩,
                  ⟨some 3, .mov (.const (.bool false)), none⟩] [4, 14])
              .ret)
            .skip))
        (.seq
          (.region false [
              ⟨some 5, .alloc [.lit (.int .u8 0), .lit (.int .u8 0), .lit (.int .u8 0), .lit (.int .u8 0)], none⟩] [14])
          (.seq
            (.seq
              (.region false [
                  ⟨some 15, .mov (.tmp 4), none⟩,
                  ⟨some 16, .lenl (.tmp 15), none⟩,
                  ⟨some 17, .mov (.const (.int .i64 0)), none⟩] [4])
              (.block 0
                (.loop
                  (.seq
                    (.region false [
                        ⟨some 18, .bin .lss 3 (.tmp 17) (.tmp 16), none⟩] [])
                    (.seq
                      (.cond (.tmp 18)
                        .skip
                        (.exit 0))
                      (.seq
                        (.block 1
                          (.seq
                            (.region false [
                                ⟨some 19, .mov (.tmp 17), none⟩,
                                ⟨some 20, .iaddr 1 (.tmp 15) (.tmp 17), none⟩,
                                ⟨some 21, .load false 1 (.tmp 20), none⟩,
                                ⟨some 6, .mov (.tmp 19), none⟩,
                                ⟨some 7, .mov (.tmp 21), none⟩] [18, 19, 20, 21])
                            (.seq
                              (.region false [
                                  ⟨some 23, .mov (.tmp 7), none⟩,
                                  ⟨some 24, .callm 57 [.tmp 23, .const (.int .i64 255)], none⟩,
                                  ⟨some 22, .mov (.tmp 24), none⟩,
                                  ⟨some 25, .ext (.tmp 22) 0, none⟩,
                                  ⟨some 26, .ext (.tmp 22) 1, none⟩,
                                  ⟨some 8, .mov (.tmp 25), none⟩,
                                  ⟨some 9, .mov (.tmp 26), none⟩] [7, 22, 23, 24, 25, 26])
                              (.seq
                                (.seq
                                  (.region false [
                                      ⟨some 27, .mov (.tmp 9), none⟩,
                                      ⟨some 28, .un .not (.tmp 27), none⟩] [9, 27])
                                  (.cond (.tmp 28)
                                    (.seq
                                      (.region false [
                                          ⟨some 2, .mov (.const (.int .u32 0)), none⟩,
                                          ⟨some 3, .mov (.const (.bool false)), none⟩] [5, 6, 8, 15, 16, 17, 28])
                                      .ret)
                                    .skip))
                                (.region false [
                                    ⟨some 29, .mov (.tmp 6), none⟩,
                                    ⟨some 30, .mov (.tmp 8), none⟩,
                                    ⟨some 31, .cint .u8 (.tmp 30), none⟩,
                                    ⟨some 32, .iadra 4 1 (.tmp 5) (.tmp 29), none⟩,
                                    ⟨none, .store 1 (.tmp 32) (.tmp 31), none⟩] [6, 8, 28, 29, 30, 31, 32])))) [])
                        (.region false [
                            ⟨some 33, .bin .add 3 (.tmp 17) (.const (.int .i64 1)), none⟩,
                            ⟨some 17, .mov (.tmp 33), none⟩] [33])))) [] []) [15, 16, 17, 18]))
            (.seq
              (.region false [
                  ⟨some 34, .load true 4 (.tmp 5), none⟩,
                  ⟨some 35, .callm 17 [.tmp 34], none⟩,
                  ⟨some 2, .mov (.tmp 35), none⟩,
                  ⟨some 3, .mov (.const (.bool true)), none⟩] [5, 34, 35])
              .ret))))))
abbrev v_addr_parse : List RV := [.tmp 2, .tmp 3]
abbrev f_addr_parse : FuncId := 56
theorem k_addr_parse : closedOf Tryd.prog Tryd.f56 = (false, some true, some v_addr_parse, some c_addr_parse.plain, 36) := by kernel_rfl
theorem ac_addr_parse {args : List AV} {r : AV} (h : aw Tryd.prog c_addr_parse (env0 args) (endQ v_addr_parse r)) (hargs : args.length ≤ 36 := by decide) (hok : resOK r = true := by rfl) : AC Tryd.prog f_addr_parse args r :=
  AC_mk (by kernel_rfl) Tryd.func56 k_addr_parse hargs hok (by decide) h

/-- rivulet/addr.number (function 57) -/
def c_addr_number : ACode :=
  (.seq
    (.region false [
        ⟨some 4, .mov (.const (.int .i64 0)), none⟩,
        ⟨some 5, .mov (.const (.bool false)), none⟩] [4, 5])
    (.seq
      (.seq
        (.region false [
            ⟨some 8, .mov (.tmp 0), none⟩,
            ⟨some 9, .lens (.tmp 8), none⟩,
            ⟨some 10, .bin .gtr 3 (.tmp 9) (.const (.int .i64 3)), none⟩] [8, 9])
        (.cond (.tmp 10)
          (.seq
            (.region false [
                ⟨some 4, .mov (.const (.int .i64 0)), none⟩,
                ⟨some 5, .mov (.const (.bool false)), none⟩] [0, 1, 10])
            .ret)
          .skip))
      (.seq
        (.region false [
            ⟨some 12, .mov (.tmp 0), none⟩,
            ⟨some 13, .callm 54 [.tmp 12], none⟩,
            ⟨some 11, .mov (.tmp 13), none⟩,
            ⟨some 14, .ext (.tmp 11) 0, none⟩,
            ⟨some 15, .ext (.tmp 11) 1, none⟩,
            ⟨some 6, .mov (.tmp 14), none⟩,
            ⟨some 7, .mov (.tmp 15), none⟩] [10, 11, 12, 13, 14, 15])
        (.seq
          (.region false [
              ⟨some 16, .mov (.tmp 6), none⟩,
              ⟨some 17, .mov (.tmp 7), none⟩,
              ⟨some 18, .eqn false (.tmp 17), none⟩,
              ⟨some 19, .mov (.tmp 18), none⟩,
              ⟨some 20, .mov (.tmp 6), (some (19, true))⟩,
              ⟨some 21, .bin .geq 3 (.tmp 20) (.const (.int .i64 0)), (some (19, true))⟩,
              ⟨some 22, .pick (.tmp 19) (.tmp 21) (.const (.bool false)), none⟩,
              ⟨some 23, .mov (.tmp 22), none⟩,
              ⟨some 24, .mov (.tmp 6), (some (23, true))⟩,
              ⟨some 25, .mov (.tmp 1), (some (23, true))⟩,
              ⟨some 26, .bin .leq 3 (.tmp 24) (.tmp 25), (some (23, true))⟩,
              ⟨some 27, .pick (.tmp 23) (.tmp 26) (.const (.bool false)), none⟩,
              ⟨some 28, .mov (.tmp 27), none⟩,
              ⟨some 29, .mov (.tmp 6), (some (28, true))⟩,
              ⟨some 30, .callm 53 [.tmp 29], (some (28, true))⟩,
              ⟨some 31, .mov (.tmp 0), (some (28, true))⟩,
              ⟨some 32, .bin .eql 9 (.tmp 30) (.tmp 31), (some (28, true))⟩,
              ⟨some 33, .pick (.tmp 28) (.tmp 32) (.const (.bool false)), none⟩,
              ⟨some 4, .mov (.tmp 16), none⟩,
              ⟨some 5, .mov (.tmp 33), none⟩] [0, 1, 6, 7, 16, 17, 18, 19, 20, 21, 22, 23, 24, 25, 26, 27, 28, 29, 30, 31, 32, 33])
          .ret))))
abbrev v_addr_number : List RV := [.tmp 4, .tmp 5]
abbrev f_addr_number : FuncId := 57
theorem k_addr_number : closedOf Tryd.prog Tryd.f57 = (false, some true, some v_addr_number, some c_addr_number.plain, 34) := by kernel_rfl
theorem ac_addr_number {args : List AV} {r : AV} (h : aw Tryd.prog c_addr_number (env0 args) (endQ v_addr_number r)) (hargs : args.length ≤ 34 := by decide) (hok : resOK r = true := by rfl) : AC Tryd.prog f_addr_number args r :=
  AC_mk (by kernel_rfl) Tryd.func57 k_addr_number hargs hok (by decide) h

/-- rivulet/rivuletref.SameFault (function 61) -/
def c_rivuletref_SameFault : ACode :=
  (.seq
    (.region false [
        ⟨some 2, .box (.tmp 0), none⟩,
        ⟨some 3, .box (.tmp 1), none⟩,
        ⟨some 4, .mov (.const (.bool false)), none⟩] [0, 1, 4])
    (.seq
      (.region false [
          ⟨some 5, .faddr 0 1 (.tmp 2), none⟩,
          ⟨some 6, .load false 1 (.tmp 5), none⟩,
          ⟨some 7, .faddr 0 1 (.tmp 3), none⟩,
          ⟨some 8, .load false 1 (.tmp 7), none⟩,
          ⟨some 9, .bin .eql 3 (.tmp 6) (.tmp 8), none⟩,
          ⟨some 10, .mov (.tmp 9), none⟩,
          ⟨some 11, .faddr 1 1 (.tmp 2), (some (10, true))⟩,
          ⟨some 12, .load false 1 (.tmp 11), (some (10, true))⟩,
          ⟨some 13, .faddr 1 1 (.tmp 3), (some (10, true))⟩,
          ⟨some 14, .load false 1 (.tmp 13), (some (10, true))⟩,
          ⟨some 15, .eqb false 4 (.tmp 12) (.tmp 14), (some (10, true))⟩,
          ⟨some 16, .pick (.tmp 10) (.tmp 15) (.const (.bool false)), none⟩,
          ⟨some 17, .mov (.tmp 16), none⟩,
          ⟨some 18, .faddr 2 1 (.tmp 2), (some (17, true))⟩,
          ⟨some 19, .load false 1 (.tmp 18), (some (17, true))⟩,
          ⟨some 20, .faddr 2 1 (.tmp 3), (some (17, true))⟩,
          ⟨some 21, .load false 1 (.tmp 20), (some (17, true))⟩,
          ⟨some 22, .bin .eql 3 (.tmp 19) (.tmp 21), (some (17, true))⟩,
          ⟨some 23, .pick (.tmp 17) (.tmp 22) (.const (.bool false)), none⟩,
          ⟨some 4, .mov (.tmp 23), none⟩] [2, 3, 5, 6, 7, 8, 9, 10, 11, 12, 13, 14, 15, 16, 17, 18, 19, 20, 21, 22, 23])
      .ret))
abbrev v_rivuletref_SameFault : List RV := [.tmp 4]
abbrev f_rivuletref_SameFault : FuncId := 61
theorem k_rivuletref_SameFault : closedOf Tryd.prog Tryd.f61 = (false, some true, some v_rivuletref_SameFault, some c_rivuletref_SameFault.plain, 24) := by kernel_rfl
theorem ac_rivuletref_SameFault {args : List AV} {r : AV} (h : aw Tryd.prog c_rivuletref_SameFault (env0 args) (endQ v_rivuletref_SameFault r)) (hargs : args.length ≤ 24 := by decide) (hok : resOK r = true := by rfl) : AC Tryd.prog f_rivuletref_SameFault args r :=
  AC_mk (by kernel_rfl) Tryd.func61 k_rivuletref_SameFault hargs hok (by decide) h

/-- rivulet/rivuletsee.Fault (function 62) -/
def c_rivuletsee_Fault : ACode :=
  (.seq
    (.region false [
        ⟨some 2, .alloc [.lit (.int .i64 0), .lit (.bool false), .lit (.int .i64 0)], none⟩] [])
    (.seq
      (.seq
        (.region false [
            ⟨some 5, .mov (.tmp 0), none⟩,
            ⟨some 6, .eqn false (.tmp 5), none⟩] [5])
        (.cond (.tmp 6)
          (.seq
            (.region false [
                ⟨some 7, .callm 73 [], none⟩,
                ⟨none, .store 3 (.tmp 2) (.tmp 7), none⟩] [0, 6, 7])
            .ret)
          .skip))
      (.seq
        (.region false [
            ⟨some 9, .mov (.tmp 0), none⟩,
            ⟨some 10, .tas 110 (ofVal (.pointer none)) (.tmp 9), none⟩,
            ⟨some 8, .mov (.tmp 10), none⟩,
            ⟨some 11, .ext (.tmp 8) 0, none⟩,
            ⟨some 12, .ext (.tmp 8) 1, none⟩,
            ⟨some 3, .mov (.tmp 11), none⟩,
            ⟨some 4, .mov (.tmp 12), none⟩] [6, 8, 9, 10, 11, 12])
        (.seq
          (.seq
            (.region false [
                ⟨some 13, .mov (.tmp 4), none⟩,
                ⟨some 14, .un .not (.tmp 13), none⟩] [4, 13])
            (.cond (.tmp 14)
              (.seq
                (.region false [
                    ⟨some 15, .mov (.tmp 0), none⟩,
                    ⟨some 16, .callm 74 [.tmp 15], none⟩,
                    ⟨some 17, .callm 51 [.tmp 16], none⟩,
                    ⟨none, .store 3 (.tmp 2) (.tmp 17), none⟩] [0, 3, 14, 15, 16, 17])
                .ret)
              .skip))
          (.seq
            (.seq
              (.region false [
                  ⟨some 18, .mov (.tmp 3), none⟩,
                  ⟨some 19, .eqp false (.tmp 18), none⟩,
                  ⟨some 20, .mov (.tmp 19), none⟩,
                  ⟨some 21, .mov (.tmp 3), (some (20, false))⟩,
                  ⟨some 22, .nilchk (.tmp 21), (some (20, false))⟩,
                  ⟨some 23, .faddr 1 1 (.tmp 22), (some (20, false))⟩,
                  ⟨some 24, .load false 1 (.tmp 23), (some (20, false))⟩,
                  ⟨some 25, .eqn false (.tmp 24), (some (20, false))⟩,
                  ⟨some 26, .pick (.tmp 20) (.const (.bool true)) (.tmp 25), none⟩] [0, 14, 18, 19, 20, 21, 22, 23, 24, 25])
              (.cond (.tmp 26)
                (.seq
                  (.region false [
                      ⟨some 27, .callm 51 [.const (.int .i64 (-1))], none⟩,
                      ⟨none, .store 3 (.tmp 2) (.tmp 27), none⟩] [3, 26, 27])
                  .ret)
                .skip))
            (.seq
              (.region true [
                  ⟨some 28, .mov (.tmp 3), none⟩,
                  ⟨some 29, .nilchk (.tmp 28), none⟩,
                  ⟨some 30, .faddr 1 1 (.tmp 29), none⟩,
                  ⟨some 31, .load false 1 (.tmp 30), none⟩,
                  ⟨some 32, .call 74 [.tmp 31], none⟩,
                  ⟨some 33, .mov (.tmp 3), none⟩,
                  ⟨some 34, .nilchk (.tmp 33), none⟩,
                  ⟨some 35, .faddr 0 1 (.tmp 34), none⟩,
                  ⟨some 36, .load false 1 (.tmp 35), none⟩,
                  ⟨some 37, .call 75 [.tmp 32, .tmp 36], none⟩,
                  ⟨none, .store 3 (.tmp 2) (.tmp 37), none⟩] [3, 26, 28, 29, 30, 31, 32, 33, 34, 35, 36, 37])
              .ret))))))
abbrev v_rivuletsee_Fault : List RV := [.cell true 3 2]
abbrev f_rivuletsee_Fault : FuncId := 62
theorem k_rivuletsee_Fault : closedOf Tryd.prog Tryd.f62 = (false, some true, some v_rivuletsee_Fault, some c_rivuletsee_Fault.plain, 38) := by kernel_rfl
theorem ac_rivuletsee_Fault {args : List AV} {r : AV} (h : aw Tryd.prog c_rivuletsee_Fault (env0 args) (endQ v_rivuletsee_Fault r)) (hargs : args.length ≤ 38 := by decide) (hok : resOK r = true := by rfl) : AC Tryd.prog f_rivuletsee_Fault args r :=
  AC_mk (by kernel_rfl) Tryd.func62 k_rivuletsee_Fault hargs hok (by decide) h

/-- rivulet/rivuletref.None (function 73) -/
def c_rivuletref_None : ACode :=
  (.seq
    (.region false [
        ⟨some 0, .alloc [.lit (.int .i64 0), .lit (.bool false), .lit (.int .i64 0)], none⟩] [])
    (.seq
      (.region false [
          ⟨some 1, .build [.lit (.int .i64 0), .lit (.bool false), .lit (.int .i64 0)] [], none⟩,
          ⟨none, .store 3 (.tmp 0) (.tmp 1), none⟩] [1])
      .ret))
abbrev v_rivuletref_None : List RV := [.cell true 3 0]
abbrev f_rivuletref_None : FuncId := 73
theorem k_rivuletref_None : closedOf Tryd.prog Tryd.f73 = (false, some true, some v_rivuletref_None, some c_rivuletref_None.plain, 2) := by kernel_rfl
theorem ac_rivuletref_None {args : List AV} {r : AV} (h : aw Tryd.prog c_rivuletref_None (env0 args) (endQ v_rivuletref_None r)) (hargs : args.length ≤ 2 := by decide) (hok : resOK r = true := by rfl) : AC Tryd.prog f_rivuletref_None args r :=
  AC_mk (by kernel_rfl) Tryd.func73 k_rivuletref_None hargs hok (by decide) h

/-- rivulet/rivuletsee.sentinel (function 74) -/
def c_rivuletsee_sentinel : ACode :=
  (.seq
    (.region false [
        ⟨some 2, .mov (.const (.int .i64 0)), none⟩] [2])
    (.seq
      (.region false [
          ⟨some 5, .callm 91 [], none⟩,
          ⟨some 3, .mov (.tmp 5), none⟩] [5])
      (.seq
        (.seq
          (.region false [
              ⟨some 4, .mov (.const (.int .i64 0)), none⟩] [])
          (.block 0
            (.loop
              (.seq
                (.seq
                  (.region false [
                      ⟨some 6, .mov (.tmp 4), none⟩,
                      ⟨some 7, .mov (.tmp 3), none⟩,
                      ⟨some 8, .lenl (.tmp 7), none⟩,
                      ⟨some 9, .bin .lss 3 (.tmp 6) (.tmp 8), none⟩] [6, 7, 8])
                  (.cond (.tmp 9)
                    .skip
                    (.exit 0)))
                (.seq
                  (.block 1
                    (.seq
                      (.region false [
                          ⟨some 12, .mov (.tmp 0), none⟩,
                          ⟨some 13, .mov (.tmp 3), none⟩,
                          ⟨some 14, .mov (.tmp 4), none⟩,
                          ⟨some 15, .iaddr 1 (.tmp 13) (.tmp 14), none⟩,
                          ⟨some 16, .load false 1 (.tmp 15), none⟩,
                          ⟨some 17, .callm 92 [.tmp 12, .tmp 16], none⟩] [9, 12, 13, 14, 15, 16])
                      (.cond (.tmp 17)
                        (.seq
                          (.region false [
                              ⟨some 18, .mov (.tmp 4), none⟩,
                              ⟨some 19, .bin .add 3 (.const (.int .i64 101)) (.tmp 18), none⟩,
                              ⟨some 2, .mov (.tmp 19), none⟩] [0, 3, 4, 17, 18, 19])
                          .ret)
                        .skip)) [17])
                  (.region false [
                      ⟨some 10, .mov (.tmp 4), none⟩,
                      ⟨some 11, .bin .add 3 (.tmp 10) (.const (.int .i64 1)), none⟩,
                      ⟨some 4, .mov (.tmp 11), none⟩] [10, 11]))) [] []) [0, 3, 4, 9]))
        (.seq
          (.region false [
              ⟨some 2, .mov (.const (.int .i64 (-1))), none⟩] [])
          .ret))))
abbrev v_rivuletsee_sentinel : List RV := [.tmp 2]
abbrev f_rivuletsee_sentinel : FuncId := 74
theorem k_rivuletsee_sentinel : closedOf Tryd.prog Tryd.f74 = (false, some true, some v_rivuletsee_sentinel, some c_rivuletsee_sentinel.plain, 20) := by kernel_rfl
theorem ac_rivuletsee_sentinel {args : List AV} {r : AV} (h : aw Tryd.prog c_rivuletsee_sentinel (env0 args) (endQ v_rivuletsee_sentinel r)) (hargs : args.length ≤ 20 := by decide) (hok : resOK r = true := by rfl) : AC Tryd.prog f_rivuletsee_sentinel args r :=
  AC_mk (by kernel_rfl) Tryd.func74 k_rivuletsee_sentinel hargs hok (by decide) h

/-- rivulet/rivuletref.Placed (function 75) -/
def c_rivuletref_Placed : ACode :=
  (.seq
    (.region false [
        ⟨some 4, .alloc [.lit (.int .i64 0), .lit (.bool false), .lit (.int .i64 0)], none⟩] [])
    (.seq
      (.seq
        (.region false [
            ⟨some 5, .mov (.tmp 0), none⟩,
            ⟨some 6, .bin .eql 3 (.tmp 5) (.const (.int .i64 0)), none⟩] [5])
        (.cond (.tmp 6)
          (.seq
            (.region false [
                ⟨some 7, .callm 73 [], none⟩,
                ⟨none, .store 3 (.tmp 4) (.tmp 7), none⟩] [0, 1, 6, 7])
            .ret)
          .skip))
      (.seq
        (.region false [
            ⟨some 8, .mov (.tmp 0), none⟩,
            ⟨some 9, .mov (.tmp 1), none⟩,
            ⟨some 10, .build [.lit (.int .i64 0), .lit (.bool false), .lit (.int .i64 0)] [(0, 1, .tmp 8), (1, 1, .const (.bool true)), (2, 1, .tmp 9)], none⟩,
            ⟨none, .store 3 (.tmp 4) (.tmp 10), none⟩] [0, 1, 6, 8, 9, 10])
        .ret)))
abbrev v_rivuletref_Placed : List RV := [.cell true 3 4]
abbrev f_rivuletref_Placed : FuncId := 75
theorem k_rivuletref_Placed : closedOf Tryd.prog Tryd.f75 = (false, some true, some v_rivuletref_Placed, some c_rivuletref_Placed.plain, 11) := by kernel_rfl
theorem ac_rivuletref_Placed {args : List AV} {r : AV} (h : aw Tryd.prog c_rivuletref_Placed (env0 args) (endQ v_rivuletref_Placed r)) (hargs : args.length ≤ 11 := by decide) (hok : resOK r = true := by rfl) : AC Tryd.prog f_rivuletref_Placed args r :=
  AC_mk (by kernel_rfl) Tryd.func75 k_rivuletref_Placed hargs hok (by decide) h

/-- rivulet/rivuletsee.sentinels (function 91) -/
def c_rivuletsee_sentinels : ACode :=
  (.seq
    (.region false [
        ⟨some 0, .mov (.const (.slice none 0 0)), none⟩] [0])
    (.seq
      (.region false [
          ⟨some 1, .load false 1 (.global 8), none⟩,
          ⟨some 2, .load false 1 (.global 9), none⟩,
          ⟨some 3, .load false 1 (.global 3), none⟩,
          ⟨some 4, .load false 1 (.global 0), none⟩,
          ⟨some 5, .load false 1 (.global 10), none⟩,
          ⟨some 6, .load false 1 (.global 11), none⟩,
          ⟨some 7, .load false 1 (.global 2), none⟩,
          ⟨some 8, .load false 1 (.global 4), none⟩,
          ⟨some 9, .load false 1 (.global 1), none⟩,
          ⟨some 10, .load false 1 (.global 12), none⟩,
          ⟨some 11, .load false 1 (.global 13), none⟩,
          ⟨some 12, .load false 1 (.global 14), none⟩,
          ⟨some 13, .load false 1 (.global 15), none⟩,
          ⟨some 14, .load false 1 (.global 16), none⟩,
          ⟨some 15, .bslice 14 1 [.tmp 1, .tmp 2, .tmp 3, .tmp 4, .tmp 5, .tmp 6, .tmp 7, .tmp 8, .tmp 9, .tmp 10, .tmp 11, .tmp 12, .tmp 13, .tmp 14], none⟩,
          ⟨some 0, .mov (.tmp 15), none⟩] [1, 2, 3, 4, 5, 6, 7, 8, 9, 10, 11, 12, 13, 14, 15])
      .ret))
abbrev v_rivuletsee_sentinels : List RV := [.tmp 0]
abbrev f_rivuletsee_sentinels : FuncId := 91
theorem k_rivuletsee_sentinels : closedOf Tryd.prog Tryd.f91 = (false, some true, some v_rivuletsee_sentinels, some c_rivuletsee_sentinels.plain, 16) := by kernel_rfl
theorem ac_rivuletsee_sentinels {args : List AV} {r : AV} (h : aw Tryd.prog c_rivuletsee_sentinels (env0 args) (endQ v_rivuletsee_sentinels r)) (hargs : args.length ≤ 16 := by decide) (hok : resOK r = true := by rfl) : AC Tryd.prog f_rivuletsee_sentinels args r :=
  AC_mk (by kernel_rfl) Tryd.func91 k_rivuletsee_sentinels hargs hok (by decide) h

/-- rivulet/rivuletsee.Alike (function 92) -/
def c_rivuletsee_Alike : ACode :=
  (.seq
    (.region false [
        ⟨some 4, .mov (.const (.bool false)), none⟩] [4])
    (.seq
      (.seq
        (.region false [
            ⟨some 5, .mov (.tmp 0), none⟩,
            ⟨some 6, .eqn false (.tmp 5), none⟩,
            ⟨some 7, .mov (.tmp 6), none⟩,
            ⟨some 8, .mov (.tmp 1), (some (7, false))⟩,
            ⟨some 9, .eqn false (.tmp 8), (some (7, false))⟩,
            ⟨some 10, .pick (.tmp 7) (.const (.bool true)) (.tmp 9), none⟩] [5, 6, 7, 8, 9])
        (.cond (.tmp 10)
          (.seq
            (.region false [
                ⟨some 11, .mov (.tmp 0), none⟩,
                ⟨some 12, .eqn false (.tmp 11), none⟩,
                ⟨some 13, .mov (.tmp 12), none⟩,
                ⟨some 14, .mov (.tmp 1), (some (13, true))⟩,
                ⟨some 15, .eqn false (.tmp 14), (some (13, true))⟩,
                ⟨some 16, .pick (.tmp 13) (.tmp 15) (.const (.bool false)), none⟩,
                ⟨some 4, .mov (.tmp 16), none⟩] [0, 1, 10, 11, 12, 13, 14, 15, 16])
            .ret)
          .skip))
      (.seq
        (.region false [
            ⟨some 17, .mov (.tmp 0), none⟩,
            ⟨some 18, .mov (.tmp 1), none⟩,
            ⟨some 19, .eqi false (.tmp 17) (.tmp 18), none⟩,
            ⟨some 4, .mov (.tmp 19), none⟩] [0, 1, 10, 17, 18, 19])
        .ret)))
abbrev v_rivuletsee_Alike : List RV := [.tmp 4]
abbrev f_rivuletsee_Alike : FuncId := 92
theorem k_rivuletsee_Alike : closedOf Tryd.prog Tryd.f92 = (false, some true, some v_rivuletsee_Alike, some c_rivuletsee_Alike.plain, 20) := by kernel_rfl
theorem ac_rivuletsee_Alike {args : List AV} {r : AV} (h : aw Tryd.prog c_rivuletsee_Alike (env0 args) (endQ v_rivuletsee_Alike r)) (hargs : args.length ≤ 20 := by decide) (hok : resOK r = true := by rfl) : AC Tryd.prog f_rivuletsee_Alike args r :=
  AC_mk (by kernel_rfl) Tryd.func92 k_rivuletsee_Alike hargs hok (by decide) h


end Go.Proofs.YtodnphnbnneegaaDoor.VL
