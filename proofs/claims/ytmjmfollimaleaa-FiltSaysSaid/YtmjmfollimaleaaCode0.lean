/- Bodies, printed by gen.py (this session's program). -/
import Derived.Test.YtmjmfollimaleaaVL20
import Derived.Test.YtmjmfollimaleaaProg
set_option linter.unusedVariables false
set_option maxRecDepth 100000
namespace Go.Proofs.Ytmjmfollimaleaa.VL
open Go.Proofs

/-- rivulet/rivuletlaw14.FiltOnes (function 3) -/
def c_rivuletlaw14_FiltOnes : ACode :=
  (.seq
    (.region false [
        ⟨some 3, .box (.tmp 0), none⟩,
        ⟨some 6, .mov (.const (.bool false)), none⟩] [0, 6])
    (.seq
      (.region false [
          ⟨some 12, .callm 8 [], none⟩,
          ⟨some 7, .mov (.tmp 12), none⟩] [12])
      (.seq
        (.seq
          (.region false [
              ⟨some 13, .mov (.tmp 7), none⟩,
              ⟨some 14, .un .not (.tmp 13), none⟩] [13])
          (.cond (.tmp 14)
            (.seq
              (.region false [
                  ⟨some 6, .mov (.const (.bool false)), none⟩] [1, 2, 3, 7, 14])
              .ret)
            .skip))
        (.seq
          (.seq
            (.region false [
                ⟨some 15, .load true 4 (.tmp 3), none⟩,
                ⟨some 16, .bslice 1 4 [.tmp 15], none⟩,
                ⟨some 17, .callm 9 [.tmp 16], none⟩,
                ⟨some 18, .un .not (.tmp 17), none⟩] [14, 15, 16, 17])
            (.cond (.tmp 18)
              (.seq
                (.region false [
                    ⟨some 19, .mov (.tmp 7), none⟩,
                    ⟨some 6, .mov (.tmp 19), none⟩] [1, 2, 3, 7, 18, 19])
                .ret)
              .skip))
          (.seq
            (.region false [
                ⟨some 20, .load true 4 (.tmp 3), none⟩,
                ⟨some 21, .build [.lit (.int .i64 0), .lit (.int .u32 0), .lit (.bool false), .sl .nil 0 []] [], none⟩,
                ⟨some 22, .bslice 2 4 [.tmp 20, .tmp 21], none⟩,
                ⟨some 23, .callm 10 [.tmp 22], none⟩,
                ⟨some 8, .alloc [.lit (.bool false), .sl .nil 0 []], none⟩,
                ⟨none, .store 2 (.tmp 8) (.tmp 23), none⟩] [18, 20, 21, 22, 23])
            (.seq
              (.region false [
                  ⟨some 24, .mov (.tmp 1), none⟩,
                  ⟨some 25, .bslice 1 1 [.tmp 24], none⟩,
                  ⟨some 26, .build [.lit (.int .i64 0), .lit (.int .u32 0), .lit (.bool false), .sl .nil 0 []] [(3, 1, .tmp 25)], none⟩,
                  ⟨some 27, .bslice 1 4 [.tmp 26], none⟩,
                  ⟨some 28, .callm 10 [.tmp 27], none⟩,
                  ⟨some 9, .alloc [.lit (.bool false), .sl .nil 0 []], none⟩,
                  ⟨none, .store 2 (.tmp 9) (.tmp 28), none⟩] [24, 25, 26, 27, 28])
              (.seq
                (.region false [
                    ⟨some 29, .mov (.tmp 1), none⟩,
                    ⟨some 30, .bslice 1 1 [.tmp 29], none⟩,
                    ⟨some 31, .build [.lit (.int .i64 0), .lit (.int .u32 0), .lit (.bool false), .sl .nil 0 []] [(3, 1, .tmp 30)], none⟩,
                    ⟨some 32, .mov (.tmp 1), none⟩,
                    ⟨some 33, .bslice 1 1 [.tmp 32], none⟩,
                    ⟨some 34, .build [.lit (.int .i64 0), .lit (.int .u32 0), .lit (.bool false), .sl .nil 0 []] [(2, 1, .const (.bool true)), (3, 1, .tmp 33)], none⟩,
                    ⟨some 35, .bslice 2 4 [.tmp 31, .tmp 34], none⟩,
                    ⟨some 36, .callm 10 [.tmp 35], none⟩,
                    ⟨some 10, .alloc [.lit (.bool false), .sl .nil 0 []], none⟩,
                    ⟨none, .store 2 (.tmp 10) (.tmp 36), none⟩] [29, 30, 31, 32, 33, 34, 35, 36])
                (.seq
                  (.region false [
                      ⟨some 37, .load true 4 (.tmp 3), none⟩,
                      ⟨some 38, .bslice 1 4 [.tmp 37], none⟩,
                      ⟨some 39, .callm 10 [.tmp 38], none⟩,
                      ⟨some 11, .alloc [.lit (.bool false), .sl .nil 0 []], none⟩,
                      ⟨none, .store 2 (.tmp 11) (.tmp 39), none⟩] [37, 38, 39])
                  (.seq
                    (.region true [
                        ⟨some 40, .mov (.tmp 7), none⟩,
                        ⟨some 41, .mov (.tmp 40), none⟩,
                        ⟨some 42, .load true 2 (.tmp 11), (some (41, true))⟩,
                        ⟨some 43, .mov (.tmp 1), (some (41, true))⟩,
                        ⟨some 44, .call 11 [.tmp 42, .tmp 43], (some (41, true))⟩,
                        ⟨some 45, .load true 4 (.tmp 3), (some (41, true))⟩,
                        ⟨some 46, .mov (.tmp 1), (some (41, true))⟩,
                        ⟨some 47, .call 12 [.tmp 45, .tmp 46], (some (41, true))⟩,
                        ⟨some 48, .eqb false 4 (.tmp 44) (.tmp 47), (some (41, true))⟩,
                        ⟨some 49, .pick (.tmp 41) (.tmp 48) (.const (.bool false)), none⟩,
                        ⟨some 50, .mov (.tmp 49), none⟩,
                        ⟨some 51, .faddr 0 1 (.tmp 11), (some (50, true))⟩,
                        ⟨some 52, .load false 1 (.tmp 51), (some (50, true))⟩,
                        ⟨some 53, .faddr 2 1 (.tmp 3), (some (50, true))⟩,
                        ⟨some 54, .load false 1 (.tmp 53), (some (50, true))⟩,
                        ⟨some 55, .un .not (.tmp 54), (some (50, true))⟩,
                        ⟨some 56, .eqb false 4 (.tmp 52) (.tmp 55), (some (50, true))⟩,
                        ⟨some 57, .pick (.tmp 50) (.tmp 56) (.const (.bool false)), none⟩,
                        ⟨some 58, .mov (.tmp 57), none⟩,
                        ⟨some 59, .load true 2 (.tmp 8), (some (58, true))⟩,
                        ⟨some 60, .mov (.tmp 1), (some (58, true))⟩,
                        ⟨some 61, .call 11 [.tmp 59, .tmp 60], (some (58, true))⟩,
                        ⟨some 62, .pick (.tmp 58) (.tmp 61) (.const (.bool false)), none⟩,
                        ⟨some 63, .mov (.tmp 62), none⟩,
                        ⟨some 64, .faddr 1 1 (.tmp 8), (some (63, true))⟩,
                        ⟨some 65, .load false 1 (.tmp 64), (some (63, true))⟩,
                        ⟨some 66, .lenl (.tmp 65), (some (63, true))⟩,
                        ⟨some 67, .bin .eql 3 (.tmp 66) (.const (.int .i64 0)), (some (63, true))⟩,
                        ⟨some 68, .pick (.tmp 63) (.tmp 67) (.const (.bool false)), none⟩,
                        ⟨some 69, .mov (.tmp 68), none⟩,
                        ⟨some 70, .load true 2 (.tmp 9), (some (69, true))⟩,
                        ⟨some 71, .mov (.tmp 2), (some (69, true))⟩,
                        ⟨some 72, .call 11 [.tmp 70, .tmp 71], (some (69, true))⟩,
                        ⟨some 73, .mov (.tmp 1), (some (69, true))⟩,
                        ⟨some 74, .mov (.tmp 2), (some (69, true))⟩,
                        ⟨some 75, .bin .neq 23 (.tmp 73) (.tmp 74), (some (69, true))⟩,
                        ⟨some 76, .eqb false 4 (.tmp 72) (.tmp 75), (some (69, true))⟩,
                        ⟨some 77, .pick (.tmp 69) (.tmp 76) (.const (.bool false)), none⟩,
                        ⟨some 78, .mov (.tmp 77), none⟩,
                        ⟨some 79, .load true 2 (.tmp 10), (some (78, true))⟩,
                        ⟨some 80, .mov (.tmp 1), (some (78, true))⟩,
                        ⟨some 81, .call 11 [.tmp 79, .tmp 80], (some (78, true))⟩,
                        ⟨some 82, .pick (.tmp 78) (.tmp 81) (.const (.bool false)), none⟩,
                        ⟨some 83, .mov (.tmp 82), none⟩,
                        ⟨some 84, .load true 2 (.tmp 10), (some (83, true))⟩,
                        ⟨some 85, .mov (.tmp 2), (some (83, true))⟩,
                        ⟨some 86, .call 11 [.tmp 84, .tmp 85], (some (83, true))⟩,
                        ⟨some 87, .pick (.tmp 83) (.tmp 86) (.const (.bool false)), none⟩,
                        ⟨some 6, .mov (.tmp 87), none⟩] [1, 2, 3, 7, 8, 9, 10, 11, 40, 41, 42, 43, 44, 45, 46, 47, 48, 49, 50, 51, 52, 53, 54, 55, 56, 57, 58, 59, 60, 61, 62, 63, 64, 65, 66, 67, 68, 69, 70, 71, 72, 73, 74, 75, 76, 77, 78, 79, 80, 81, 82, 83, 84, 85, 86, 87])
                    .ret)))))))))
abbrev v_rivuletlaw14_FiltOnes : List RV := [.tmp 6]
abbrev f_rivuletlaw14_FiltOnes : FuncId := 3
theorem k_rivuletlaw14_FiltOnes : closedOf Try.prog Try.f3 = (false, some true, some v_rivuletlaw14_FiltOnes, some c_rivuletlaw14_FiltOnes.plain, 88) := by kernel_rfl
theorem ac_rivuletlaw14_FiltOnes {args : List AV} {r : AV} (h : aw Try.prog c_rivuletlaw14_FiltOnes (env0 args) (endQ v_rivuletlaw14_FiltOnes r)) (hargs : args.length ≤ 88 := by decide) (hok : resOK r = true := by rfl) : AC Try.prog f_rivuletlaw14_FiltOnes args r :=
  AC_mk (by kernel_rfl) Try.func3 k_rivuletlaw14_FiltOnes hargs hok (by decide) h
theorem am_rivuletlaw14_FiltOnes {args : List AV} {c0 c1 : List (Nat × List AV)} {r : AV} (h : aw Try.prog c_rivuletlaw14_FiltOnes (env0M args c0) (endM v_rivuletlaw14_FiltOnes r (c0.map (·.1)) c1)) (hc0 : ∀ q ∈ c0, 100000 ≤ q.1) (hargs : args.length ≤ 88 := by decide) (hok : resOK r = true := by rfl) : AM Try.prog f_rivuletlaw14_FiltOnes args c0 r c1 :=
  AM_mk (by kernel_rfl) Try.func3 k_rivuletlaw14_FiltOnes hargs hok (by decide) hc0 h

/-- rivulet/rivuletlaw14.FiltKeys (function 4) -/
def c_rivuletlaw14_FiltKeys : ACode :=
  (.seq
    (.region false [
        ⟨some 6, .mov (.const (.bool false)), none⟩] [6])
    (.seq
      (.region false [
          ⟨some 12, .callm 8 [], none⟩,
          ⟨some 7, .mov (.tmp 12), none⟩] [12])
      (.seq
        (.seq
          (.region false [
              ⟨some 13, .mov (.tmp 7), none⟩,
              ⟨some 14, .un .not (.tmp 13), none⟩] [7, 13])
          (.cond (.tmp 14)
            (.seq
              (.region false [
                  ⟨some 6, .mov (.const (.bool false)), none⟩] [0, 1, 2, 14])
              .ret)
            .skip))
        (.seq
          (.seq
            (.region false [
                ⟨some 15, .mov (.tmp 0), none⟩,
                ⟨some 16, .callm 9 [.tmp 15], none⟩,
                ⟨some 17, .un .not (.tmp 16), none⟩] [14, 15, 16])
            (.cond (.tmp 17)
              (.seq
                (.region false [
                    ⟨some 6, .mov (.const (.bool true)), none⟩] [0, 1, 2, 17])
                .ret)
              .skip))
          (.seq
            (.region false [
                ⟨some 18, .mov (.tmp 0), none⟩,
                ⟨some 19, .callm 10 [.tmp 18], none⟩,
                ⟨some 8, .alloc [.lit (.bool false), .sl .nil 0 []], none⟩,
                ⟨none, .store 2 (.tmp 8) (.tmp 19), none⟩] [0, 17, 18, 19])
            (.seq
              (.region false [
                  ⟨some 20, .load true 2 (.tmp 8), none⟩,
                  ⟨some 21, .mov (.tmp 1), none⟩,
                  ⟨some 22, .callm 13 [.tmp 20, .tmp 21], none⟩,
                  ⟨some 9, .mov (.tmp 22), none⟩] [20, 21, 22])
              (.seq
                (.seq
                  (.region false [
                      ⟨some 23, .faddr 0 1 (.tmp 8), none⟩,
                      ⟨some 24, .load false 1 (.tmp 23), none⟩] [23])
                  (.cond (.tmp 24)
                    (.seq
                      (.region false [
                          ⟨some 25, .mov (.tmp 9), none⟩,
                          ⟨some 26, .lenl (.tmp 25), none⟩,
                          ⟨some 27, .bin .eql 3 (.tmp 26) (.const (.int .i64 1)), none⟩,
                          ⟨some 28, .mov (.tmp 27), none⟩,
                          ⟨some 29, .mov (.tmp 9), (some (28, true))⟩,
                          ⟨some 30, .iaddr 2 (.tmp 29) (.const (.int .i64 0)), (some (28, true))⟩,
                          ⟨some 31, .faddr 0 1 (.tmp 30), (some (28, true))⟩,
                          ⟨some 32, .load false 1 (.tmp 31), (some (28, true))⟩,
                          ⟨some 33, .bin .eql 23 (.tmp 32) (.const (.int .u32 0)), (some (28, true))⟩,
                          ⟨some 34, .pick (.tmp 28) (.tmp 33) (.const (.bool false)), none⟩,
                          ⟨some 35, .mov (.tmp 34), none⟩,
                          ⟨some 36, .mov (.tmp 9), (some (35, true))⟩,
                          ⟨some 37, .iaddr 2 (.tmp 36) (.const (.int .i64 0)), (some (35, true))⟩,
                          ⟨some 38, .faddr 1 1 (.tmp 37), (some (35, true))⟩,
                          ⟨some 39, .load false 1 (.tmp 38), (some (35, true))⟩,
                          ⟨some 40, .mov (.tmp 1), (some (35, true))⟩,
                          ⟨some 41, .bin .eql 23 (.tmp 39) (.tmp 40), (some (35, true))⟩,
                          ⟨some 42, .pick (.tmp 35) (.tmp 41) (.const (.bool false)), none⟩,
                          ⟨some 6, .mov (.tmp 42), none⟩] [1, 2, 8, 9, 24, 25, 26, 27, 28, 29, 30, 31, 32, 33, 34, 35, 36, 37, 38, 39, 40, 41, 42])
                      .ret)
                    .skip))
                (.seq
                  (.region false [
                      ⟨some 10, .mov (.const (.bool false)), none⟩] [24])
                  (.seq
                    (.seq
                      (.region false [
                          ⟨some 11, .mov (.const (.int .i64 0)), none⟩] [])
                      (.block 0
                        (.loop
                          (.seq
                            (.seq
                              (.region false [
                                  ⟨some 43, .mov (.tmp 11), none⟩,
                                  ⟨some 44, .mov (.tmp 9), none⟩,
                                  ⟨some 45, .lenl (.tmp 44), none⟩,
                                  ⟨some 46, .bin .lss 3 (.tmp 43) (.tmp 45), none⟩] [43, 44, 45])
                              (.cond (.tmp 46)
                                .skip
                                (.exit 0)))
                            (.seq
                              (.block 1
                                (.seq
                                  (.seq
                                    (.region true [
                                        ⟨some 49, .mov (.tmp 9), none⟩,
                                        ⟨some 50, .mov (.tmp 11), none⟩,
                                        ⟨some 51, .iaddr 2 (.tmp 49) (.tmp 50), none⟩,
                                        ⟨some 52, .faddr 1 1 (.tmp 51), none⟩,
                                        ⟨some 53, .load false 1 (.tmp 52), none⟩,
                                        ⟨some 54, .mov (.tmp 1), none⟩,
                                        ⟨some 55, .bin .neq 23 (.tmp 53) (.tmp 54), none⟩,
                                        ⟨some 56, .mov (.tmp 55), none⟩,
                                        ⟨some 57, .load true 2 (.tmp 8), (some (56, false))⟩,
                                        ⟨some 58, .mov (.tmp 9), (some (56, false))⟩,
                                        ⟨some 59, .mov (.tmp 11), (some (56, false))⟩,
                                        ⟨some 60, .iaddr 2 (.tmp 58) (.tmp 59), (some (56, false))⟩,
                                        ⟨some 61, .faddr 0 1 (.tmp 60), (some (56, false))⟩,
                                        ⟨some 62, .load false 1 (.tmp 61), (some (56, false))⟩,
                                        ⟨some 63, .call 11 [.tmp 57, .tmp 62], (some (56, false))⟩,
                                        ⟨some 64, .un .not (.tmp 63), (some (56, false))⟩,
                                        ⟨some 65, .pick (.tmp 56) (.const (.bool true)) (.tmp 64), none⟩,
                                        ⟨some 66, .mov (.tmp 65), none⟩,
                                        ⟨some 67, .mov (.tmp 11), (some (66, false))⟩,
                                        ⟨some 68, .bin .gtr 3 (.tmp 67) (.const (.int .i64 0)), (some (66, false))⟩,
                                        ⟨some 69, .mov (.tmp 68), (some (66, false))⟩,
                                        ⟨some 70, .mov (.tmp 9), (some (69, true))⟩,
                                        ⟨some 71, .mov (.tmp 11), (some (69, true))⟩,
                                        ⟨some 72, .bin .sub 3 (.tmp 71) (.const (.int .i64 1)), (some (69, true))⟩,
                                        ⟨some 73, .iaddr 2 (.tmp 70) (.tmp 72), (some (69, true))⟩,
                                        ⟨some 74, .faddr 0 1 (.tmp 73), (some (69, true))⟩,
                                        ⟨some 75, .load false 1 (.tmp 74), (some (69, true))⟩,
                                        ⟨some 76, .mov (.tmp 9), (some (69, true))⟩,
                                        ⟨some 77, .mov (.tmp 11), (some (69, true))⟩,
                                        ⟨some 78, .iaddr 2 (.tmp 76) (.tmp 77), (some (69, true))⟩,
                                        ⟨some 79, .faddr 0 1 (.tmp 78), (some (69, true))⟩,
                                        ⟨some 80, .load false 1 (.tmp 79), (some (69, true))⟩,
                                        ⟨some 81, .bin .geq 23 (.tmp 75) (.tmp 80), (some (69, true))⟩,
                                        ⟨some 82, .pick (.tmp 69) (.tmp 81) (.const (.bool false)), (some (66, false))⟩,
                                        ⟨some 83, .pick (.tmp 66) (.const (.bool true)) (.tmp 82), none⟩] [46, 49, 50, 51, 52, 53, 54, 55, 56, 57, 58, 59, 60, 61, 62, 63, 64, 65, 66, 67, 68, 69, 70, 71, 72, 73, 74, 75, 76, 77, 78, 79, 80, 81, 82])
                                    (.cond (.tmp 83)
                                      (.seq
                                        (.region false [
                                            ⟨some 6, .mov (.const (.bool false)), none⟩] [1, 2, 8, 9, 10, 11, 83])
                                        .ret)
                                      .skip))
                                  (.region false [
                                      ⟨some 84, .mov (.tmp 10), none⟩,
                                      ⟨some 85, .mov (.tmp 84), none⟩,
                                      ⟨some 86, .mov (.tmp 9), (some (85, false))⟩,
                                      ⟨some 87, .mov (.tmp 11), (some (85, false))⟩,
                                      ⟨some 88, .iaddr 2 (.tmp 86) (.tmp 87), (some (85, false))⟩,
                                      ⟨some 89, .faddr 0 1 (.tmp 88), (some (85, false))⟩,
                                      ⟨some 90, .load false 1 (.tmp 89), (some (85, false))⟩,
                                      ⟨some 91, .mov (.tmp 2), (some (85, false))⟩,
                                      ⟨some 92, .bin .eql 23 (.tmp 90) (.tmp 91), (some (85, false))⟩,
                                      ⟨some 93, .pick (.tmp 85) (.const (.bool true)) (.tmp 92), none⟩,
                                      ⟨some 10, .mov (.tmp 93), none⟩] [83, 84, 85, 86, 87, 88, 89, 90, 91, 92, 93])) [])
                              (.region false [
                                  ⟨some 47, .mov (.tmp 11), none⟩,
                                  ⟨some 48, .bin .add 3 (.tmp 47) (.const (.int .i64 1)), none⟩,
                                  ⟨some 11, .mov (.tmp 48), none⟩] [47, 48]))) [] []) [1, 9, 11, 46]))
                    (.seq
                      (.region false [
                          ⟨some 94, .mov (.tmp 10), none⟩,
                          ⟨some 95, .load true 2 (.tmp 8), none⟩,
                          ⟨some 96, .mov (.tmp 2), none⟩,
                          ⟨some 97, .callm 11 [.tmp 95, .tmp 96], none⟩,
                          ⟨some 98, .eqb false 4 (.tmp 94) (.tmp 97), none⟩,
                          ⟨some 6, .mov (.tmp 98), none⟩] [2, 8, 10, 94, 95, 96, 97, 98])
                      .ret))))))))))
abbrev v_rivuletlaw14_FiltKeys : List RV := [.tmp 6]
abbrev f_rivuletlaw14_FiltKeys : FuncId := 4
theorem k_rivuletlaw14_FiltKeys : closedOf Try.prog Try.f4 = (false, some true, some v_rivuletlaw14_FiltKeys, some c_rivuletlaw14_FiltKeys.plain, 99) := by kernel_rfl
theorem ac_rivuletlaw14_FiltKeys {args : List AV} {r : AV} (h : aw Try.prog c_rivuletlaw14_FiltKeys (env0 args) (endQ v_rivuletlaw14_FiltKeys r)) (hargs : args.length ≤ 99 := by decide) (hok : resOK r = true := by rfl) : AC Try.prog f_rivuletlaw14_FiltKeys args r :=
  AC_mk (by kernel_rfl) Try.func4 k_rivuletlaw14_FiltKeys hargs hok (by decide) h
theorem am_rivuletlaw14_FiltKeys {args : List AV} {c0 c1 : List (Nat × List AV)} {r : AV} (h : aw Try.prog c_rivuletlaw14_FiltKeys (env0M args c0) (endM v_rivuletlaw14_FiltKeys r (c0.map (·.1)) c1)) (hc0 : ∀ q ∈ c0, 100000 ≤ q.1) (hargs : args.length ≤ 99 := by decide) (hok : resOK r = true := by rfl) : AM Try.prog f_rivuletlaw14_FiltKeys args c0 r c1 :=
  AM_mk (by kernel_rfl) Try.func4 k_rivuletlaw14_FiltKeys hargs hok (by decide) hc0 h

/-- rivulet/rivuletlaw14.FiltLets (function 5) -/
def c_rivuletlaw14_FiltLets : ACode :=
  (.seq
    (.region false [
        ⟨some 5, .box (.tmp 1), none⟩,
        ⟨some 8, .mov (.const (.bool false)), none⟩] [1, 8])
    (.seq
      (.region false [
          ⟨some 16, .callm 8 [], none⟩,
          ⟨some 9, .mov (.tmp 16), none⟩] [16])
      (.seq
        (.seq
          (.region false [
              ⟨some 17, .mov (.tmp 9), none⟩,
              ⟨some 18, .un .not (.tmp 17), none⟩] [9, 17])
          (.cond (.tmp 18)
            (.seq
              (.region false [
                  ⟨some 8, .mov (.const (.bool false)), none⟩] [0, 2, 3, 5, 18])
              .ret)
            .skip))
        (.seq
          (.seq
            (.region false [
                ⟨some 19, .mov (.tmp 0), none⟩,
                ⟨some 20, .callm 9 [.tmp 19], none⟩,
                ⟨some 21, .un .not (.tmp 20), none⟩,
                ⟨some 22, .mov (.tmp 21), none⟩,
                ⟨some 23, .load true 4 (.tmp 5), (some (22, false))⟩,
                ⟨some 24, .bslice 1 4 [.tmp 23], (some (22, false))⟩,
                ⟨some 25, .callm 9 [.tmp 24], (some (22, false))⟩,
                ⟨some 26, .un .not (.tmp 25), (some (22, false))⟩,
                ⟨some 27, .pick (.tmp 22) (.const (.bool true)) (.tmp 26), none⟩] [18, 19, 20, 21, 22, 23, 24, 25, 26])
            (.cond (.tmp 27)
              (.seq
                (.region false [
                    ⟨some 8, .mov (.const (.bool true)), none⟩] [0, 2, 3, 5, 27])
                .ret)
              .skip))
          (.seq
            (.region false [
                ⟨some 28, .mov (.tmp 0), none⟩,
                ⟨some 29, .callm 10 [.tmp 28], none⟩,
                ⟨some 10, .alloc [.lit (.bool false), .sl .nil 0 []], none⟩,
                ⟨none, .store 2 (.tmp 10) (.tmp 29), none⟩] [27, 28, 29])
            (.seq
              (.region false [
                  ⟨some 11, .mov (.const (.bool false)), none⟩] [])
              (.seq
                (.seq
                  (.region false [
                      ⟨some 12, .mov (.const (.int .i64 0)), none⟩] [])
                  (.block 0
                    (.loop
                      (.seq
                        (.seq
                          (.region false [
                              ⟨some 30, .mov (.tmp 12), none⟩,
                              ⟨some 31, .mov (.tmp 0), none⟩,
                              ⟨some 32, .lenl (.tmp 31), none⟩,
                              ⟨some 33, .bin .lss 3 (.tmp 30) (.tmp 32), none⟩] [30, 31, 32])
                          (.cond (.tmp 33)
                            .skip
                            (.exit 0)))
                        (.seq
                          (.block 1
                            (.region false [
                                ⟨some 36, .mov (.tmp 11), none⟩,
                                ⟨some 37, .mov (.tmp 36), none⟩,
                                ⟨some 38, .mov (.tmp 0), (some (37, false))⟩,
                                ⟨some 39, .mov (.tmp 12), (some (37, false))⟩,
                                ⟨some 40, .iaddr 4 (.tmp 38) (.tmp 39), (some (37, false))⟩,
                                ⟨some 41, .load true 4 (.tmp 40), (some (37, false))⟩,
                                ⟨some 42, .mov (.tmp 2), (some (37, false))⟩,
                                ⟨some 43, .callm 12 [.tmp 41, .tmp 42], (some (37, false))⟩,
                                ⟨some 44, .pick (.tmp 37) (.const (.bool true)) (.tmp 43), none⟩,
                                ⟨some 11, .mov (.tmp 44), none⟩] [33, 36, 37, 38, 39, 40, 41, 42, 43, 44]) [])
                          (.region false [
                              ⟨some 34, .mov (.tmp 12), none⟩,
                              ⟨some 35, .bin .add 3 (.tmp 34) (.const (.int .i64 1)), none⟩,
                              ⟨some 12, .mov (.tmp 35), none⟩] [34, 35]))) [] []) [12, 33]))
                (.seq
                  (.region false [
                      ⟨some 45, .mov (.tmp 3), none⟩,
                      ⟨some 46, .mov (.tmp 0), none⟩,
                      ⟨some 47, .lenl (.tmp 46), none⟩,
                      ⟨some 48, .bin .add 3 (.tmp 47) (.const (.int .i64 1)), none⟩,
                      ⟨some 49, .callm 14 [.tmp 45, .tmp 48], none⟩,
                      ⟨some 13, .mov (.tmp 49), none⟩] [3, 45, 46, 47, 48, 49])
                  (.seq
                    (.region true [
                        ⟨some 50, .bslice 0 4 [], none⟩,
                        ⟨some 51, .mov (.tmp 0), none⟩,
                        ⟨some 52, .mov (.tmp 13), none⟩,
                        ⟨some 53, .slc 4 (.tmp 51) (some (.tmp 52)) none, none⟩,
                        ⟨some 54, .app 4 40 [] (.tmp 50) (.tmp 53), none⟩,
                        ⟨some 55, .mov (.tmp 0), none⟩,
                        ⟨some 56, .mov (.tmp 13), none⟩,
                        ⟨some 57, .slc 4 (.tmp 55) none (some (.tmp 56)), none⟩,
                        ⟨some 58, .app 4 40 [50] (.tmp 54) (.tmp 57), none⟩,
                        ⟨some 14, .mov (.tmp 58), none⟩] [13, 50, 51, 52, 53, 54, 55, 56, 57, 58])
                    (.seq
                      (.region true [
                          ⟨some 59, .bslice 0 4 [], none⟩,
                          ⟨some 60, .mov (.tmp 0), none⟩,
                          ⟨some 61, .app 4 40 [63] (.tmp 59) (.tmp 60), none⟩,
                          ⟨some 62, .loadc true 4 (.tmp 5), none⟩,
                          ⟨some 63, .bslice 1 4 [.tmp 62], none⟩,
                          ⟨some 64, .app 4 40 [59] (.tmp 61) (.tmp 63), none⟩,
                          ⟨some 65, .call 10 [.tmp 64], none⟩,
                          ⟨some 15, .alloc [.lit (.bool false), .sl .nil 0 []], none⟩,
                          ⟨none, .store 2 (.tmp 15) (.tmp 65), none⟩] [0, 59, 60, 61, 62, 63, 64, 65])
                      (.seq
                        (.region true [
                            ⟨some 66, .load true 2 (.tmp 10), none⟩,
                            ⟨some 67, .mov (.tmp 2), none⟩,
                            ⟨some 68, .call 11 [.tmp 66, .tmp 67], none⟩,
                            ⟨some 69, .mov (.tmp 11), none⟩,
                            ⟨some 70, .eqb false 4 (.tmp 68) (.tmp 69), none⟩,
                            ⟨some 71, .mov (.tmp 70), none⟩,
                            ⟨some 72, .load true 2 (.tmp 10), (some (71, true))⟩,
                            ⟨some 73, .mov (.tmp 14), (some (71, true))⟩,
                            ⟨some 74, .call 10 [.tmp 73], (some (71, true))⟩,
                            ⟨some 75, .call 15 [.tmp 72, .tmp 74], (some (71, true))⟩,
                            ⟨some 76, .pick (.tmp 71) (.tmp 75) (.const (.bool false)), none⟩,
                            ⟨some 77, .mov (.tmp 76), none⟩,
                            ⟨some 78, .load true 2 (.tmp 15), (some (77, true))⟩,
                            ⟨some 79, .mov (.tmp 2), (some (77, true))⟩,
                            ⟨some 80, .call 11 [.tmp 78, .tmp 79], (some (77, true))⟩,
                            ⟨some 81, .mov (.tmp 11), (some (77, true))⟩,
                            ⟨some 82, .mov (.tmp 81), (some (77, true))⟩,
                            ⟨some 83, .load true 4 (.tmp 5), (some (82, false))⟩,
                            ⟨some 84, .mov (.tmp 2), (some (82, false))⟩,
                            ⟨some 85, .call 12 [.tmp 83, .tmp 84], (some (82, false))⟩,
                            ⟨some 86, .pick (.tmp 82) (.const (.bool true)) (.tmp 85), (some (77, true))⟩,
                            ⟨some 87, .eqb false 4 (.tmp 80) (.tmp 86), (some (77, true))⟩,
                            ⟨some 88, .pick (.tmp 77) (.tmp 87) (.const (.bool false)), none⟩,
                            ⟨some 8, .mov (.tmp 88), none⟩] [2, 5, 10, 11, 14, 15, 66, 67, 68, 69, 70, 71, 72, 73, 74, 75, 76, 77, 78, 79, 80, 81, 82, 83, 84, 85, 86, 87, 88])
                        .ret)))))))))))
abbrev v_rivuletlaw14_FiltLets : List RV := [.tmp 8]
abbrev f_rivuletlaw14_FiltLets : FuncId := 5
theorem k_rivuletlaw14_FiltLets : closedOf Try.prog Try.f5 = (false, some true, some v_rivuletlaw14_FiltLets, some c_rivuletlaw14_FiltLets.plain, 89) := by kernel_rfl
theorem ac_rivuletlaw14_FiltLets {args : List AV} {r : AV} (h : aw Try.prog c_rivuletlaw14_FiltLets (env0 args) (endQ v_rivuletlaw14_FiltLets r)) (hargs : args.length ≤ 89 := by decide) (hok : resOK r = true := by rfl) : AC Try.prog f_rivuletlaw14_FiltLets args r :=
  AC_mk (by kernel_rfl) Try.func5 k_rivuletlaw14_FiltLets hargs hok (by decide) h
theorem am_rivuletlaw14_FiltLets {args : List AV} {c0 c1 : List (Nat × List AV)} {r : AV} (h : aw Try.prog c_rivuletlaw14_FiltLets (env0M args c0) (endM v_rivuletlaw14_FiltLets r (c0.map (·.1)) c1)) (hc0 : ∀ q ∈ c0, 100000 ≤ q.1) (hargs : args.length ≤ 89 := by decide) (hok : resOK r = true := by rfl) : AM Try.prog f_rivuletlaw14_FiltLets args c0 r c1 :=
  AM_mk (by kernel_rfl) Try.func5 k_rivuletlaw14_FiltLets hargs hok (by decide) hc0 h

/-- rivulet/rivuletlaw14.FiltRises (function 6) -/
def c_rivuletlaw14_FiltRises : ACode :=
  (.seq
    (.region false [
        ⟨some 4, .mov (.const (.bool false)), none⟩] [4])
    (.seq
      (.region false [
          ⟨some 10, .callm 8 [], none⟩,
          ⟨some 5, .mov (.tmp 10), none⟩] [10])
      (.seq
        (.seq
          (.region false [
              ⟨some 11, .mov (.tmp 5), none⟩,
              ⟨some 12, .un .not (.tmp 11), none⟩] [11])
          (.cond (.tmp 12)
            (.seq
              (.region false [
                  ⟨some 4, .mov (.const (.bool false)), none⟩] [0, 1, 5, 12])
              .ret)
            .skip))
        (.seq
          (.seq
            (.region false [
                ⟨some 13, .mov (.tmp 0), none⟩,
                ⟨some 14, .callm 9 [.tmp 13], none⟩,
                ⟨some 15, .un .not (.tmp 14), none⟩,
                ⟨some 16, .mov (.tmp 15), none⟩,
                ⟨some 17, .mov (.tmp 0), (some (16, false))⟩,
                ⟨some 18, .lenl (.tmp 17), (some (16, false))⟩,
                ⟨some 19, .bin .gtr 3 (.tmp 18) (.const (.int .i64 6)), (some (16, false))⟩,
                ⟨some 20, .pick (.tmp 16) (.const (.bool true)) (.tmp 19), none⟩] [12, 13, 14, 15, 16, 17, 18, 19])
            (.cond (.tmp 20)
              (.seq
                (.region false [
                    ⟨some 21, .mov (.tmp 5), none⟩,
                    ⟨some 4, .mov (.tmp 21), none⟩] [0, 1, 5, 20, 21])
                .ret)
              .skip))
          (.seq
            (.region false [
                ⟨some 22, .mov (.tmp 0), none⟩,
                ⟨some 23, .callm 10 [.tmp 22], none⟩,
                ⟨some 6, .alloc [.lit (.bool false), .sl .nil 0 []], none⟩,
                ⟨none, .store 2 (.tmp 6) (.tmp 23), none⟩] [20, 22, 23])
            (.seq
              (.seq
                (.region false [
                    ⟨some 7, .mov (.const (.int .i64 1)), none⟩] [])
                (.block 0
                  (.loop
                    (.seq
                      (.seq
                        (.region false [
                            ⟨some 24, .mov (.tmp 7), none⟩,
                            ⟨some 25, .faddr 1 1 (.tmp 6), none⟩,
                            ⟨some 26, .load false 1 (.tmp 25), none⟩,
                            ⟨some 27, .lenl (.tmp 26), none⟩,
                            ⟨some 28, .bin .lss 3 (.tmp 24) (.tmp 27), none⟩] [24, 25, 26, 27])
                        (.cond (.tmp 28)
                          .skip
                          (.exit 0)))
                      (.seq
                        (.block 1
                          (.seq
                            (.region true [
                                ⟨some 31, .faddr 1 1 (.tmp 6), none⟩,
                                ⟨some 32, .load false 1 (.tmp 31), none⟩,
                                ⟨some 33, .mov (.tmp 7), none⟩,
                                ⟨some 34, .bin .sub 3 (.tmp 33) (.const (.int .i64 1)), none⟩,
                                ⟨some 35, .iaddr 1 (.tmp 32) (.tmp 34), none⟩,
                                ⟨some 36, .load false 1 (.tmp 35), none⟩,
                                ⟨some 37, .faddr 1 1 (.tmp 6), none⟩,
                                ⟨some 38, .load false 1 (.tmp 37), none⟩,
                                ⟨some 39, .mov (.tmp 7), none⟩,
                                ⟨some 40, .iaddr 1 (.tmp 38) (.tmp 39), none⟩,
                                ⟨some 41, .load false 1 (.tmp 40), none⟩,
                                ⟨some 42, .bin .geq 23 (.tmp 36) (.tmp 41), none⟩] [28, 31, 32, 33, 34, 35, 36, 37, 38, 39, 40, 41])
                            (.cond (.tmp 42)
                              (.seq
                                (.region false [
                                    ⟨some 4, .mov (.const (.bool false)), none⟩] [0, 1, 5, 6, 7, 42])
                                .ret)
                              .skip)) [42])
                        (.region false [
                            ⟨some 29, .mov (.tmp 7), none⟩,
                            ⟨some 30, .bin .add 3 (.tmp 29) (.const (.int .i64 1)), none⟩,
                            ⟨some 7, .mov (.tmp 30), none⟩] [29, 30]))) [] []) [7, 28]))
              (.seq
                (.region false [
                    ⟨some 43, .mov (.tmp 1), none⟩,
                    ⟨some 44, .mov (.tmp 0), none⟩,
                    ⟨some 45, .lenl (.tmp 44), none⟩,
                    ⟨some 46, .bin .add 3 (.tmp 45) (.const (.int .i64 1)), none⟩,
                    ⟨some 47, .callm 14 [.tmp 43, .tmp 46], none⟩,
                    ⟨some 8, .mov (.tmp 47), none⟩] [1, 43, 44, 45, 46, 47])
                (.seq
                  (.region true [
                      ⟨some 48, .bslice 0 4 [], none⟩,
                      ⟨some 49, .mov (.tmp 0), none⟩,
                      ⟨some 50, .app 4 40 [] (.tmp 48) (.tmp 49), none⟩,
                      ⟨some 51, .mov (.tmp 0), none⟩,
                      ⟨some 52, .mov (.tmp 8), none⟩,
                      ⟨some 53, .slc 4 (.tmp 51) none (some (.tmp 52)), none⟩,
                      ⟨some 54, .app 4 40 [48] (.tmp 50) (.tmp 53), none⟩,
                      ⟨some 55, .call 10 [.tmp 54], none⟩,
                      ⟨some 9, .alloc [.lit (.bool false), .sl .nil 0 []], none⟩,
                      ⟨none, .store 2 (.tmp 9) (.tmp 55), none⟩] [0, 8, 48, 49, 50, 51, 52, 53, 54, 55])
                  (.seq
                    (.region false [
                        ⟨some 56, .mov (.tmp 5), none⟩,
                        ⟨some 57, .mov (.tmp 56), none⟩,
                        ⟨some 58, .load true 2 (.tmp 6), (some (57, true))⟩,
                        ⟨some 59, .load true 2 (.tmp 9), (some (57, true))⟩,
                        ⟨some 60, .callm 15 [.tmp 58, .tmp 59], (some (57, true))⟩,
                        ⟨some 61, .pick (.tmp 57) (.tmp 60) (.const (.bool false)), none⟩,
                        ⟨some 62, .mov (.tmp 61), none⟩,
                        ⟨some 63, .faddr 1 1 (.tmp 6), (some (62, true))⟩,
                        ⟨some 64, .load false 1 (.tmp 63), (some (62, true))⟩,
                        ⟨some 65, .faddr 1 1 (.tmp 9), (some (62, true))⟩,
                        ⟨some 66, .load false 1 (.tmp 65), (some (62, true))⟩,
                        ⟨some 67, .callm 16 [.tmp 64, .tmp 66], (some (62, true))⟩,
                        ⟨some 68, .pick (.tmp 62) (.tmp 67) (.const (.bool false)), none⟩,
                        ⟨some 4, .mov (.tmp 68), none⟩] [5, 6, 9, 56, 57, 58, 59, 60, 61, 62, 63, 64, 65, 66, 67, 68])
                    .ret)))))))))
abbrev v_rivuletlaw14_FiltRises : List RV := [.tmp 4]
abbrev f_rivuletlaw14_FiltRises : FuncId := 6
theorem k_rivuletlaw14_FiltRises : closedOf Try.prog Try.f6 = (false, some true, some v_rivuletlaw14_FiltRises, some c_rivuletlaw14_FiltRises.plain, 69) := by kernel_rfl
theorem ac_rivuletlaw14_FiltRises {args : List AV} {r : AV} (h : aw Try.prog c_rivuletlaw14_FiltRises (env0 args) (endQ v_rivuletlaw14_FiltRises r)) (hargs : args.length ≤ 69 := by decide) (hok : resOK r = true := by rfl) : AC Try.prog f_rivuletlaw14_FiltRises args r :=
  AC_mk (by kernel_rfl) Try.func6 k_rivuletlaw14_FiltRises hargs hok (by decide) h
theorem am_rivuletlaw14_FiltRises {args : List AV} {c0 c1 : List (Nat × List AV)} {r : AV} (h : aw Try.prog c_rivuletlaw14_FiltRises (env0M args c0) (endM v_rivuletlaw14_FiltRises r (c0.map (·.1)) c1)) (hc0 : ∀ q ∈ c0, 100000 ≤ q.1) (hargs : args.length ≤ 69 := by decide) (hok : resOK r = true := by rfl) : AM Try.prog f_rivuletlaw14_FiltRises args c0 r c1 :=
  AM_mk (by kernel_rfl) Try.func6 k_rivuletlaw14_FiltRises hargs hok (by decide) hc0 h

/-- rivulet/rivuletlaw14.FiltSays (function 7) -/
def c_rivuletlaw14_FiltSays : ACode :=
  (.seq
    (.region false [
        ⟨some 5, .box (.tmp 1), none⟩,
        ⟨some 8, .mov (.const (.bool false)), none⟩] [1, 8])
    (.seq
      (.region false [
          ⟨some 15, .callm 8 [], none⟩,
          ⟨some 9, .mov (.tmp 15), none⟩] [15])
      (.seq
        (.seq
          (.region false [
              ⟨some 16, .mov (.tmp 9), none⟩,
              ⟨some 17, .un .not (.tmp 16), none⟩] [9, 16])
          (.cond (.tmp 17)
            (.seq
              (.region false [
                  ⟨some 8, .mov (.const (.bool false)), none⟩] [0, 2, 3, 5, 17])
              .ret)
            .skip))
        (.seq
          (.seq
            (.region false [
                ⟨some 18, .mov (.tmp 0), none⟩,
                ⟨some 19, .callm 9 [.tmp 18], none⟩,
                ⟨some 20, .un .not (.tmp 19), none⟩,
                ⟨some 21, .mov (.tmp 20), none⟩,
                ⟨some 22, .faddr 1 1 (.tmp 5), (some (21, false))⟩,
                ⟨some 23, .load false 1 (.tmp 22), (some (21, false))⟩,
                ⟨some 24, .lenl (.tmp 23), (some (21, false))⟩,
                ⟨some 25, .bin .gtr 3 (.tmp 24) (.const (.int .i64 12)), (some (21, false))⟩,
                ⟨some 26, .pick (.tmp 21) (.const (.bool true)) (.tmp 25), none⟩] [17, 18, 19, 20, 21, 22, 23, 24, 25])
            (.cond (.tmp 26)
              (.seq
                (.region false [
                    ⟨some 8, .mov (.const (.bool true)), none⟩] [0, 2, 3, 5, 26])
                .ret)
              .skip))
          (.seq
            (.region false [
                ⟨some 27, .mov (.tmp 0), none⟩,
                ⟨some 28, .callm 10 [.tmp 27], none⟩,
                ⟨some 10, .alloc [.lit (.bool false), .sl .nil 0 []], none⟩,
                ⟨none, .store 2 (.tmp 10) (.tmp 28), none⟩] [26, 27, 28])
            (.seq
              (.region false [
                  ⟨some 29, .mov (.tmp 0), none⟩,
                  ⟨some 30, .callm 17 [.tmp 29], none⟩,
                  ⟨some 11, .alloc [.lit (.bool false), .sl .nil 0 []], none⟩,
                  ⟨none, .store 2 (.tmp 11) (.tmp 30), none⟩] [29, 30])
              (.seq
                (.seq
                  (.region true [
                      ⟨some 31, .faddr 0 1 (.tmp 10), none⟩,
                      ⟨some 32, .load false 1 (.tmp 31), none⟩,
                      ⟨some 33, .faddr 0 1 (.tmp 11), none⟩,
                      ⟨some 34, .load false 1 (.tmp 33), none⟩,
                      ⟨some 35, .eqb true 4 (.tmp 32) (.tmp 34), none⟩,
                      ⟨some 36, .mov (.tmp 35), none⟩,
                      ⟨some 37, .faddr 1 1 (.tmp 10), (some (36, false))⟩,
                      ⟨some 38, .load false 1 (.tmp 37), (some (36, false))⟩,
                      ⟨some 39, .faddr 1 1 (.tmp 11), (some (36, false))⟩,
                      ⟨some 40, .load false 1 (.tmp 39), (some (36, false))⟩,
                      ⟨some 41, .call 16 [.tmp 38, .tmp 40], (some (36, false))⟩,
                      ⟨some 42, .un .not (.tmp 41), (some (36, false))⟩,
                      ⟨some 43, .pick (.tmp 36) (.const (.bool true)) (.tmp 42), none⟩,
                      ⟨some 44, .mov (.tmp 43), none⟩,
                      ⟨some 45, .load true 2 (.tmp 5), (some (44, false))⟩,
                      ⟨some 46, .mov (.tmp 2), (some (44, false))⟩,
                      ⟨some 47, .call 11 [.tmp 45, .tmp 46], (some (44, false))⟩,
                      ⟨some 48, .faddr 1 1 (.tmp 5), (some (44, false))⟩,
                      ⟨some 49, .load false 1 (.tmp 48), (some (44, false))⟩,
                      ⟨some 50, .mov (.tmp 2), (some (44, false))⟩,
                      ⟨some 51, .call 18 [.tmp 49, .tmp 50], (some (44, false))⟩,
                      ⟨some 52, .faddr 0 1 (.tmp 5), (some (44, false))⟩,
                      ⟨some 53, .load false 1 (.tmp 52), (some (44, false))⟩,
                      ⟨some 54, .eqb false 4 (.tmp 51) (.tmp 53), (some (44, false))⟩,
                      ⟨some 55, .eqb false 4 (.tmp 47) (.tmp 54), (some (44, false))⟩,
                      ⟨some 56, .pick (.tmp 44) (.const (.bool true)) (.tmp 55), none⟩] [11, 31, 32, 33, 34, 35, 36, 37, 38, 39, 40, 41, 42, 43, 44, 45, 46, 47, 48, 49, 50, 51, 52, 53, 54, 55])
                  (.cond (.tmp 56)
                    (.seq
                      (.region false [
                          ⟨some 8, .mov (.const (.bool false)), none⟩] [0, 2, 3, 5, 10, 56])
                      .ret)
                    .skip))
                (.seq
                  (.seq
                    (.region false [
                        ⟨some 12, .mov (.const (.int .i64 0)), none⟩] [56])
                    (.block 0
                      (.loop
                        (.seq
                          (.seq
                            (.region false [
                                ⟨some 57, .mov (.tmp 12), none⟩,
                                ⟨some 58, .mov (.tmp 0), none⟩,
                                ⟨some 59, .lenl (.tmp 58), none⟩,
                                ⟨some 60, .bin .lss 3 (.tmp 57) (.tmp 59), none⟩] [57, 58, 59])
                            (.cond (.tmp 60)
                              .skip
                              (.exit 0)))
                          (.seq
                            (.block 1
                              (.seq
                                (.region true [
                                    ⟨some 63, .mov (.tmp 0), none⟩,
                                    ⟨some 64, .mov (.tmp 12), none⟩,
                                    ⟨some 65, .iaddr 4 (.tmp 63) (.tmp 64), none⟩,
                                    ⟨some 66, .load true 4 (.tmp 65), none⟩,
                                    ⟨some 67, .mov (.tmp 2), none⟩,
                                    ⟨some 68, .call 12 [.tmp 66, .tmp 67], none⟩,
                                    ⟨some 69, .mov (.tmp 0), none⟩,
                                    ⟨some 70, .mov (.tmp 12), none⟩,
                                    ⟨some 71, .iaddr 4 (.tmp 69) (.tmp 70), none⟩,
                                    ⟨some 72, .load true 4 (.tmp 71), none⟩,
                                    ⟨some 73, .mov (.tmp 2), none⟩,
                                    ⟨some 74, .call 19 [.tmp 72, .tmp 73], none⟩,
                                    ⟨some 75, .eqb true 4 (.tmp 68) (.tmp 74), none⟩] [60, 63, 64, 65, 66, 67, 68, 69, 70, 71, 72, 73, 74])
                                (.cond (.tmp 75)
                                  (.seq
                                    (.region false [
                                        ⟨some 8, .mov (.const (.bool false)), none⟩] [0, 2, 3, 5, 10, 12, 75])
                                    .ret)
                                  .skip)) [75])
                            (.region false [
                                ⟨some 61, .mov (.tmp 12), none⟩,
                                ⟨some 62, .bin .add 3 (.tmp 61) (.const (.int .i64 1)), none⟩,
                                ⟨some 12, .mov (.tmp 62), none⟩] [61, 62]))) [] []) [0, 2, 12, 60]))
                  (.seq
                    (.region false [
                        ⟨some 76, .load true 2 (.tmp 5), none⟩,
                        ⟨some 77, .mov (.tmp 3), none⟩,
                        ⟨some 78, .callm 13 [.tmp 76, .tmp 77], none⟩,
                        ⟨some 13, .mov (.tmp 78), none⟩] [76, 77, 78])
                    (.seq
                      (.region false [
                          ⟨some 79, .faddr 0 1 (.tmp 5), none⟩,
                          ⟨some 80, .load false 1 (.tmp 79), none⟩,
                          ⟨some 81, .faddr 1 1 (.tmp 5), none⟩,
                          ⟨some 82, .load false 1 (.tmp 81), none⟩,
                          ⟨some 83, .build [.lit (.bool false), .sl .nil 0 []] [(0, 1, .tmp 80), (1, 1, .tmp 82)], none⟩,
                          ⟨some 84, .mov (.tmp 3), none⟩,
                          ⟨some 85, .callm 20 [.tmp 83, .tmp 84], none⟩,
                          ⟨some 14, .mov (.tmp 85), none⟩] [3, 79, 80, 81, 82, 83, 84, 85])
                      (.seq
                        (.region true [
                            ⟨some 86, .mov (.tmp 13), none⟩,
                            ⟨some 87, .mov (.tmp 14), none⟩,
                            ⟨some 88, .call 21 [.tmp 86, .tmp 87], none⟩,
                            ⟨some 89, .mov (.tmp 88), none⟩,
                            ⟨some 90, .load true 2 (.tmp 5), (some (89, true))⟩,
                            ⟨some 91, .load true 2 (.tmp 5), (some (89, true))⟩,
                            ⟨some 92, .call 15 [.tmp 90, .tmp 91], (some (89, true))⟩,
                            ⟨some 93, .pick (.tmp 89) (.tmp 92) (.const (.bool false)), none⟩,
                            ⟨some 94, .mov (.tmp 93), none⟩,
                            ⟨some 95, .load true 2 (.tmp 5), (some (94, true))⟩,
                            ⟨some 96, .load true 2 (.tmp 10), (some (94, true))⟩,
                            ⟨some 97, .call 15 [.tmp 95, .tmp 96], (some (94, true))⟩,
                            ⟨some 98, .faddr 0 1 (.tmp 5), (some (94, true))⟩,
                            ⟨some 99, .load false 1 (.tmp 98), (some (94, true))⟩,
                            ⟨some 100, .faddr 0 1 (.tmp 10), (some (94, true))⟩,
                            ⟨some 101, .load false 1 (.tmp 100), (some (94, true))⟩,
                            ⟨some 102, .eqb false 4 (.tmp 99) (.tmp 101), (some (94, true))⟩,
                            ⟨some 103, .mov (.tmp 102), (some (94, true))⟩,
                            ⟨some 104, .faddr 1 1 (.tmp 5), (some (103, true))⟩,
                            ⟨some 105, .load false 1 (.tmp 104), (some (103, true))⟩,
                            ⟨some 106, .faddr 1 1 (.tmp 10), (some (103, true))⟩,
                            ⟨some 107, .load false 1 (.tmp 106), (some (103, true))⟩,
                            ⟨some 108, .call 16 [.tmp 105, .tmp 107], (some (103, true))⟩,
                            ⟨some 109, .pick (.tmp 103) (.tmp 108) (.const (.bool false)), (some (94, true))⟩,
                            ⟨some 110, .eqb false 4 (.tmp 97) (.tmp 109), (some (94, true))⟩,
                            ⟨some 111, .pick (.tmp 94) (.tmp 110) (.const (.bool false)), none⟩,
                            ⟨some 8, .mov (.tmp 111), none⟩] [5, 10, 13, 14, 86, 87, 88, 89, 90, 91, 92, 93, 94, 95, 96, 97, 98, 99, 100, 101, 102, 103, 104, 105, 106, 107, 108, 109, 110, 111])
                        .ret)))))))))))
abbrev v_rivuletlaw14_FiltSays : List RV := [.tmp 8]
abbrev f_rivuletlaw14_FiltSays : FuncId := 7
theorem k_rivuletlaw14_FiltSays : closedOf Try.prog Try.f7 = (false, some true, some v_rivuletlaw14_FiltSays, some c_rivuletlaw14_FiltSays.plain, 112) := by kernel_rfl
theorem ac_rivuletlaw14_FiltSays {args : List AV} {r : AV} (h : aw Try.prog c_rivuletlaw14_FiltSays (env0 args) (endQ v_rivuletlaw14_FiltSays r)) (hargs : args.length ≤ 112 := by decide) (hok : resOK r = true := by rfl) : AC Try.prog f_rivuletlaw14_FiltSays args r :=
  AC_mk (by kernel_rfl) Try.func7 k_rivuletlaw14_FiltSays hargs hok (by decide) h
theorem am_rivuletlaw14_FiltSays {args : List AV} {c0 c1 : List (Nat × List AV)} {r : AV} (h : aw Try.prog c_rivuletlaw14_FiltSays (env0M args c0) (endM v_rivuletlaw14_FiltSays r (c0.map (·.1)) c1)) (hc0 : ∀ q ∈ c0, 100000 ≤ q.1) (hargs : args.length ≤ 112 := by decide) (hok : resOK r = true := by rfl) : AM Try.prog f_rivuletlaw14_FiltSays args c0 r c1 :=
  AM_mk (by kernel_rfl) Try.func7 k_rivuletlaw14_FiltSays hargs hok (by decide) hc0 h

/-- rivulet/rivuletlaw14.first (function 8) -/
def c_rivuletlaw14_first : ACode :=
  (.seq
    (.region false [
        ⟨some 0, .mov (.const (.bool false)), none⟩] [0])
    (.seq
      (.region false [
          ⟨some 1, .callm 10 [.const (.slice none 0 0)], none⟩,
          ⟨some 2, .callm 11 [.tmp 1, .const (.int .u32 5)], none⟩,
          ⟨some 3, .un .not (.tmp 2), none⟩,
          ⟨some 4, .mov (.tmp 3), none⟩,
          ⟨some 5, .build [.lit (.int .i64 0), .lit (.int .u32 0), .lit (.bool false), .sl .nil 0 []] [], (some (4, true))⟩,
          ⟨some 6, .bslice 1 4 [.tmp 5], (some (4, true))⟩,
          ⟨some 7, .callm 10 [.tmp 6], (some (4, true))⟩,
          ⟨some 8, .callm 11 [.tmp 7, .const (.int .u32 5)], (some (4, true))⟩,
          ⟨some 9, .pick (.tmp 4) (.tmp 8) (.const (.bool false)), none⟩,
          ⟨some 0, .mov (.tmp 9), none⟩] [1, 2, 3, 4, 5, 6, 7, 8, 9])
      .ret))
abbrev v_rivuletlaw14_first : List RV := [.tmp 0]
abbrev f_rivuletlaw14_first : FuncId := 8
theorem k_rivuletlaw14_first : closedOf Try.prog Try.f8 = (false, some true, some v_rivuletlaw14_first, some c_rivuletlaw14_first.plain, 10) := by kernel_rfl
theorem ac_rivuletlaw14_first {args : List AV} {r : AV} (h : aw Try.prog c_rivuletlaw14_first (env0 args) (endQ v_rivuletlaw14_first r)) (hargs : args.length ≤ 10 := by decide) (hok : resOK r = true := by rfl) : AC Try.prog f_rivuletlaw14_first args r :=
  AC_mk (by kernel_rfl) Try.func8 k_rivuletlaw14_first hargs hok (by decide) h
theorem am_rivuletlaw14_first {args : List AV} {c0 c1 : List (Nat × List AV)} {r : AV} (h : aw Try.prog c_rivuletlaw14_first (env0M args c0) (endM v_rivuletlaw14_first r (c0.map (·.1)) c1)) (hc0 : ∀ q ∈ c0, 100000 ≤ q.1) (hargs : args.length ≤ 10 := by decide) (hok : resOK r = true := by rfl) : AM Try.prog f_rivuletlaw14_first args c0 r c1 :=
  AM_mk (by kernel_rfl) Try.func8 k_rivuletlaw14_first hargs hok (by decide) hc0 h

/-- rivulet/rivuletlaw14.light (function 9) -/
def c_rivuletlaw14_light : ACode :=
  (.seq
    (.region false [
        ⟨some 2, .mov (.const (.bool false)), none⟩] [2])
    (.seq
      (.seq
        (.region false [
            ⟨some 3, .mov (.const (.int .i64 0)), none⟩] [])
        (.block 0
          (.loop
            (.seq
              (.seq
                (.region false [
                    ⟨some 4, .mov (.tmp 3), none⟩,
                    ⟨some 5, .mov (.tmp 0), none⟩,
                    ⟨some 6, .lenl (.tmp 5), none⟩,
                    ⟨some 7, .bin .lss 3 (.tmp 4) (.tmp 6), none⟩] [4, 5, 6])
                (.cond (.tmp 7)
                  .skip
                  (.exit 0)))
              (.seq
                (.block 1
                  (.seq
                    (.region false [
                        ⟨some 10, .mov (.tmp 0), none⟩,
                        ⟨some 11, .mov (.tmp 3), none⟩,
                        ⟨some 12, .iaddr 4 (.tmp 10) (.tmp 11), none⟩,
                        ⟨some 13, .faddr 3 1 (.tmp 12), none⟩,
                        ⟨some 14, .load false 1 (.tmp 13), none⟩,
                        ⟨some 15, .lenl (.tmp 14), none⟩,
                        ⟨some 16, .bin .gtr 3 (.tmp 15) (.const (.int .i64 10)), none⟩] [7, 10, 11, 12, 13, 14, 15])
                    (.cond (.tmp 16)
                      (.seq
                        (.region false [
                            ⟨some 2, .mov (.const (.bool false)), none⟩] [0, 3, 16])
                        .ret)
                      .skip)) [16])
                (.region false [
                    ⟨some 8, .mov (.tmp 3), none⟩,
                    ⟨some 9, .bin .add 3 (.tmp 8) (.const (.int .i64 1)), none⟩,
                    ⟨some 3, .mov (.tmp 9), none⟩] [8, 9]))) [] []) [3, 7]))
      (.seq
        (.region false [
            ⟨some 17, .mov (.tmp 0), none⟩,
            ⟨some 18, .lenl (.tmp 17), none⟩,
            ⟨some 19, .bin .leq 3 (.tmp 18) (.const (.int .i64 12)), none⟩,
            ⟨some 2, .mov (.tmp 19), none⟩] [0, 17, 18, 19])
        .ret)))
abbrev v_rivuletlaw14_light : List RV := [.tmp 2]
abbrev f_rivuletlaw14_light : FuncId := 9
theorem k_rivuletlaw14_light : closedOf Try.prog Try.f9 = (false, some true, some v_rivuletlaw14_light, some c_rivuletlaw14_light.plain, 20) := by kernel_rfl
theorem ac_rivuletlaw14_light {args : List AV} {r : AV} (h : aw Try.prog c_rivuletlaw14_light (env0 args) (endQ v_rivuletlaw14_light r)) (hargs : args.length ≤ 20 := by decide) (hok : resOK r = true := by rfl) : AC Try.prog f_rivuletlaw14_light args r :=
  AC_mk (by kernel_rfl) Try.func9 k_rivuletlaw14_light hargs hok (by decide) h
theorem am_rivuletlaw14_light {args : List AV} {c0 c1 : List (Nat × List AV)} {r : AV} (h : aw Try.prog c_rivuletlaw14_light (env0M args c0) (endM v_rivuletlaw14_light r (c0.map (·.1)) c1)) (hc0 : ∀ q ∈ c0, 100000 ≤ q.1) (hargs : args.length ≤ 20 := by decide) (hok : resOK r = true := by rfl) : AM Try.prog f_rivuletlaw14_light args c0 r c1 :=
  AM_mk (by kernel_rfl) Try.func9 k_rivuletlaw14_light hargs hok (by decide) hc0 h

/-- rivulet/filt.Of (function 10) -/
def c_filt_Of : ACode :=
  (.seq
    (.region false [
        ⟨some 2, .alloc [.lit (.bool false), .sl .nil 0 []], none⟩] [])
    (.seq
      (.region false [
          ⟨some 3, .alloc [.lit (.bool false), .sl .nil 0 []], none⟩] [])
      (.seq
        (.region false [
            ⟨some 4, .mov (.const (.slice none 0 0)), none⟩] [])
        (.seq
          (.seq
            (.region false [
                ⟨some 9, .mov (.tmp 0), none⟩,
                ⟨some 10, .lenl (.tmp 9), none⟩,
                ⟨some 11, .mov (.const (.int .i64 0)), none⟩] [])
            (.block 0
              (.loop
                (.seq
                  (.region false [
                      ⟨some 12, .bin .lss 3 (.tmp 11) (.tmp 10), none⟩] [])
                  (.seq
                    (.cond (.tmp 12)
                      .skip
                      (.exit 0))
                    (.seq
                      (.block 1
                        (.seq
                          (.region false [
                              ⟨some 13, .iaddr 4 (.tmp 9) (.tmp 11), none⟩,
                              ⟨some 14, .load true 4 (.tmp 13), none⟩,
                              ⟨some 6, .alloc [.lit (.int .i64 0), .lit (.int .u32 0), .lit (.bool false), .sl .nil 0 []], none⟩,
                              ⟨none, .store 4 (.tmp 6) (.tmp 14), none⟩] [12, 13, 14])
                          (.seq
                            (.region false [
                                ⟨some 15, .faddr 0 1 (.tmp 3), none⟩,
                                ⟨some 16, .load false 1 (.tmp 15), none⟩,
                                ⟨some 17, .mov (.tmp 16), none⟩,
                                ⟨some 18, .faddr 2 1 (.tmp 6), (some (17, false))⟩,
                                ⟨some 19, .load false 1 (.tmp 18), (some (17, false))⟩,
                                ⟨some 20, .un .not (.tmp 19), (some (17, false))⟩,
                                ⟨some 21, .pick (.tmp 17) (.const (.bool true)) (.tmp 20), none⟩,
                                ⟨some 22, .faddr 0 1 (.tmp 3), none⟩,
                                ⟨none, .store 1 (.tmp 22) (.tmp 21), none⟩] [15, 16, 17, 18, 19, 20, 21, 22])
                            (.region false [
                                ⟨some 23, .mov (.tmp 4), none⟩,
                                ⟨some 24, .faddr 3 1 (.tmp 6), none⟩,
                                ⟨some 25, .load false 1 (.tmp 24), none⟩,
                                ⟨some 26, .app 1 4 [] (.tmp 23) (.tmp 25), none⟩,
                                ⟨some 4, .mov (.tmp 26), none⟩] [6, 23, 24, 25, 26]))) [])
                      (.region false [
                          ⟨some 27, .bin .add 3 (.tmp 11) (.const (.int .i64 1)), none⟩,
                          ⟨some 11, .mov (.tmp 27), none⟩] [27])))) [] [6]) [9, 10, 11, 12]))
          (.seq
            (.seq
              (.region false [
                  ⟨some 28, .mov (.tmp 4), none⟩,
                  ⟨some 29, .callm 22 [.tmp 28], none⟩,
                  ⟨some 30, .lenl (.tmp 29), none⟩,
                  ⟨some 31, .mov (.const (.int .i64 0)), none⟩] [4, 28])
              (.block 2
                (.loop
                  (.seq
                    (.region false [
                        ⟨some 32, .bin .lss 3 (.tmp 31) (.tmp 30), none⟩] [])
                    (.seq
                      (.cond (.tmp 32)
                        .skip
                        (.exit 2))
                      (.seq
                        (.block 3
                          (.seq
                            (.region false [
                                ⟨some 33, .iaddr 1 (.tmp 29) (.tmp 31), none⟩,
                                ⟨some 34, .load false 1 (.tmp 33), none⟩,
                                ⟨some 8, .alloc [.lit (.int .u32 0)], none⟩,
                                ⟨none, .store 1 (.tmp 8) (.tmp 34), none⟩] [32, 33, 34])
                            (.seq
                              (.region true [
                                  ⟨some 35, .mov (.tmp 0), none⟩,
                                  ⟨some 36, .mkfn (.func 24) [] [.tmp 8], none⟩,
                                  ⟨some 37, .call 23 [.tmp 35, .tmp 36], none⟩,
                                  ⟨some 38, .faddr 0 1 (.tmp 3), none⟩,
                                  ⟨some 39, .load false 1 (.tmp 38), none⟩,
                                  ⟨some 40, .eqb true 4 (.tmp 37) (.tmp 39), none⟩] [35, 36, 37, 38, 39])
                              (.cond (.tmp 40)
                                (.region false [
                                    ⟨some 41, .faddr 1 1 (.tmp 3), none⟩,
                                    ⟨some 42, .load false 1 (.tmp 41), none⟩,
                                    ⟨some 43, .load false 1 (.tmp 8), none⟩,
                                    ⟨some 44, .bslice 1 1 [.tmp 43], none⟩,
                                    ⟨some 45, .app 1 4 [] (.tmp 42) (.tmp 44), none⟩,
                                    ⟨some 46, .faddr 1 1 (.tmp 3), none⟩,
                                    ⟨none, .store 1 (.tmp 46) (.tmp 45), none⟩] [8, 40, 41, 42, 43, 44, 45, 46])
                                .skip))) [8, 40])
                        (.region false [
                            ⟨some 47, .bin .add 3 (.tmp 31) (.const (.int .i64 1)), none⟩,
                            ⟨some 31, .mov (.tmp 47), none⟩] [47])))) [] [8]) [0, 29, 30, 31, 32]))
            (.seq
              (.region false [
                  ⟨some 48, .load true 2 (.tmp 3), none⟩,
                  ⟨none, .store 2 (.tmp 2) (.tmp 48), none⟩] [3, 48])
              .ret))))))
abbrev v_filt_Of : List RV := [.cell true 2 2]
abbrev f_filt_Of : FuncId := 10
theorem k_filt_Of : closedOf Try.prog Try.f10 = (false, some true, some v_filt_Of, some c_filt_Of.plain, 49) := by kernel_rfl
theorem ac_filt_Of {args : List AV} {r : AV} (h : aw Try.prog c_filt_Of (env0 args) (endQ v_filt_Of r)) (hargs : args.length ≤ 49 := by decide) (hok : resOK r = true := by rfl) : AC Try.prog f_filt_Of args r :=
  AC_mk (by kernel_rfl) Try.func10 k_filt_Of hargs hok (by decide) h
theorem am_filt_Of {args : List AV} {c0 c1 : List (Nat × List AV)} {r : AV} (h : aw Try.prog c_filt_Of (env0M args c0) (endM v_filt_Of r (c0.map (·.1)) c1)) (hc0 : ∀ q ∈ c0, 100000 ≤ q.1) (hargs : args.length ≤ 49 := by decide) (hok : resOK r = true := by rfl) : AM Try.prog f_filt_Of args c0 r c1 :=
  AM_mk (by kernel_rfl) Try.func10 k_filt_Of hargs hok (by decide) hc0 h

/-- rivulet/filt.Lets (function 11) -/
def c_filt_Lets : ACode :=
  (.seq
    (.region false [
        ⟨some 2, .box (.tmp 0), none⟩,
        ⟨some 4, .mov (.const (.bool false)), none⟩] [0, 4])
    (.seq
      (.region true [
          ⟨some 5, .faddr 1 1 (.tmp 2), none⟩,
          ⟨some 6, .load false 1 (.tmp 5), none⟩,
          ⟨some 7, .mov (.tmp 1), none⟩,
          ⟨some 8, .call 25 [.tmp 6, .tmp 7], none⟩,
          ⟨some 9, .faddr 0 1 (.tmp 2), none⟩,
          ⟨some 10, .load false 1 (.tmp 9), none⟩,
          ⟨some 11, .eqb true 4 (.tmp 8) (.tmp 10), none⟩,
          ⟨some 4, .mov (.tmp 11), none⟩] [1, 2, 5, 6, 7, 8, 9, 10, 11])
      .ret))
abbrev v_filt_Lets : List RV := [.tmp 4]
abbrev f_filt_Lets : FuncId := 11
theorem k_filt_Lets : closedOf Try.prog Try.f11 = (false, some true, some v_filt_Lets, some c_filt_Lets.plain, 12) := by kernel_rfl
theorem ac_filt_Lets {args : List AV} {r : AV} (h : aw Try.prog c_filt_Lets (env0 args) (endQ v_filt_Lets r)) (hargs : args.length ≤ 12 := by decide) (hok : resOK r = true := by rfl) : AC Try.prog f_filt_Lets args r :=
  AC_mk (by kernel_rfl) Try.func11 k_filt_Lets hargs hok (by decide) h
theorem am_filt_Lets {args : List AV} {c0 c1 : List (Nat × List AV)} {r : AV} (h : aw Try.prog c_filt_Lets (env0M args c0) (endM v_filt_Lets r (c0.map (·.1)) c1)) (hc0 : ∀ q ∈ c0, 100000 ≤ q.1) (hargs : args.length ≤ 12 := by decide) (hok : resOK r = true := by rfl) : AM Try.prog f_filt_Lets args c0 r c1 :=
  AM_mk (by kernel_rfl) Try.func11 k_filt_Lets hargs hok (by decide) hc0 h

/-- rivulet/filt.Admits (function 12) -/
def c_filt_Admits : ACode :=
  (.seq
    (.region false [
        ⟨some 2, .box (.tmp 0), none⟩,
        ⟨some 4, .mov (.const (.bool false)), none⟩] [0, 4])
    (.seq
      (.region true [
          ⟨some 5, .faddr 3 1 (.tmp 2), none⟩,
          ⟨some 6, .load false 1 (.tmp 5), none⟩,
          ⟨some 7, .mov (.tmp 1), none⟩,
          ⟨some 8, .call 25 [.tmp 6, .tmp 7], none⟩,
          ⟨some 9, .faddr 2 1 (.tmp 2), none⟩,
          ⟨some 10, .load false 1 (.tmp 9), none⟩,
          ⟨some 11, .eqb false 4 (.tmp 8) (.tmp 10), none⟩,
          ⟨some 4, .mov (.tmp 11), none⟩] [1, 2, 5, 6, 7, 8, 9, 10, 11])
      .ret))
abbrev v_filt_Admits : List RV := [.tmp 4]
abbrev f_filt_Admits : FuncId := 12
theorem k_filt_Admits : closedOf Try.prog Try.f12 = (false, some true, some v_filt_Admits, some c_filt_Admits.plain, 12) := by kernel_rfl
theorem ac_filt_Admits {args : List AV} {r : AV} (h : aw Try.prog c_filt_Admits (env0 args) (endQ v_filt_Admits r)) (hargs : args.length ≤ 12 := by decide) (hok : resOK r = true := by rfl) : AC Try.prog f_filt_Admits args r :=
  AC_mk (by kernel_rfl) Try.func12 k_filt_Admits hargs hok (by decide) h
theorem am_filt_Admits {args : List AV} {c0 c1 : List (Nat × List AV)} {r : AV} (h : aw Try.prog c_filt_Admits (env0M args c0) (endM v_filt_Admits r (c0.map (·.1)) c1)) (hc0 : ∀ q ∈ c0, 100000 ≤ q.1) (hargs : args.length ≤ 12 := by decide) (hok : resOK r = true := by rfl) : AM Try.prog f_filt_Admits args c0 r c1 :=
  AM_mk (by kernel_rfl) Try.func12 k_filt_Admits hargs hok (by decide) hc0 h

/-- rivulet/filt.Keys (function 13) -/
def c_filt_Keys : ACode :=
  (.seq
    (.region false [
        ⟨some 2, .box (.tmp 0), none⟩,
        ⟨some 4, .mov (.const (.slice none 0 0)), none⟩] [0, 4])
    (.seq
      (.seq
        (.region false [
            ⟨some 8, .faddr 0 1 (.tmp 2), none⟩,
            ⟨some 9, .load false 1 (.tmp 8), none⟩] [8])
        (.cond (.tmp 9)
          (.seq
            (.region false [
                ⟨some 10, .mov (.tmp 1), none⟩,
                ⟨some 11, .build [.lit (.int .u32 0), .lit (.int .u32 0)] [(1, 1, .tmp 10)], none⟩,
                ⟨some 12, .bslice 1 2 [.tmp 11], none⟩,
                ⟨some 4, .mov (.tmp 12), none⟩] [1, 2, 9, 10, 11, 12])
            .ret)
          .skip))
      (.seq
        (.region false [
            ⟨some 5, .mov (.const (.slice none 0 0)), none⟩] [9])
        (.seq
          (.seq
            (.region false [
                ⟨some 13, .faddr 1 1 (.tmp 2), none⟩,
                ⟨some 14, .load false 1 (.tmp 13), none⟩,
                ⟨some 15, .callm 22 [.tmp 14], none⟩,
                ⟨some 16, .lenl (.tmp 15), none⟩,
                ⟨some 17, .mov (.const (.int .i64 0)), none⟩] [2, 13, 14])
            (.block 0
              (.loop
                (.seq
                  (.region false [
                      ⟨some 18, .bin .lss 3 (.tmp 17) (.tmp 16), none⟩] [])
                  (.seq
                    (.cond (.tmp 18)
                      .skip
                      (.exit 0))
                    (.seq
                      (.block 1
                        (.seq
                          (.region false [
                              ⟨some 19, .iaddr 1 (.tmp 15) (.tmp 17), none⟩,
                              ⟨some 20, .load false 1 (.tmp 19), none⟩,
                              ⟨some 7, .mov (.tmp 20), none⟩] [18, 19, 20])
                          (.region false [
                              ⟨some 21, .mov (.tmp 5), none⟩,
                              ⟨some 22, .mov (.tmp 7), none⟩,
                              ⟨some 23, .mov (.tmp 1), none⟩,
                              ⟨some 24, .build [.lit (.int .u32 0), .lit (.int .u32 0)] [(0, 1, .tmp 22), (1, 1, .tmp 23)], none⟩,
                              ⟨some 25, .bslice 1 2 [.tmp 24], none⟩,
                              ⟨some 26, .app 2 8 [] (.tmp 21) (.tmp 25), none⟩,
                              ⟨some 5, .mov (.tmp 26), none⟩] [7, 21, 22, 23, 24, 25, 26])) [])
                      (.region false [
                          ⟨some 27, .bin .add 3 (.tmp 17) (.const (.int .i64 1)), none⟩,
                          ⟨some 17, .mov (.tmp 27), none⟩] [27])))) [] []) [1, 15, 16, 17, 18]))
          (.seq
            (.region false [
                ⟨some 28, .mov (.tmp 5), none⟩,
                ⟨some 4, .mov (.tmp 28), none⟩] [5, 28])
            .ret)))))
abbrev v_filt_Keys : List RV := [.tmp 4]
abbrev f_filt_Keys : FuncId := 13
theorem k_filt_Keys : closedOf Try.prog Try.f13 = (false, some true, some v_filt_Keys, some c_filt_Keys.plain, 29) := by kernel_rfl
theorem ac_filt_Keys {args : List AV} {r : AV} (h : aw Try.prog c_filt_Keys (env0 args) (endQ v_filt_Keys r)) (hargs : args.length ≤ 29 := by decide) (hok : resOK r = true := by rfl) : AC Try.prog f_filt_Keys args r :=
  AC_mk (by kernel_rfl) Try.func13 k_filt_Keys hargs hok (by decide) h
theorem am_filt_Keys {args : List AV} {c0 c1 : List (Nat × List AV)} {r : AV} (h : aw Try.prog c_filt_Keys (env0M args c0) (endM v_filt_Keys r (c0.map (·.1)) c1)) (hc0 : ∀ q ∈ c0, 100000 ≤ q.1) (hargs : args.length ≤ 29 := by decide) (hok : resOK r = true := by rfl) : AM Try.prog f_filt_Keys args c0 r c1 :=
  AM_mk (by kernel_rfl) Try.func13 k_filt_Keys hargs hok (by decide) hc0 h

/-- rivulet/rivuletworld.Number (function 14) -/
def c_rivuletworld_Number : ACode :=
  (.seq
    (.region false [
        ⟨some 4, .mov (.const (.int .i64 0)), none⟩] [4])
    (.seq
      (.region false [
          ⟨some 6, .mov (.tmp 0), none⟩,
          ⟨some 7, .mov (.tmp 1), none⟩,
          ⟨some 8, .bin .rem 3 (.tmp 6) (.tmp 7), none⟩,
          ⟨some 5, .mov (.tmp 8), none⟩] [0, 6, 7, 8])
      (.seq
        (.seq
          (.region false [
              ⟨some 9, .mov (.tmp 5), none⟩,
              ⟨some 10, .bin .lss 3 (.tmp 9) (.const (.int .i64 0)), none⟩] [9])
          (.cond (.tmp 10)
            (.region false [
                ⟨some 11, .mov (.tmp 5), none⟩,
                ⟨some 12, .mov (.tmp 1), none⟩,
                ⟨some 13, .bin .add 3 (.tmp 11) (.tmp 12), none⟩,
                ⟨some 5, .mov (.tmp 13), none⟩] [1, 10, 11, 12, 13])
            .skip))
        (.seq
          (.region false [
              ⟨some 14, .mov (.tmp 5), none⟩,
              ⟨some 4, .mov (.tmp 14), none⟩] [1, 5, 10, 14])
          .ret))))
abbrev v_rivuletworld_Number : List RV := [.tmp 4]
abbrev f_rivuletworld_Number : FuncId := 14
theorem k_rivuletworld_Number : closedOf Try.prog Try.f14 = (false, some true, some v_rivuletworld_Number, some c_rivuletworld_Number.plain, 15) := by kernel_rfl
theorem ac_rivuletworld_Number {args : List AV} {r : AV} (h : aw Try.prog c_rivuletworld_Number (env0 args) (endQ v_rivuletworld_Number r)) (hargs : args.length ≤ 15 := by decide) (hok : resOK r = true := by rfl) : AC Try.prog f_rivuletworld_Number args r :=
  AC_mk (by kernel_rfl) Try.func14 k_rivuletworld_Number hargs hok (by decide) h
theorem am_rivuletworld_Number {args : List AV} {c0 c1 : List (Nat × List AV)} {r : AV} (h : aw Try.prog c_rivuletworld_Number (env0M args c0) (endM v_rivuletworld_Number r (c0.map (·.1)) c1)) (hc0 : ∀ q ∈ c0, 100000 ≤ q.1) (hargs : args.length ≤ 15 := by decide) (hok : resOK r = true := by rfl) : AM Try.prog f_rivuletworld_Number args c0 r c1 :=
  AM_mk (by kernel_rfl) Try.func14 k_rivuletworld_Number hargs hok (by decide) hc0 h

/-- rivulet/filt.Same (function 15) -/
def c_filt_Same : ACode :=
  (.seq
    (.region false [
        ⟨some 2, .box (.tmp 0), none⟩,
        ⟨some 3, .box (.tmp 1), none⟩,
        ⟨some 4, .mov (.const (.bool false)), none⟩] [0, 1, 4])
    (.seq
      (.region false [
          ⟨some 5, .faddr 0 1 (.tmp 2), none⟩,
          ⟨some 6, .load false 1 (.tmp 5), none⟩,
          ⟨some 7, .faddr 0 1 (.tmp 3), none⟩,
          ⟨some 8, .load false 1 (.tmp 7), none⟩,
          ⟨some 9, .eqb false 4 (.tmp 6) (.tmp 8), none⟩,
          ⟨some 10, .mov (.tmp 9), none⟩,
          ⟨some 11, .faddr 1 1 (.tmp 2), (some (10, true))⟩,
          ⟨some 12, .load false 1 (.tmp 11), (some (10, true))⟩,
          ⟨some 13, .faddr 1 1 (.tmp 3), (some (10, true))⟩,
          ⟨some 14, .load false 1 (.tmp 13), (some (10, true))⟩,
          ⟨some 15, .callm 26 [.tmp 12, .tmp 14], (some (10, true))⟩,
          ⟨some 16, .pick (.tmp 10) (.tmp 15) (.const (.bool false)), none⟩,
          ⟨some 4, .mov (.tmp 16), none⟩] [2, 3, 5, 6, 7, 8, 9, 10, 11, 12, 13, 14, 15, 16])
      .ret))
abbrev v_filt_Same : List RV := [.tmp 4]
abbrev f_filt_Same : FuncId := 15
theorem k_filt_Same : closedOf Try.prog Try.f15 = (false, some true, some v_filt_Same, some c_filt_Same.plain, 17) := by kernel_rfl
theorem ac_filt_Same {args : List AV} {r : AV} (h : aw Try.prog c_filt_Same (env0 args) (endQ v_filt_Same r)) (hargs : args.length ≤ 17 := by decide) (hok : resOK r = true := by rfl) : AC Try.prog f_filt_Same args r :=
  AC_mk (by kernel_rfl) Try.func15 k_filt_Same hargs hok (by decide) h
theorem am_filt_Same {args : List AV} {c0 c1 : List (Nat × List AV)} {r : AV} (h : aw Try.prog c_filt_Same (env0M args c0) (endM v_filt_Same r (c0.map (·.1)) c1)) (hc0 : ∀ q ∈ c0, 100000 ≤ q.1) (hargs : args.length ≤ 17 := by decide) (hok : resOK r = true := by rfl) : AM Try.prog f_filt_Same args c0 r c1 :=
  AM_mk (by kernel_rfl) Try.func15 k_filt_Same hargs hok (by decide) hc0 h

/-- rivulet/rivuletref.SameAddrs (function 16) -/
def c_rivuletref_SameAddrs : ACode :=
  (.seq
    (.region false [
        ⟨some 4, .mov (.const (.bool false)), none⟩] [4])
    (.seq
      (.seq
        (.region false [
            ⟨some 7, .mov (.tmp 0), none⟩,
            ⟨some 8, .lenl (.tmp 7), none⟩,
            ⟨some 9, .mov (.tmp 1), none⟩,
            ⟨some 10, .lenl (.tmp 9), none⟩,
            ⟨some 11, .bin .neq 3 (.tmp 8) (.tmp 10), none⟩] [7, 8, 9, 10])
        (.cond (.tmp 11)
          (.seq
            (.region false [
                ⟨some 4, .mov (.const (.bool false)), none⟩] [0, 1, 11])
            .ret)
          .skip))
      (.seq
        (.seq
          (.region false [
              ⟨some 5, .mov (.const (.int .i64 0)), none⟩] [11])
          (.block 0
            (.loop
              (.seq
                (.seq
                  (.region false [
                      ⟨some 12, .mov (.tmp 5), none⟩,
                      ⟨some 13, .mov (.tmp 0), none⟩,
                      ⟨some 14, .lenl (.tmp 13), none⟩,
                      ⟨some 15, .bin .lss 3 (.tmp 12) (.tmp 14), none⟩] [12, 13, 14])
                  (.cond (.tmp 15)
                    .skip
                    (.exit 0)))
                (.seq
                  (.block 1
                    (.seq
                      (.region true [
                          ⟨some 18, .mov (.tmp 0), none⟩,
                          ⟨some 19, .mov (.tmp 5), none⟩,
                          ⟨some 20, .iaddr 1 (.tmp 18) (.tmp 19), none⟩,
                          ⟨some 21, .load false 1 (.tmp 20), none⟩,
                          ⟨some 22, .mov (.tmp 1), none⟩,
                          ⟨some 23, .mov (.tmp 5), none⟩,
                          ⟨some 24, .iaddr 1 (.tmp 22) (.tmp 23), none⟩,
                          ⟨some 25, .load false 1 (.tmp 24), none⟩,
                          ⟨some 26, .bin .eql 23 (.tmp 21) (.tmp 25), none⟩,
                          ⟨some 6, .mov (.tmp 26), none⟩] [15, 18, 19, 20, 21, 22, 23, 24, 25, 26])
                      (.seq
                        (.region false [
                            ⟨some 27, .mov (.tmp 6), none⟩,
                            ⟨some 28, .un .not (.tmp 27), none⟩] [6, 27])
                        (.cond (.tmp 28)
                          (.seq
                            (.region false [
                                ⟨some 4, .mov (.const (.bool false)), none⟩] [0, 1, 5, 28])
                            .ret)
                          .skip))) [28])
                  (.region false [
                      ⟨some 16, .mov (.tmp 5), none⟩,
                      ⟨some 17, .bin .add 3 (.tmp 16) (.const (.int .i64 1)), none⟩,
                      ⟨some 5, .mov (.tmp 17), none⟩] [16, 17]))) [] []) [0, 1, 5, 15]))
        (.seq
          (.region false [
              ⟨some 4, .mov (.const (.bool true)), none⟩] [])
          .ret))))
abbrev v_rivuletref_SameAddrs : List RV := [.tmp 4]
abbrev f_rivuletref_SameAddrs : FuncId := 16
theorem k_rivuletref_SameAddrs : closedOf Try.prog Try.f16 = (false, some true, some v_rivuletref_SameAddrs, some c_rivuletref_SameAddrs.plain, 29) := by kernel_rfl
theorem ac_rivuletref_SameAddrs {args : List AV} {r : AV} (h : aw Try.prog c_rivuletref_SameAddrs (env0 args) (endQ v_rivuletref_SameAddrs r)) (hargs : args.length ≤ 29 := by decide) (hok : resOK r = true := by rfl) : AC Try.prog f_rivuletref_SameAddrs args r :=
  AC_mk (by kernel_rfl) Try.func16 k_rivuletref_SameAddrs hargs hok (by decide) h
theorem am_rivuletref_SameAddrs {args : List AV} {c0 c1 : List (Nat × List AV)} {r : AV} (h : aw Try.prog c_rivuletref_SameAddrs (env0M args c0) (endM v_rivuletref_SameAddrs r (c0.map (·.1)) c1)) (hc0 : ∀ q ∈ c0, 100000 ≤ q.1) (hargs : args.length ≤ 29 := by decide) (hok : resOK r = true := by rfl) : AM Try.prog f_rivuletref_SameAddrs args c0 r c1 :=
  AM_mk (by kernel_rfl) Try.func16 k_rivuletref_SameAddrs hargs hok (by decide) hc0 h

/-- rivulet/rivuletref8.Filtered (function 17) -/
def c_rivuletref8_Filtered : ACode :=
  (.seq
    (.region false [
        ⟨some 2, .alloc [.lit (.bool false), .sl .nil 0 []], none⟩] [])
    (.seq
      (.region false [
          ⟨some 8, .build [.lit (.bool false), .sl .nil 0 []] [], none⟩,
          ⟨some 3, .alloc [.lit (.bool false), .sl .nil 0 []], none⟩,
          ⟨none, .store 2 (.tmp 3) (.tmp 8), none⟩] [8])
      (.seq
        (.seq
          (.region false [
              ⟨some 4, .mov (.const (.int .i64 0)), none⟩] [])
          (.block 0
            (.loop
              (.seq
                (.seq
                  (.region false [
                      ⟨some 9, .mov (.tmp 4), none⟩,
                      ⟨some 10, .mov (.tmp 0), none⟩,
                      ⟨some 11, .lenl (.tmp 10), none⟩,
                      ⟨some 12, .bin .lss 3 (.tmp 9) (.tmp 11), none⟩] [9, 10, 11])
                  (.cond (.tmp 12)
                    .skip
                    (.exit 0)))
                (.seq
                  (.block 1
                    (.region false [
                        ⟨some 15, .faddr 0 1 (.tmp 3), none⟩,
                        ⟨some 16, .load false 1 (.tmp 15), none⟩,
                        ⟨some 17, .mov (.tmp 16), none⟩,
                        ⟨some 18, .mov (.tmp 0), (some (17, false))⟩,
                        ⟨some 19, .mov (.tmp 4), (some (17, false))⟩,
                        ⟨some 20, .iaddr 4 (.tmp 18) (.tmp 19), (some (17, false))⟩,
                        ⟨some 21, .faddr 2 1 (.tmp 20), (some (17, false))⟩,
                        ⟨some 22, .load false 1 (.tmp 21), (some (17, false))⟩,
                        ⟨some 23, .un .not (.tmp 22), (some (17, false))⟩,
                        ⟨some 24, .pick (.tmp 17) (.const (.bool true)) (.tmp 23), none⟩,
                        ⟨some 25, .faddr 0 1 (.tmp 3), none⟩,
                        ⟨none, .store 1 (.tmp 25) (.tmp 24), none⟩] [12, 15, 16, 17, 18, 19, 20, 21, 22, 23, 24, 25]) [])
                  (.region false [
                      ⟨some 13, .mov (.tmp 4), none⟩,
                      ⟨some 14, .bin .add 3 (.tmp 13) (.const (.int .i64 1)), none⟩,
                      ⟨some 4, .mov (.tmp 14), none⟩] [13, 14]))) [] []) [4, 12]))
        (.seq
          (.seq
            (.region false [
                ⟨some 5, .mov (.const (.int .i64 0)), none⟩] [])
            (.block 2
              (.loop
                (.seq
                  (.seq
                    (.region false [
                        ⟨some 26, .mov (.tmp 5), none⟩,
                        ⟨some 27, .mov (.tmp 0), none⟩,
                        ⟨some 28, .lenl (.tmp 27), none⟩,
                        ⟨some 29, .bin .lss 3 (.tmp 26) (.tmp 28), none⟩] [26, 27, 28])
                    (.cond (.tmp 29)
                      .skip
                      (.exit 2)))
                  (.seq
                    (.block 3
                      (.seq
                        (.region false [
                            ⟨some 6, .mov (.const (.int .i64 0)), none⟩] [29])
                        (.block 4
                          (.loop
                            (.seq
                              (.seq
                                (.region false [
                                    ⟨some 32, .mov (.tmp 6), none⟩,
                                    ⟨some 33, .mov (.tmp 0), none⟩,
                                    ⟨some 34, .mov (.tmp 5), none⟩,
                                    ⟨some 35, .iaddr 4 (.tmp 33) (.tmp 34), none⟩,
                                    ⟨some 36, .faddr 3 1 (.tmp 35), none⟩,
                                    ⟨some 37, .load false 1 (.tmp 36), none⟩,
                                    ⟨some 38, .lenl (.tmp 37), none⟩,
                                    ⟨some 39, .bin .lss 3 (.tmp 32) (.tmp 38), none⟩] [32, 33, 34, 35, 36, 37, 38])
                                (.cond (.tmp 39)
                                  .skip
                                  (.exit 4)))
                              (.seq
                                (.block 5
                                  (.seq
                                    (.region false [
                                        ⟨some 42, .mov (.tmp 0), none⟩,
                                        ⟨some 43, .mov (.tmp 5), none⟩,
                                        ⟨some 44, .iaddr 4 (.tmp 42) (.tmp 43), none⟩,
                                        ⟨some 45, .faddr 3 1 (.tmp 44), none⟩,
                                        ⟨some 46, .load false 1 (.tmp 45), none⟩,
                                        ⟨some 47, .mov (.tmp 6), none⟩,
                                        ⟨some 48, .iaddr 1 (.tmp 46) (.tmp 47), none⟩,
                                        ⟨some 49, .load false 1 (.tmp 48), none⟩,
                                        ⟨some 7, .mov (.tmp 49), none⟩] [39, 42, 43, 44, 45, 46, 47, 48, 49])
                                    (.seq
                                      (.region false [
                                          ⟨some 50, .faddr 0 1 (.tmp 3), none⟩,
                                          ⟨some 51, .load false 1 (.tmp 50), none⟩,
                                          ⟨some 52, .un .not (.tmp 51), none⟩,
                                          ⟨some 53, .mov (.tmp 52), none⟩,
                                          ⟨some 54, .mov (.tmp 0), (some (53, false))⟩,
                                          ⟨some 55, .mov (.tmp 5), (some (53, false))⟩,
                                          ⟨some 56, .iaddr 4 (.tmp 54) (.tmp 55), (some (53, false))⟩,
                                          ⟨some 57, .faddr 2 1 (.tmp 56), (some (53, false))⟩,
                                          ⟨some 58, .load false 1 (.tmp 57), (some (53, false))⟩,
                                          ⟨some 59, .un .not (.tmp 58), (some (53, false))⟩,
                                          ⟨some 60, .mov (.tmp 59), (some (53, false))⟩,
                                          ⟨some 61, .mov (.tmp 0), (some (60, true))⟩,
                                          ⟨some 62, .mov (.tmp 7), (some (60, true))⟩,
                                          ⟨some 63, .callm 27 [.tmp 61, .tmp 62], (some (60, true))⟩,
                                          ⟨some 64, .pick (.tmp 60) (.tmp 63) (.const (.bool false)), (some (53, false))⟩,
                                          ⟨some 65, .pick (.tmp 53) (.const (.bool true)) (.tmp 64), none⟩] [50, 51, 52, 53, 54, 55, 56, 57, 58, 59, 60, 61, 62, 63, 64])
                                      (.cond (.tmp 65)
                                        (.region false [
                                            ⟨some 66, .faddr 1 1 (.tmp 3), none⟩,
                                            ⟨some 67, .load false 1 (.tmp 66), none⟩,
                                            ⟨some 68, .mov (.tmp 7), none⟩,
                                            ⟨some 69, .callm 28 [.tmp 67, .tmp 68], none⟩,
                                            ⟨some 70, .faddr 1 1 (.tmp 3), none⟩,
                                            ⟨none, .store 1 (.tmp 70) (.tmp 69), none⟩] [7, 65, 66, 67, 68, 69, 70])
                                        .skip))) [7, 65])
                                (.region false [
                                    ⟨some 40, .mov (.tmp 6), none⟩,
                                    ⟨some 41, .bin .add 3 (.tmp 40) (.const (.int .i64 1)), none⟩,
                                    ⟨some 6, .mov (.tmp 41), none⟩] [40, 41]))) [] []) [6, 39])) [])
                    (.region false [
                        ⟨some 30, .mov (.tmp 5), none⟩,
                        ⟨some 31, .bin .add 3 (.tmp 30) (.const (.int .i64 1)), none⟩,
                        ⟨some 5, .mov (.tmp 31), none⟩] [30, 31]))) [] []) [0, 5, 29]))
          (.seq
            (.region false [
                ⟨some 71, .load true 2 (.tmp 3), none⟩,
                ⟨none, .store 2 (.tmp 2) (.tmp 71), none⟩] [3, 71])
            .ret)))))
abbrev v_rivuletref8_Filtered : List RV := [.cell true 2 2]
abbrev f_rivuletref8_Filtered : FuncId := 17
theorem k_rivuletref8_Filtered : closedOf Try.prog Try.f17 = (false, some true, some v_rivuletref8_Filtered, some c_rivuletref8_Filtered.plain, 72) := by kernel_rfl
theorem ac_rivuletref8_Filtered {args : List AV} {r : AV} (h : aw Try.prog c_rivuletref8_Filtered (env0 args) (endQ v_rivuletref8_Filtered r)) (hargs : args.length ≤ 72 := by decide) (hok : resOK r = true := by rfl) : AC Try.prog f_rivuletref8_Filtered args r :=
  AC_mk (by kernel_rfl) Try.func17 k_rivuletref8_Filtered hargs hok (by decide) h
theorem am_rivuletref8_Filtered {args : List AV} {c0 c1 : List (Nat × List AV)} {r : AV} (h : aw Try.prog c_rivuletref8_Filtered (env0M args c0) (endM v_rivuletref8_Filtered r (c0.map (·.1)) c1)) (hc0 : ∀ q ∈ c0, 100000 ≤ q.1) (hargs : args.length ≤ 72 := by decide) (hok : resOK r = true := by rfl) : AM Try.prog f_rivuletref8_Filtered args c0 r c1 :=
  AM_mk (by kernel_rfl) Try.func17 k_rivuletref8_Filtered hargs hok (by decide) hc0 h

/-- rivulet/rivuletref.Has (function 18) -/
def c_rivuletref_Has : ACode :=
  (.seq
    (.region false [
        ⟨some 4, .mov (.const (.bool false)), none⟩] [4])
    (.seq
      (.seq
        (.region false [
            ⟨some 5, .mov (.const (.int .i64 0)), none⟩] [])
        (.block 0
          (.loop
            (.seq
              (.seq
                (.region false [
                    ⟨some 6, .mov (.tmp 5), none⟩,
                    ⟨some 7, .mov (.tmp 0), none⟩,
                    ⟨some 8, .lenl (.tmp 7), none⟩,
                    ⟨some 9, .bin .lss 3 (.tmp 6) (.tmp 8), none⟩] [6, 7, 8])
                (.cond (.tmp 9)
                  .skip
                  (.exit 0)))
              (.seq
                (.block 1
                  (.seq
                    (.region false [
                        ⟨some 12, .mov (.tmp 0), none⟩,
                        ⟨some 13, .mov (.tmp 5), none⟩,
                        ⟨some 14, .iaddr 1 (.tmp 12) (.tmp 13), none⟩,
                        ⟨some 15, .load false 1 (.tmp 14), none⟩,
                        ⟨some 16, .mov (.tmp 1), none⟩,
                        ⟨some 17, .bin .eql 23 (.tmp 15) (.tmp 16), none⟩] [9, 12, 13, 14, 15, 16])
                    (.cond (.tmp 17)
                      (.seq
                        (.region false [
                            ⟨some 4, .mov (.const (.bool true)), none⟩] [0, 1, 5, 17])
                        .ret)
                      .skip)) [17])
                (.region false [
                    ⟨some 10, .mov (.tmp 5), none⟩,
                    ⟨some 11, .bin .add 3 (.tmp 10) (.const (.int .i64 1)), none⟩,
                    ⟨some 5, .mov (.tmp 11), none⟩] [10, 11]))) [] []) [0, 1, 5, 9]))
      (.seq
        (.region false [
            ⟨some 4, .mov (.const (.bool false)), none⟩] [])
        .ret)))
abbrev v_rivuletref_Has : List RV := [.tmp 4]
abbrev f_rivuletref_Has : FuncId := 18
theorem k_rivuletref_Has : closedOf Try.prog Try.f18 = (false, some true, some v_rivuletref_Has, some c_rivuletref_Has.plain, 18) := by kernel_rfl
theorem ac_rivuletref_Has {args : List AV} {r : AV} (h : aw Try.prog c_rivuletref_Has (env0 args) (endQ v_rivuletref_Has r)) (hargs : args.length ≤ 18 := by decide) (hok : resOK r = true := by rfl) : AC Try.prog f_rivuletref_Has args r :=
  AC_mk (by kernel_rfl) Try.func18 k_rivuletref_Has hargs hok (by decide) h
theorem am_rivuletref_Has {args : List AV} {c0 c1 : List (Nat × List AV)} {r : AV} (h : aw Try.prog c_rivuletref_Has (env0M args c0) (endM v_rivuletref_Has r (c0.map (·.1)) c1)) (hc0 : ∀ q ∈ c0, 100000 ≤ q.1) (hargs : args.length ≤ 18 := by decide) (hok : resOK r = true := by rfl) : AM Try.prog f_rivuletref_Has args c0 r c1 :=
  AM_mk (by kernel_rfl) Try.func18 k_rivuletref_Has hargs hok (by decide) hc0 h

/-- rivulet/rivuletref8.Admits (function 19) -/
def c_rivuletref8_Admits : ACode :=
  (.seq
    (.region false [
        ⟨some 2, .box (.tmp 0), none⟩,
        ⟨some 4, .mov (.const (.bool false)), none⟩] [0, 4])
    (.seq
      (.region true [
          ⟨some 5, .faddr 3 1 (.tmp 2), none⟩,
          ⟨some 6, .load false 1 (.tmp 5), none⟩,
          ⟨some 7, .mov (.tmp 1), none⟩,
          ⟨some 8, .call 18 [.tmp 6, .tmp 7], none⟩,
          ⟨some 9, .faddr 2 1 (.tmp 2), none⟩,
          ⟨some 10, .load false 1 (.tmp 9), none⟩,
          ⟨some 11, .eqb false 4 (.tmp 8) (.tmp 10), none⟩,
          ⟨some 4, .mov (.tmp 11), none⟩] [1, 2, 5, 6, 7, 8, 9, 10, 11])
      .ret))
abbrev v_rivuletref8_Admits : List RV := [.tmp 4]
abbrev f_rivuletref8_Admits : FuncId := 19
theorem k_rivuletref8_Admits : closedOf Try.prog Try.f19 = (false, some true, some v_rivuletref8_Admits, some c_rivuletref8_Admits.plain, 12) := by kernel_rfl
theorem ac_rivuletref8_Admits {args : List AV} {r : AV} (h : aw Try.prog c_rivuletref8_Admits (env0 args) (endQ v_rivuletref8_Admits r)) (hargs : args.length ≤ 12 := by decide) (hok : resOK r = true := by rfl) : AC Try.prog f_rivuletref8_Admits args r :=
  AC_mk (by kernel_rfl) Try.func19 k_rivuletref8_Admits hargs hok (by decide) h
theorem am_rivuletref8_Admits {args : List AV} {c0 c1 : List (Nat × List AV)} {r : AV} (h : aw Try.prog c_rivuletref8_Admits (env0M args c0) (endM v_rivuletref8_Admits r (c0.map (·.1)) c1)) (hc0 : ∀ q ∈ c0, 100000 ≤ q.1) (hargs : args.length ≤ 12 := by decide) (hok : resOK r = true := by rfl) : AM Try.prog f_rivuletref8_Admits args c0 r c1 :=
  AM_mk (by kernel_rfl) Try.func19 k_rivuletref8_Admits hargs hok (by decide) hc0 h

/-- rivulet/rivuletref8.FilterKeys (function 20) -/
def c_rivuletref8_FilterKeys : ACode :=
  (.seq
    (.region false [
        ⟨some 2, .box (.tmp 0), none⟩,
        ⟨some 4, .mov (.const (.slice none 0 0)), none⟩] [0, 4])
    (.seq
      (.seq
        (.region false [
            ⟨some 9, .faddr 0 1 (.tmp 2), none⟩,
            ⟨some 10, .load false 1 (.tmp 9), none⟩] [9])
        (.cond (.tmp 10)
          (.seq
            (.region false [
                ⟨some 11, .mov (.tmp 1), none⟩,
                ⟨some 12, .build [.lit (.int .u32 0), .lit (.int .u32 0)] [(1, 1, .tmp 11)], none⟩,
                ⟨some 13, .bslice 1 2 [.tmp 12], none⟩,
                ⟨some 4, .mov (.tmp 13), none⟩] [1, 2, 10, 11, 12, 13])
            .ret)
          .skip))
      (.seq
        (.region false [
            ⟨some 5, .mov (.const (.slice none 0 0)), none⟩] [10])
        (.seq
          (.seq
            (.region false [
                ⟨some 6, .mov (.const (.int .i64 0)), none⟩] [])
            (.block 0
              (.loop
                (.seq
                  (.seq
                    (.region false [
                        ⟨some 14, .mov (.tmp 6), none⟩,
                        ⟨some 15, .faddr 1 1 (.tmp 2), none⟩,
                        ⟨some 16, .load false 1 (.tmp 15), none⟩,
                        ⟨some 17, .lenl (.tmp 16), none⟩,
                        ⟨some 18, .bin .lss 3 (.tmp 14) (.tmp 17), none⟩] [14, 15, 16, 17])
                    (.cond (.tmp 18)
                      .skip
                      (.exit 0)))
                  (.seq
                    (.block 1
                      (.region false [
                          ⟨some 21, .mov (.tmp 5), none⟩,
                          ⟨some 22, .faddr 1 1 (.tmp 2), none⟩,
                          ⟨some 23, .load false 1 (.tmp 22), none⟩,
                          ⟨some 24, .mov (.tmp 6), none⟩,
                          ⟨some 25, .iaddr 1 (.tmp 23) (.tmp 24), none⟩,
                          ⟨some 26, .load false 1 (.tmp 25), none⟩,
                          ⟨some 27, .callm 28 [.tmp 21, .tmp 26], none⟩,
                          ⟨some 5, .mov (.tmp 27), none⟩] [18, 21, 22, 23, 24, 25, 26, 27]) [])
                    (.region false [
                        ⟨some 19, .mov (.tmp 6), none⟩,
                        ⟨some 20, .bin .add 3 (.tmp 19) (.const (.int .i64 1)), none⟩,
                        ⟨some 6, .mov (.tmp 20), none⟩] [19, 20]))) [] []) [2, 6, 18]))
          (.seq
            (.region false [
                ⟨some 7, .mov (.const (.slice none 0 0)), none⟩] [])
            (.seq
              (.seq
                (.region false [
                    ⟨some 8, .mov (.const (.int .i64 0)), none⟩] [])
                (.block 2
                  (.loop
                    (.seq
                      (.seq
                        (.region false [
                            ⟨some 28, .mov (.tmp 8), none⟩,
                            ⟨some 29, .mov (.tmp 5), none⟩,
                            ⟨some 30, .lenl (.tmp 29), none⟩,
                            ⟨some 31, .bin .lss 3 (.tmp 28) (.tmp 30), none⟩] [28, 29, 30])
                        (.cond (.tmp 31)
                          .skip
                          (.exit 2)))
                      (.seq
                        (.block 3
                          (.region false [
                              ⟨some 34, .mov (.tmp 7), none⟩,
                              ⟨some 35, .mov (.tmp 5), none⟩,
                              ⟨some 36, .mov (.tmp 8), none⟩,
                              ⟨some 37, .iaddr 1 (.tmp 35) (.tmp 36), none⟩,
                              ⟨some 38, .load false 1 (.tmp 37), none⟩,
                              ⟨some 39, .mov (.tmp 1), none⟩,
                              ⟨some 40, .build [.lit (.int .u32 0), .lit (.int .u32 0)] [(0, 1, .tmp 38), (1, 1, .tmp 39)], none⟩,
                              ⟨some 41, .bslice 1 2 [.tmp 40], none⟩,
                              ⟨some 42, .app 2 8 [] (.tmp 34) (.tmp 41), none⟩,
                              ⟨some 7, .mov (.tmp 42), none⟩] [31, 34, 35, 36, 37, 38, 39, 40, 41, 42]) [])
                        (.region false [
                            ⟨some 32, .mov (.tmp 8), none⟩,
                            ⟨some 33, .bin .add 3 (.tmp 32) (.const (.int .i64 1)), none⟩,
                            ⟨some 8, .mov (.tmp 33), none⟩] [32, 33]))) [] []) [1, 5, 8, 31]))
              (.seq
                (.region false [
                    ⟨some 43, .mov (.tmp 7), none⟩,
                    ⟨some 4, .mov (.tmp 43), none⟩] [7, 43])
                .ret)))))))
abbrev v_rivuletref8_FilterKeys : List RV := [.tmp 4]
abbrev f_rivuletref8_FilterKeys : FuncId := 20
theorem k_rivuletref8_FilterKeys : closedOf Try.prog Try.f20 = (false, some true, some v_rivuletref8_FilterKeys, some c_rivuletref8_FilterKeys.plain, 44) := by kernel_rfl
theorem ac_rivuletref8_FilterKeys {args : List AV} {r : AV} (h : aw Try.prog c_rivuletref8_FilterKeys (env0 args) (endQ v_rivuletref8_FilterKeys r)) (hargs : args.length ≤ 44 := by decide) (hok : resOK r = true := by rfl) : AC Try.prog f_rivuletref8_FilterKeys args r :=
  AC_mk (by kernel_rfl) Try.func20 k_rivuletref8_FilterKeys hargs hok (by decide) h
theorem am_rivuletref8_FilterKeys {args : List AV} {c0 c1 : List (Nat × List AV)} {r : AV} (h : aw Try.prog c_rivuletref8_FilterKeys (env0M args c0) (endM v_rivuletref8_FilterKeys r (c0.map (·.1)) c1)) (hc0 : ∀ q ∈ c0, 100000 ≤ q.1) (hargs : args.length ≤ 44 := by decide) (hok : resOK r = true := by rfl) : AM Try.prog f_rivuletref8_FilterKeys args c0 r c1 :=
  AM_mk (by kernel_rfl) Try.func20 k_rivuletref8_FilterKeys hargs hok (by decide) hc0 h

/-- rivulet/rivuletref.SameKeys (function 21) -/
def c_rivuletref_SameKeys : ACode :=
  (.seq
    (.region false [
        ⟨some 4, .mov (.const (.bool false)), none⟩] [4])
    (.seq
      (.seq
        (.region false [
            ⟨some 7, .mov (.tmp 0), none⟩,
            ⟨some 8, .lenl (.tmp 7), none⟩,
            ⟨some 9, .mov (.tmp 1), none⟩,
            ⟨some 10, .lenl (.tmp 9), none⟩,
            ⟨some 11, .bin .neq 3 (.tmp 8) (.tmp 10), none⟩] [7, 8, 9, 10])
        (.cond (.tmp 11)
          (.seq
            (.region false [
                ⟨some 4, .mov (.const (.bool false)), none⟩] [0, 1, 11])
            .ret)
          .skip))
      (.seq
        (.seq
          (.region false [
              ⟨some 5, .mov (.const (.int .i64 0)), none⟩] [11])
          (.block 0
            (.loop
              (.seq
                (.seq
                  (.region false [
                      ⟨some 12, .mov (.tmp 5), none⟩,
                      ⟨some 13, .mov (.tmp 0), none⟩,
                      ⟨some 14, .lenl (.tmp 13), none⟩,
                      ⟨some 15, .bin .lss 3 (.tmp 12) (.tmp 14), none⟩] [12, 13, 14])
                  (.cond (.tmp 15)
                    .skip
                    (.exit 0)))
                (.seq
                  (.block 1
                    (.seq
                      (.region true [
                          ⟨some 18, .mov (.tmp 0), none⟩,
                          ⟨some 19, .mov (.tmp 5), none⟩,
                          ⟨some 20, .iaddr 2 (.tmp 18) (.tmp 19), none⟩,
                          ⟨some 21, .load true 2 (.tmp 20), none⟩,
                          ⟨some 22, .mov (.tmp 1), none⟩,
                          ⟨some 23, .mov (.tmp 5), none⟩,
                          ⟨some 24, .iaddr 2 (.tmp 22) (.tmp 23), none⟩,
                          ⟨some 25, .load true 2 (.tmp 24), none⟩,
                          ⟨some 26, .call 29 [.tmp 21, .tmp 25], none⟩,
                          ⟨some 6, .mov (.tmp 26), none⟩] [15, 18, 19, 20, 21, 22, 23, 24, 25, 26])
                      (.seq
                        (.region false [
                            ⟨some 27, .mov (.tmp 6), none⟩,
                            ⟨some 28, .un .not (.tmp 27), none⟩] [6, 27])
                        (.cond (.tmp 28)
                          (.seq
                            (.region false [
                                ⟨some 4, .mov (.const (.bool false)), none⟩] [0, 1, 5, 28])
                            .ret)
                          .skip))) [28])
                  (.region false [
                      ⟨some 16, .mov (.tmp 5), none⟩,
                      ⟨some 17, .bin .add 3 (.tmp 16) (.const (.int .i64 1)), none⟩,
                      ⟨some 5, .mov (.tmp 17), none⟩] [16, 17]))) [] []) [0, 1, 5, 15]))
        (.seq
          (.region false [
              ⟨some 4, .mov (.const (.bool true)), none⟩] [])
          .ret))))
abbrev v_rivuletref_SameKeys : List RV := [.tmp 4]
abbrev f_rivuletref_SameKeys : FuncId := 21
theorem k_rivuletref_SameKeys : closedOf Try.prog Try.f21 = (false, some true, some v_rivuletref_SameKeys, some c_rivuletref_SameKeys.plain, 29) := by kernel_rfl
theorem ac_rivuletref_SameKeys {args : List AV} {r : AV} (h : aw Try.prog c_rivuletref_SameKeys (env0 args) (endQ v_rivuletref_SameKeys r)) (hargs : args.length ≤ 29 := by decide) (hok : resOK r = true := by rfl) : AC Try.prog f_rivuletref_SameKeys args r :=
  AC_mk (by kernel_rfl) Try.func21 k_rivuletref_SameKeys hargs hok (by decide) h
theorem am_rivuletref_SameKeys {args : List AV} {c0 c1 : List (Nat × List AV)} {r : AV} (h : aw Try.prog c_rivuletref_SameKeys (env0M args c0) (endM v_rivuletref_SameKeys r (c0.map (·.1)) c1)) (hc0 : ∀ q ∈ c0, 100000 ≤ q.1) (hargs : args.length ≤ 29 := by decide) (hok : resOK r = true := by rfl) : AM Try.prog f_rivuletref_SameKeys args c0 r c1 :=
  AM_mk (by kernel_rfl) Try.func21 k_rivuletref_SameKeys hargs hok (by decide) hc0 h

/-- rivulet/filt.rising (function 22) -/
def c_filt_rising : ACode :=
  (.seq
    (.region false [
        ⟨some 2, .mov (.const (.slice none 0 0)), none⟩] [2])
    (.seq
      (.region false [
          ⟨some 3, .mov (.tmp 0), none⟩,
          ⟨some 4, .callm 30 [.tmp 3], none⟩,
          ⟨some 0, .mov (.tmp 4), none⟩] [3, 4])
      (.seq
        (.shift
        (.region false [
            ⟨some 5, .mov (.tmp 0), none⟩,
            ⟨some 6, .callm 31 [.tmp 5], none⟩] [5, 6]))
        (.seq
          (.region false [
              ⟨some 7, .mov (.tmp 0), none⟩,
              ⟨some 8, .callm 32 [.tmp 7], none⟩,
              ⟨some 2, .mov (.tmp 8), none⟩] [0, 7, 8])
          .ret))))
abbrev v_filt_rising : List RV := [.tmp 2]
abbrev f_filt_rising : FuncId := 22
theorem k_filt_rising : closedOf Try.prog Try.f22 = (false, some true, some v_filt_rising, some c_filt_rising.plain, 9) := by kernel_rfl
theorem ac_filt_rising {args : List AV} {r : AV} (h : aw Try.prog c_filt_rising (env0 args) (endQ v_filt_rising r)) (hargs : args.length ≤ 9 := by decide) (hok : resOK r = true := by rfl) : AC Try.prog f_filt_rising args r :=
  AC_mk (by kernel_rfl) Try.func22 k_filt_rising hargs hok (by decide) h
theorem am_filt_rising {args : List AV} {c0 c1 : List (Nat × List AV)} {r : AV} (h : aw Try.prog c_filt_rising (env0M args c0) (endM v_filt_rising r (c0.map (·.1)) c1)) (hc0 : ∀ q ∈ c0, 100000 ≤ q.1) (hargs : args.length ≤ 9 := by decide) (hok : resOK r = true := by rfl) : AM Try.prog f_filt_rising args c0 r c1 :=
  AM_mk (by kernel_rfl) Try.func22 k_filt_rising hargs hok (by decide) hc0 h

/-- slices.ContainsFunc[[]rivulet/api.Member,rivulet/api.Member] (function 23) -/
def c_slices_ContainsFunc_api_Member_api_Member : ACode :=
  (.seq
    (.region false [
        ⟨some 4, .mov (.const (.bool false)), none⟩] [4])
    (.seq
      (.region false [
          ⟨some 5, .mov (.tmp 0), none⟩,
          ⟨some 6, .mov (.tmp 1), none⟩,
          ⟨some 7, .callm 33 [.tmp 5, .tmp 6], none⟩,
          ⟨some 8, .bin .geq 3 (.tmp 7) (.const (.int .i64 0)), none⟩,
          ⟨some 4, .mov (.tmp 8), none⟩] [0, 1, 5, 6, 7, 8])
      .ret))
abbrev v_slices_ContainsFunc_api_Member_api_Member : List RV := [.tmp 4]
abbrev f_slices_ContainsFunc_api_Member_api_Member : FuncId := 23
theorem k_slices_ContainsFunc_api_Member_api_Member : closedOf Try.prog Try.f23 = (false, some true, some v_slices_ContainsFunc_api_Member_api_Member, some c_slices_ContainsFunc_api_Member_api_Member.plain, 9) := by kernel_rfl
theorem ac_slices_ContainsFunc_api_Member_api_Member {args : List AV} {r : AV} (h : aw Try.prog c_slices_ContainsFunc_api_Member_api_Member (env0 args) (endQ v_slices_ContainsFunc_api_Member_api_Member r)) (hargs : args.length ≤ 9 := by decide) (hok : resOK r = true := by rfl) : AC Try.prog f_slices_ContainsFunc_api_Member_api_Member args r :=
  AC_mk (by kernel_rfl) Try.func23 k_slices_ContainsFunc_api_Member_api_Member hargs hok (by decide) h
theorem am_slices_ContainsFunc_api_Member_api_Member {args : List AV} {c0 c1 : List (Nat × List AV)} {r : AV} (h : aw Try.prog c_slices_ContainsFunc_api_Member_api_Member (env0M args c0) (endM v_slices_ContainsFunc_api_Member_api_Member r (c0.map (·.1)) c1)) (hc0 : ∀ q ∈ c0, 100000 ≤ q.1) (hargs : args.length ≤ 9 := by decide) (hok : resOK r = true := by rfl) : AM Try.prog f_slices_ContainsFunc_api_Member_api_Member args c0 r c1 :=
  AM_mk (by kernel_rfl) Try.func23 k_slices_ContainsFunc_api_Member_api_Member hargs hok (by decide) hc0 h

/-- rivulet/filt.Of$1 (function 24) -/
def c_filt_Of_1 : ACode :=
  (.seq
    (.region false [
        ⟨some 2, .box (.tmp 0), none⟩,
        ⟨some 3, .mov (.const (.bool false)), none⟩] [0, 3])
    (.seq
      (.region false [
          ⟨some 4, .load true 4 (.tmp 2), none⟩,
          ⟨some 5, .load false 1 (.tmp 1), none⟩,
          ⟨some 6, .callm 12 [.tmp 4, .tmp 5], none⟩,
          ⟨some 3, .mov (.tmp 6), none⟩] [1, 2, 4, 5, 6])
      .ret))
abbrev v_filt_Of_1 : List RV := [.tmp 3]
abbrev f_filt_Of_1 : FuncId := 24
theorem k_filt_Of_1 : closedOf Try.prog Try.f24 = (false, some true, some v_filt_Of_1, some c_filt_Of_1.plain, 7) := by kernel_rfl
theorem ac_filt_Of_1 {args : List AV} {r : AV} (h : aw Try.prog c_filt_Of_1 (env0 args) (endQ v_filt_Of_1 r)) (hargs : args.length ≤ 7 := by decide) (hok : resOK r = true := by rfl) : AC Try.prog f_filt_Of_1 args r :=
  AC_mk (by kernel_rfl) Try.func24 k_filt_Of_1 hargs hok (by decide) h
theorem am_filt_Of_1 {args : List AV} {c0 c1 : List (Nat × List AV)} {r : AV} (h : aw Try.prog c_filt_Of_1 (env0M args c0) (endM v_filt_Of_1 r (c0.map (·.1)) c1)) (hc0 : ∀ q ∈ c0, 100000 ≤ q.1) (hargs : args.length ≤ 7 := by decide) (hok : resOK r = true := by rfl) : AM Try.prog f_filt_Of_1 args c0 r c1 :=
  AM_mk (by kernel_rfl) Try.func24 k_filt_Of_1 hargs hok (by decide) hc0 h

/-- slices.Contains[[]rivulet/api.Addr,rivulet/api.Addr] (function 25) -/
def c_slices_Contains_api_Addr_api_Addr : ACode :=
  (.seq
    (.region false [
        ⟨some 4, .mov (.const (.bool false)), none⟩] [4])
    (.seq
      (.region false [
          ⟨some 5, .mov (.tmp 0), none⟩,
          ⟨some 6, .mov (.tmp 1), none⟩,
          ⟨some 7, .callm 34 [.tmp 5, .tmp 6], none⟩,
          ⟨some 8, .bin .geq 3 (.tmp 7) (.const (.int .i64 0)), none⟩,
          ⟨some 4, .mov (.tmp 8), none⟩] [0, 1, 5, 6, 7, 8])
      .ret))
abbrev v_slices_Contains_api_Addr_api_Addr : List RV := [.tmp 4]
abbrev f_slices_Contains_api_Addr_api_Addr : FuncId := 25
theorem k_slices_Contains_api_Addr_api_Addr : closedOf Try.prog Try.f25 = (false, some true, some v_slices_Contains_api_Addr_api_Addr, some c_slices_Contains_api_Addr_api_Addr.plain, 9) := by kernel_rfl
theorem ac_slices_Contains_api_Addr_api_Addr {args : List AV} {r : AV} (h : aw Try.prog c_slices_Contains_api_Addr_api_Addr (env0 args) (endQ v_slices_Contains_api_Addr_api_Addr r)) (hargs : args.length ≤ 9 := by decide) (hok : resOK r = true := by rfl) : AC Try.prog f_slices_Contains_api_Addr_api_Addr args r :=
  AC_mk (by kernel_rfl) Try.func25 k_slices_Contains_api_Addr_api_Addr hargs hok (by decide) h
theorem am_slices_Contains_api_Addr_api_Addr {args : List AV} {c0 c1 : List (Nat × List AV)} {r : AV} (h : aw Try.prog c_slices_Contains_api_Addr_api_Addr (env0M args c0) (endM v_slices_Contains_api_Addr_api_Addr r (c0.map (·.1)) c1)) (hc0 : ∀ q ∈ c0, 100000 ≤ q.1) (hargs : args.length ≤ 9 := by decide) (hok : resOK r = true := by rfl) : AM Try.prog f_slices_Contains_api_Addr_api_Addr args c0 r c1 :=
  AM_mk (by kernel_rfl) Try.func25 k_slices_Contains_api_Addr_api_Addr hargs hok (by decide) hc0 h

/-- slices.Equal[[]rivulet/api.Addr,rivulet/api.Addr] (function 26) -/
def c_slices_Equal_api_Addr_api_Addr : ACode :=
  (.seq
    (.region false [
        ⟨some 4, .mov (.const (.bool false)), none⟩] [4])
    (.seq
      (.seq
        (.region false [
            ⟨some 6, .mov (.tmp 0), none⟩,
            ⟨some 7, .lenl (.tmp 6), none⟩,
            ⟨some 8, .mov (.tmp 1), none⟩,
            ⟨some 9, .lenl (.tmp 8), none⟩,
            ⟨some 10, .bin .neq 3 (.tmp 7) (.tmp 9), none⟩] [6, 7, 8, 9])
        (.cond (.tmp 10)
          (.seq
            (.region false [
                ⟨some 4, .mov (.const (.bool false)), none⟩] [0, 1, 10])
            .ret)
          .skip))
      (.seq
        (.seq
          (.region false [
              ⟨some 11, .mov (.tmp 0), none⟩,
              ⟨some 12, .lenl (.tmp 11), none⟩,
              ⟨some 13, .mov (.const (.int .i64 0)), none⟩] [10, 11])
          (.block 0
            (.loop
              (.seq
                (.region false [
                    ⟨some 14, .bin .lss 3 (.tmp 13) (.tmp 12), none⟩] [])
                (.seq
                  (.cond (.tmp 14)
                    .skip
                    (.exit 0))
                  (.seq
                    (.block 1
                      (.seq
                        (.region false [
                            ⟨some 15, .mov (.tmp 13), none⟩,
                            ⟨some 5, .mov (.tmp 15), none⟩] [14, 15])
                        (.seq
                          (.region true [
                              ⟨some 16, .mov (.tmp 0), none⟩,
                              ⟨some 17, .mov (.tmp 5), none⟩,
                              ⟨some 18, .iaddr 1 (.tmp 16) (.tmp 17), none⟩,
                              ⟨some 19, .load false 1 (.tmp 18), none⟩,
                              ⟨some 20, .mov (.tmp 1), none⟩,
                              ⟨some 21, .mov (.tmp 5), none⟩,
                              ⟨some 22, .iaddr 1 (.tmp 20) (.tmp 21), none⟩,
                              ⟨some 23, .load false 1 (.tmp 22), none⟩,
                              ⟨some 24, .bin .neq 23 (.tmp 19) (.tmp 23), none⟩] [5, 16, 17, 18, 19, 20, 21, 22, 23])
                          (.cond (.tmp 24)
                            (.seq
                              (.region false [
                                  ⟨some 4, .mov (.const (.bool false)), none⟩] [0, 1, 12, 13, 24])
                              .ret)
                            .skip))) [24])
                    (.region false [
                        ⟨some 25, .bin .add 3 (.tmp 13) (.const (.int .i64 1)), none⟩,
                        ⟨some 13, .mov (.tmp 25), none⟩] [25])))) [] []) [0, 1, 12, 13, 14]))
        (.seq
          (.region false [
              ⟨some 4, .mov (.const (.bool true)), none⟩] [])
          .ret))))
abbrev v_slices_Equal_api_Addr_api_Addr : List RV := [.tmp 4]
abbrev f_slices_Equal_api_Addr_api_Addr : FuncId := 26
theorem k_slices_Equal_api_Addr_api_Addr : closedOf Try.prog Try.f26 = (false, some true, some v_slices_Equal_api_Addr_api_Addr, some c_slices_Equal_api_Addr_api_Addr.plain, 26) := by kernel_rfl
theorem ac_slices_Equal_api_Addr_api_Addr {args : List AV} {r : AV} (h : aw Try.prog c_slices_Equal_api_Addr_api_Addr (env0 args) (endQ v_slices_Equal_api_Addr_api_Addr r)) (hargs : args.length ≤ 26 := by decide) (hok : resOK r = true := by rfl) : AC Try.prog f_slices_Equal_api_Addr_api_Addr args r :=
  AC_mk (by kernel_rfl) Try.func26 k_slices_Equal_api_Addr_api_Addr hargs hok (by decide) h
theorem am_slices_Equal_api_Addr_api_Addr {args : List AV} {c0 c1 : List (Nat × List AV)} {r : AV} (h : aw Try.prog c_slices_Equal_api_Addr_api_Addr (env0M args c0) (endM v_slices_Equal_api_Addr_api_Addr r (c0.map (·.1)) c1)) (hc0 : ∀ q ∈ c0, 100000 ≤ q.1) (hargs : args.length ≤ 26 := by decide) (hok : resOK r = true := by rfl) : AM Try.prog f_slices_Equal_api_Addr_api_Addr args c0 r c1 :=
  AM_mk (by kernel_rfl) Try.func26 k_slices_Equal_api_Addr_api_Addr hargs hok (by decide) hc0 h

/-- rivulet/rivuletref8.kept (function 27) -/
def c_rivuletref8_kept : ACode :=
  (.seq
    (.region false [
        ⟨some 4, .mov (.const (.bool false)), none⟩] [4])
    (.seq
      (.seq
        (.region false [
            ⟨some 5, .mov (.const (.int .i64 0)), none⟩] [])
        (.block 0
          (.loop
            (.seq
              (.seq
                (.region false [
                    ⟨some 6, .mov (.tmp 5), none⟩,
                    ⟨some 7, .mov (.tmp 0), none⟩,
                    ⟨some 8, .lenl (.tmp 7), none⟩,
                    ⟨some 9, .bin .lss 3 (.tmp 6) (.tmp 8), none⟩] [6, 7, 8])
                (.cond (.tmp 9)
                  .skip
                  (.exit 0)))
              (.seq
                (.block 1
                  (.seq
                    (.region true [
                        ⟨some 12, .mov (.tmp 0), none⟩,
                        ⟨some 13, .mov (.tmp 5), none⟩,
                        ⟨some 14, .iaddr 4 (.tmp 12) (.tmp 13), none⟩,
                        ⟨some 15, .faddr 3 1 (.tmp 14), none⟩,
                        ⟨some 16, .load false 1 (.tmp 15), none⟩,
                        ⟨some 17, .mov (.tmp 1), none⟩,
                        ⟨some 18, .call 18 [.tmp 16, .tmp 17], none⟩,
                        ⟨some 19, .mov (.tmp 0), none⟩,
                        ⟨some 20, .mov (.tmp 5), none⟩,
                        ⟨some 21, .iaddr 4 (.tmp 19) (.tmp 20), none⟩,
                        ⟨some 22, .faddr 2 1 (.tmp 21), none⟩,
                        ⟨some 23, .load false 1 (.tmp 22), none⟩,
                        ⟨some 24, .eqb false 4 (.tmp 18) (.tmp 23), none⟩] [9, 12, 13, 14, 15, 16, 17, 18, 19, 20, 21, 22, 23])
                    (.cond (.tmp 24)
                      (.seq
                        (.region false [
                            ⟨some 4, .mov (.const (.bool false)), none⟩] [0, 1, 5, 24])
                        .ret)
                      .skip)) [24])
                (.region false [
                    ⟨some 10, .mov (.tmp 5), none⟩,
                    ⟨some 11, .bin .add 3 (.tmp 10) (.const (.int .i64 1)), none⟩,
                    ⟨some 5, .mov (.tmp 11), none⟩] [10, 11]))) [] []) [0, 1, 5, 9]))
      (.seq
        (.region false [
            ⟨some 4, .mov (.const (.bool true)), none⟩] [])
        .ret)))
abbrev v_rivuletref8_kept : List RV := [.tmp 4]
abbrev f_rivuletref8_kept : FuncId := 27
theorem k_rivuletref8_kept : closedOf Try.prog Try.f27 = (false, some true, some v_rivuletref8_kept, some c_rivuletref8_kept.plain, 25) := by kernel_rfl
theorem ac_rivuletref8_kept {args : List AV} {r : AV} (h : aw Try.prog c_rivuletref8_kept (env0 args) (endQ v_rivuletref8_kept r)) (hargs : args.length ≤ 25 := by decide) (hok : resOK r = true := by rfl) : AC Try.prog f_rivuletref8_kept args r :=
  AC_mk (by kernel_rfl) Try.func27 k_rivuletref8_kept hargs hok (by decide) h
theorem am_rivuletref8_kept {args : List AV} {c0 c1 : List (Nat × List AV)} {r : AV} (h : aw Try.prog c_rivuletref8_kept (env0M args c0) (endM v_rivuletref8_kept r (c0.map (·.1)) c1)) (hc0 : ∀ q ∈ c0, 100000 ≤ q.1) (hargs : args.length ≤ 25 := by decide) (hok : resOK r = true := by rfl) : AM Try.prog f_rivuletref8_kept args c0 r c1 :=
  AM_mk (by kernel_rfl) Try.func27 k_rivuletref8_kept hargs hok (by decide) hc0 h

/-- rivulet/rivuletref.PutAddr (function 28) -/
def c_rivuletref_PutAddr : ACode :=
  (.seq
    (.region false [
        ⟨some 4, .mov (.const (.slice none 0 0)), none⟩] [4])
    (.seq
      (.region false [
          ⟨some 5, .mov (.const (.int .i64 0)), none⟩] [])
      (.seq
        (.block 0
          (.loop
            (.seq
              (.seq
                (.region false [
                    ⟨some 7, .mov (.tmp 5), none⟩,
                    ⟨some 8, .mov (.tmp 0), none⟩,
                    ⟨some 9, .lenl (.tmp 8), none⟩,
                    ⟨some 10, .bin .lss 3 (.tmp 7) (.tmp 9), none⟩,
                    ⟨some 11, .mov (.tmp 10), none⟩,
                    ⟨some 12, .mov (.tmp 0), (some (11, true))⟩,
                    ⟨some 13, .mov (.tmp 5), (some (11, true))⟩,
                    ⟨some 14, .iaddr 1 (.tmp 12) (.tmp 13), (some (11, true))⟩,
                    ⟨some 15, .load false 1 (.tmp 14), (some (11, true))⟩,
                    ⟨some 16, .mov (.tmp 1), (some (11, true))⟩,
                    ⟨some 17, .bin .lss 23 (.tmp 15) (.tmp 16), (some (11, true))⟩,
                    ⟨some 18, .pick (.tmp 11) (.tmp 17) (.const (.bool false)), none⟩] [7, 8, 9, 10, 11, 12, 13, 14, 15, 16, 17])
                (.cond (.tmp 18)
                  .skip
                  (.exit 0)))
              (.block 1
                (.region false [
                    ⟨some 19, .mov (.tmp 5), none⟩,
                    ⟨some 20, .bin .add 3 (.tmp 19) (.const (.int .i64 1)), none⟩,
                    ⟨some 5, .mov (.tmp 20), none⟩] [18, 19, 20]) [])) [] []) [18])
        (.seq
          (.seq
            (.region false [
                ⟨some 21, .mov (.tmp 5), none⟩,
                ⟨some 22, .mov (.tmp 0), none⟩,
                ⟨some 23, .lenl (.tmp 22), none⟩,
                ⟨some 24, .bin .lss 3 (.tmp 21) (.tmp 23), none⟩,
                ⟨some 25, .mov (.tmp 24), none⟩,
                ⟨some 26, .mov (.tmp 0), (some (25, true))⟩,
                ⟨some 27, .mov (.tmp 5), (some (25, true))⟩,
                ⟨some 28, .iaddr 1 (.tmp 26) (.tmp 27), (some (25, true))⟩,
                ⟨some 29, .load false 1 (.tmp 28), (some (25, true))⟩,
                ⟨some 30, .mov (.tmp 1), (some (25, true))⟩,
                ⟨some 31, .bin .eql 23 (.tmp 29) (.tmp 30), (some (25, true))⟩,
                ⟨some 32, .pick (.tmp 25) (.tmp 31) (.const (.bool false)), none⟩] [21, 22, 23, 24, 25, 26, 27, 28, 29, 30, 31])
            (.cond (.tmp 32)
              (.seq
                (.region false [
                    ⟨some 33, .mov (.tmp 0), none⟩,
                    ⟨some 4, .mov (.tmp 33), none⟩] [0, 1, 5, 32, 33])
                .ret)
              .skip))
          (.seq
            (.region false [
                ⟨some 34, .mov (.tmp 0), none⟩,
                ⟨some 35, .mov (.tmp 5), none⟩,
                ⟨some 36, .slc 1 (.tmp 34) none (some (.tmp 35)), none⟩,
                ⟨some 37, .callm 35 [.tmp 36], none⟩,
                ⟨some 38, .mov (.tmp 1), none⟩,
                ⟨some 39, .bslice 1 1 [.tmp 38], none⟩,
                ⟨some 40, .app 1 4 [] (.tmp 37) (.tmp 39), none⟩,
                ⟨some 6, .mov (.tmp 40), none⟩] [1, 32, 34, 35, 36, 37, 38, 39, 40])
            (.seq
              (.region false [
                  ⟨some 41, .mov (.tmp 6), none⟩,
                  ⟨some 42, .mov (.tmp 0), none⟩,
                  ⟨some 43, .mov (.tmp 5), none⟩,
                  ⟨some 44, .slc 1 (.tmp 42) (some (.tmp 43)) none, none⟩,
                  ⟨some 45, .app 1 4 [] (.tmp 41) (.tmp 44), none⟩,
                  ⟨some 4, .mov (.tmp 45), none⟩] [0, 5, 6, 41, 42, 43, 44, 45])
              .ret))))))
abbrev v_rivuletref_PutAddr : List RV := [.tmp 4]
abbrev f_rivuletref_PutAddr : FuncId := 28
theorem k_rivuletref_PutAddr : closedOf Try.prog Try.f28 = (false, some true, some v_rivuletref_PutAddr, some c_rivuletref_PutAddr.plain, 46) := by kernel_rfl
theorem ac_rivuletref_PutAddr {args : List AV} {r : AV} (h : aw Try.prog c_rivuletref_PutAddr (env0 args) (endQ v_rivuletref_PutAddr r)) (hargs : args.length ≤ 46 := by decide) (hok : resOK r = true := by rfl) : AC Try.prog f_rivuletref_PutAddr args r :=
  AC_mk (by kernel_rfl) Try.func28 k_rivuletref_PutAddr hargs hok (by decide) h
theorem am_rivuletref_PutAddr {args : List AV} {c0 c1 : List (Nat × List AV)} {r : AV} (h : aw Try.prog c_rivuletref_PutAddr (env0M args c0) (endM v_rivuletref_PutAddr r (c0.map (·.1)) c1)) (hc0 : ∀ q ∈ c0, 100000 ≤ q.1) (hargs : args.length ≤ 46 := by decide) (hok : resOK r = true := by rfl) : AM Try.prog f_rivuletref_PutAddr args c0 r c1 :=
  AM_mk (by kernel_rfl) Try.func28 k_rivuletref_PutAddr hargs hok (by decide) hc0 h

/-- rivulet/rivuletref.SameKey (function 29) -/
def c_rivuletref_SameKey : ACode :=
  (.seq
    (.region false [
        ⟨some 2, .box (.tmp 0), none⟩,
        ⟨some 3, .box (.tmp 1), none⟩,
        ⟨some 4, .mov (.const (.bool false)), none⟩] [0, 1, 4])
    (.seq
      (.region false [
          ⟨some 5, .faddr 0 1 (.tmp 2), none⟩,
          ⟨some 6, .load false 1 (.tmp 5), none⟩,
          ⟨some 7, .faddr 0 1 (.tmp 3), none⟩,
          ⟨some 8, .load false 1 (.tmp 7), none⟩,
          ⟨some 9, .bin .eql 23 (.tmp 6) (.tmp 8), none⟩,
          ⟨some 10, .mov (.tmp 9), none⟩,
          ⟨some 11, .faddr 1 1 (.tmp 2), (some (10, true))⟩,
          ⟨some 12, .load false 1 (.tmp 11), (some (10, true))⟩,
          ⟨some 13, .faddr 1 1 (.tmp 3), (some (10, true))⟩,
          ⟨some 14, .load false 1 (.tmp 13), (some (10, true))⟩,
          ⟨some 15, .bin .eql 23 (.tmp 12) (.tmp 14), (some (10, true))⟩,
          ⟨some 16, .pick (.tmp 10) (.tmp 15) (.const (.bool false)), none⟩,
          ⟨some 4, .mov (.tmp 16), none⟩] [2, 3, 5, 6, 7, 8, 9, 10, 11, 12, 13, 14, 15, 16])
      .ret))
abbrev v_rivuletref_SameKey : List RV := [.tmp 4]
abbrev f_rivuletref_SameKey : FuncId := 29
theorem k_rivuletref_SameKey : closedOf Try.prog Try.f29 = (false, some true, some v_rivuletref_SameKey, some c_rivuletref_SameKey.plain, 17) := by kernel_rfl
theorem ac_rivuletref_SameKey {args : List AV} {r : AV} (h : aw Try.prog c_rivuletref_SameKey (env0 args) (endQ v_rivuletref_SameKey r)) (hargs : args.length ≤ 17 := by decide) (hok : resOK r = true := by rfl) : AC Try.prog f_rivuletref_SameKey args r :=
  AC_mk (by kernel_rfl) Try.func29 k_rivuletref_SameKey hargs hok (by decide) h
theorem am_rivuletref_SameKey {args : List AV} {c0 c1 : List (Nat × List AV)} {r : AV} (h : aw Try.prog c_rivuletref_SameKey (env0M args c0) (endM v_rivuletref_SameKey r (c0.map (·.1)) c1)) (hc0 : ∀ q ∈ c0, 100000 ≤ q.1) (hargs : args.length ≤ 17 := by decide) (hok : resOK r = true := by rfl) : AM Try.prog f_rivuletref_SameKey args c0 r c1 :=
  AM_mk (by kernel_rfl) Try.func29 k_rivuletref_SameKey hargs hok (by decide) hc0 h

/-- slices.Clone[[]rivulet/api.Addr,rivulet/api.Addr] (function 30) -/
def c_slices_Clone_api_Addr_api_Addr : ACode :=
  (.seq
    (.region false [
        ⟨some 2, .mov (.const (.slice none 0 0)), none⟩] [2])
    (.seq
      (.seq
        (.region false [
            ⟨some 3, .mov (.tmp 0), none⟩,
            ⟨some 4, .eqs false (.tmp 3), none⟩] [3])
        (.cond (.tmp 4)
          (.seq
            (.region false [
                ⟨some 2, .mov (.const (.slice none 0 0)), none⟩] [0, 4])
            .ret)
          .skip))
      (.seq
        (.shift
        (.region false [
            ⟨some 5, .bsl0 1, none⟩,
            ⟨some 6, .mov (.tmp 0), none⟩,
            ⟨some 7, .app 1 4 [] (.tmp 5) (.tmp 6), none⟩,
            ⟨some 2, .mov (.tmp 7), none⟩] [0, 4, 5, 6, 7]))
        .ret)))
abbrev v_slices_Clone_api_Addr_api_Addr : List RV := [.tmp 2]
abbrev f_slices_Clone_api_Addr_api_Addr : FuncId := 30
theorem k_slices_Clone_api_Addr_api_Addr : closedOf Try.prog Try.f30 = (false, some true, some v_slices_Clone_api_Addr_api_Addr, some c_slices_Clone_api_Addr_api_Addr.plain, 8) := by kernel_rfl
theorem ac_slices_Clone_api_Addr_api_Addr {args : List AV} {r : AV} (h : aw Try.prog c_slices_Clone_api_Addr_api_Addr (env0 args) (endQ v_slices_Clone_api_Addr_api_Addr r)) (hargs : args.length ≤ 8 := by decide) (hok : resOK r = true := by rfl) : AC Try.prog f_slices_Clone_api_Addr_api_Addr args r :=
  AC_mk (by kernel_rfl) Try.func30 k_slices_Clone_api_Addr_api_Addr hargs hok (by decide) h
theorem am_slices_Clone_api_Addr_api_Addr {args : List AV} {c0 c1 : List (Nat × List AV)} {r : AV} (h : aw Try.prog c_slices_Clone_api_Addr_api_Addr (env0M args c0) (endM v_slices_Clone_api_Addr_api_Addr r (c0.map (·.1)) c1)) (hc0 : ∀ q ∈ c0, 100000 ≤ q.1) (hargs : args.length ≤ 8 := by decide) (hok : resOK r = true := by rfl) : AM Try.prog f_slices_Clone_api_Addr_api_Addr args c0 r c1 :=
  AM_mk (by kernel_rfl) Try.func30 k_slices_Clone_api_Addr_api_Addr hargs hok (by decide) hc0 h

/-- slices.Sort[[]rivulet/api.Addr,rivulet/api.Addr] (function 31) -/
def c_slices_Sort_api_Addr_api_Addr : ACode :=
  (.seq
    (.region false [
        ⟨some 3, .mov (.tmp 0), none⟩,
        ⟨some 4, .lenl (.tmp 3), none⟩,
        ⟨some 2, .mov (.tmp 4), none⟩] [3, 4])
    (.region false [
        ⟨some 5, .mov (.tmp 0), none⟩,
        ⟨some 6, .mov (.tmp 2), none⟩,
        ⟨some 7, .mov (.tmp 2), none⟩,
        ⟨some 8, .cint .u64 (.tmp 7), none⟩,
        ⟨some 9, .callm 37 [.tmp 8], none⟩,
        ⟨some 10, .callm 36 [.tmp 5, .const (.int .i64 0), .tmp 6, .tmp 9], none⟩] [0, 2, 5, 6, 7, 8, 9, 10]))
abbrev v_slices_Sort_api_Addr_api_Addr : List RV := []
abbrev f_slices_Sort_api_Addr_api_Addr : FuncId := 31
theorem k_slices_Sort_api_Addr_api_Addr : closedOf Try.prog Try.f31 = (false, some true, some v_slices_Sort_api_Addr_api_Addr, some c_slices_Sort_api_Addr_api_Addr.plain, 11) := by kernel_rfl
theorem ac_slices_Sort_api_Addr_api_Addr {args : List AV} {r : AV} (h : aw Try.prog c_slices_Sort_api_Addr_api_Addr (env0 args) (endQ v_slices_Sort_api_Addr_api_Addr r)) (hargs : args.length ≤ 11 := by decide) (hok : resOK r = true := by rfl) : AC Try.prog f_slices_Sort_api_Addr_api_Addr args r :=
  AC_mk (by kernel_rfl) Try.func31 k_slices_Sort_api_Addr_api_Addr hargs hok (by decide) h
theorem am_slices_Sort_api_Addr_api_Addr {args : List AV} {c0 c1 : List (Nat × List AV)} {r : AV} (h : aw Try.prog c_slices_Sort_api_Addr_api_Addr (env0M args c0) (endM v_slices_Sort_api_Addr_api_Addr r (c0.map (·.1)) c1)) (hc0 : ∀ q ∈ c0, 100000 ≤ q.1) (hargs : args.length ≤ 11 := by decide) (hok : resOK r = true := by rfl) : AM Try.prog f_slices_Sort_api_Addr_api_Addr args c0 r c1 :=
  AM_mk (by kernel_rfl) Try.func31 k_slices_Sort_api_Addr_api_Addr hargs hok (by decide) hc0 h

/-- slices.Compact[[]rivulet/api.Addr,rivulet/api.Addr] (function 32) -/
def c_slices_Compact_api_Addr_api_Addr : ACode :=
  (.seq
    (.region false [
        ⟨some 2, .mov (.const (.slice none 0 0)), none⟩] [2])
    (.seq
      (.seq
        (.region false [
            ⟨some 6, .mov (.tmp 0), none⟩,
            ⟨some 7, .lenl (.tmp 6), none⟩,
            ⟨some 8, .bin .lss 3 (.tmp 7) (.const (.int .i64 2)), none⟩] [6, 7])
        (.cond (.tmp 8)
          (.seq
            (.shift
            (.region false [
                ⟨some 9, .mov (.tmp 0), none⟩,
                ⟨some 2, .mov (.tmp 9), none⟩] [0, 8, 9]))
            .ret)
          .skip))
      (.seq
        (.seq
          (.region false [
              ⟨some 3, .mov (.const (.int .i64 1)), none⟩] [8])
          (.block 0
            (.loop
              (.seq
                (.seq
                  (.region false [
                      ⟨some 10, .mov (.tmp 3), none⟩,
                      ⟨some 11, .mov (.tmp 0), none⟩,
                      ⟨some 12, .lenl (.tmp 11), none⟩,
                      ⟨some 13, .bin .lss 3 (.tmp 10) (.tmp 12), none⟩] [10, 11, 12])
                  (.cond (.tmp 13)
                    .skip
                    (.exit 0)))
                (.seq
                  (.block 1
                    (.seq
                      (.region true [
                          ⟨some 16, .mov (.tmp 0), none⟩,
                          ⟨some 17, .mov (.tmp 3), none⟩,
                          ⟨some 18, .iaddr 1 (.tmp 16) (.tmp 17), none⟩,
                          ⟨some 19, .load false 1 (.tmp 18), none⟩,
                          ⟨some 20, .mov (.tmp 0), none⟩,
                          ⟨some 21, .mov (.tmp 3), none⟩,
                          ⟨some 22, .bin .sub 3 (.tmp 21) (.const (.int .i64 1)), none⟩,
                          ⟨some 23, .iaddr 1 (.tmp 20) (.tmp 22), none⟩,
                          ⟨some 24, .load false 1 (.tmp 23), none⟩,
                          ⟨some 25, .bin .eql 23 (.tmp 19) (.tmp 24), none⟩] [13, 16, 17, 18, 19, 20, 21, 22, 23, 24])
                      (.cond (.tmp 25)
                        (.seq
                          (.region false [
                              ⟨some 26, .mov (.tmp 0), none⟩,
                              ⟨some 27, .mov (.tmp 3), none⟩,
                              ⟨some 28, .slc 1 (.tmp 26) (some (.tmp 27)) none, none⟩,
                              ⟨some 4, .mov (.tmp 28), none⟩] [25, 26, 27, 28])
                          (.seq
                            (.seq
                              (.region false [
                                  ⟨some 5, .mov (.const (.int .i64 1)), none⟩] [])
                              (.block 2
                                (.loop
                                  (.seq
                                    (.seq
                                      (.region false [
                                          ⟨some 29, .mov (.tmp 5), none⟩,
                                          ⟨some 30, .mov (.tmp 4), none⟩,
                                          ⟨some 31, .lenl (.tmp 30), none⟩,
                                          ⟨some 32, .bin .lss 3 (.tmp 29) (.tmp 31), none⟩] [29, 30, 31])
                                      (.cond (.tmp 32)
                                        .skip
                                        (.exit 2)))
                                    (.seq
                                      (.block 3
                                        (.seq
                                          (.region true [
                                              ⟨some 35, .mov (.tmp 4), none⟩,
                                              ⟨some 36, .mov (.tmp 5), none⟩,
                                              ⟨some 37, .iaddr 1 (.tmp 35) (.tmp 36), none⟩,
                                              ⟨some 38, .load false 1 (.tmp 37), none⟩,
                                              ⟨some 39, .mov (.tmp 4), none⟩,
                                              ⟨some 40, .mov (.tmp 5), none⟩,
                                              ⟨some 41, .bin .sub 3 (.tmp 40) (.const (.int .i64 1)), none⟩,
                                              ⟨some 42, .iaddr 1 (.tmp 39) (.tmp 41), none⟩,
                                              ⟨some 43, .load false 1 (.tmp 42), none⟩,
                                              ⟨some 44, .bin .neq 23 (.tmp 38) (.tmp 43), none⟩] [32, 35, 36, 37, 38, 39, 40, 41, 42, 43])
                                          (.cond (.tmp 44)
                                            (.seq
                                              (.region false [
                                                  ⟨some 45, .mov (.tmp 0), none⟩,
                                                  ⟨some 46, .mov (.tmp 3), none⟩,
                                                  ⟨some 47, .mov (.tmp 4), none⟩,
                                                  ⟨some 48, .mov (.tmp 5), none⟩,
                                                  ⟨some 49, .iaddr 1 (.tmp 47) (.tmp 48), none⟩,
                                                  ⟨some 50, .load false 1 (.tmp 49), none⟩,
                                                  ⟨some 51, .iaddr 1 (.tmp 45) (.tmp 46), none⟩,
                                                  ⟨none, .store 1 (.tmp 51) (.tmp 50), none⟩] [44, 45, 46, 47, 48, 49, 50, 51])
                                              (.region false [
                                                  ⟨some 52, .mov (.tmp 3), none⟩,
                                                  ⟨some 53, .bin .add 3 (.tmp 52) (.const (.int .i64 1)), none⟩,
                                                  ⟨some 3, .mov (.tmp 53), none⟩] [52, 53]))
                                            .skip)) [44])
                                      (.region false [
                                          ⟨some 33, .mov (.tmp 5), none⟩,
                                          ⟨some 34, .bin .add 3 (.tmp 33) (.const (.int .i64 1)), none⟩,
                                          ⟨some 5, .mov (.tmp 34), none⟩] [33, 34]))) [] []) [4, 5, 32]))
                            (.seq
                              (.region false [
                                  ⟨some 54, .mov (.tmp 0), none⟩,
                                  ⟨some 55, .mov (.tmp 3), none⟩,
                                  ⟨some 56, .slc 1 (.tmp 54) (some (.tmp 55)) none, none⟩,
                                  ⟨none, .clr [.lit (.int .u32 0)] (.tmp 56), none⟩] [54, 55, 56])
                              (.seq
                                (.region false [
                                    ⟨some 57, .mov (.tmp 0), none⟩,
                                    ⟨some 58, .mov (.tmp 3), none⟩,
                                    ⟨some 59, .slc 1 (.tmp 57) none (some (.tmp 58)), none⟩,
                                    ⟨some 2, .mov (.tmp 59), none⟩] [0, 3, 57, 58, 59])
                                .ret))))
                        .skip)) [25])
                  (.region false [
                      ⟨some 14, .mov (.tmp 3), none⟩,
                      ⟨some 15, .bin .add 3 (.tmp 14) (.const (.int .i64 1)), none⟩,
                      ⟨some 3, .mov (.tmp 15), none⟩] [14, 15]))) [] []) [3, 13]))
        (.seq
          (.region false [
              ⟨some 60, .mov (.tmp 0), none⟩,
              ⟨some 2, .mov (.tmp 60), none⟩] [0, 60])
          .ret))))
abbrev v_slices_Compact_api_Addr_api_Addr : List RV := [.tmp 2]
abbrev f_slices_Compact_api_Addr_api_Addr : FuncId := 32
theorem k_slices_Compact_api_Addr_api_Addr : closedOf Try.prog Try.f32 = (false, some true, some v_slices_Compact_api_Addr_api_Addr, some c_slices_Compact_api_Addr_api_Addr.plain, 61) := by kernel_rfl
theorem ac_slices_Compact_api_Addr_api_Addr {args : List AV} {r : AV} (h : aw Try.prog c_slices_Compact_api_Addr_api_Addr (env0 args) (endQ v_slices_Compact_api_Addr_api_Addr r)) (hargs : args.length ≤ 61 := by decide) (hok : resOK r = true := by rfl) : AC Try.prog f_slices_Compact_api_Addr_api_Addr args r :=
  AC_mk (by kernel_rfl) Try.func32 k_slices_Compact_api_Addr_api_Addr hargs hok (by decide) h
theorem am_slices_Compact_api_Addr_api_Addr {args : List AV} {c0 c1 : List (Nat × List AV)} {r : AV} (h : aw Try.prog c_slices_Compact_api_Addr_api_Addr (env0M args c0) (endM v_slices_Compact_api_Addr_api_Addr r (c0.map (·.1)) c1)) (hc0 : ∀ q ∈ c0, 100000 ≤ q.1) (hargs : args.length ≤ 61 := by decide) (hok : resOK r = true := by rfl) : AM Try.prog f_slices_Compact_api_Addr_api_Addr args c0 r c1 :=
  AM_mk (by kernel_rfl) Try.func32 k_slices_Compact_api_Addr_api_Addr hargs hok (by decide) hc0 h

/-- slices.IndexFunc[[]rivulet/api.Member,rivulet/api.Member] (function 33) -/
def c_slices_IndexFunc_api_Member_api_Member : ACode :=
  (.seq
    (.region false [
        ⟨some 4, .mov (.const (.int .i64 0)), none⟩] [4])
    (.seq
      (.seq
        (.region false [
            ⟨some 6, .mov (.tmp 0), none⟩,
            ⟨some 7, .lenl (.tmp 6), none⟩,
            ⟨some 8, .mov (.const (.int .i64 0)), none⟩] [6])
        (.block 0
          (.loop
            (.seq
              (.region false [
                  ⟨some 9, .bin .lss 3 (.tmp 8) (.tmp 7), none⟩] [])
              (.seq
                (.cond (.tmp 9)
                  .skip
                  (.exit 0))
                (.seq
                  (.block 1
                    (.seq
                      (.region false [
                          ⟨some 10, .mov (.tmp 8), none⟩,
                          ⟨some 5, .mov (.tmp 10), none⟩] [9, 10])
                      (.seq
                        (.region false [
                            ⟨some 11, .mov (.tmp 1), none⟩,
                            ⟨some 12, .mov (.tmp 0), none⟩,
                            ⟨some 13, .mov (.tmp 5), none⟩,
                            ⟨some 14, .iaddr 4 (.tmp 12) (.tmp 13), none⟩,
                            ⟨some 15, .load true 4 (.tmp 14), none⟩,
                            ⟨some 16, .callvm (.tmp 11) [.tmp 15], none⟩] [11, 12, 13, 14, 15])
                        (.cond (.tmp 16)
                          (.seq
                            (.region false [
                                ⟨some 17, .mov (.tmp 5), none⟩,
                                ⟨some 4, .mov (.tmp 17), none⟩] [0, 1, 5, 7, 8, 16, 17])
                            .ret)
                          .skip))) [5, 16])
                  (.region false [
                      ⟨some 18, .bin .add 3 (.tmp 8) (.const (.int .i64 1)), none⟩,
                      ⟨some 8, .mov (.tmp 18), none⟩] [18])))) [] []) [0, 1, 7, 8, 9]))
      (.seq
        (.region false [
            ⟨some 4, .mov (.const (.int .i64 (-1))), none⟩] [])
        .ret)))
abbrev v_slices_IndexFunc_api_Member_api_Member : List RV := [.tmp 4]
abbrev f_slices_IndexFunc_api_Member_api_Member : FuncId := 33
theorem k_slices_IndexFunc_api_Member_api_Member : closedOf Try.prog Try.f33 = (false, some true, some v_slices_IndexFunc_api_Member_api_Member, some c_slices_IndexFunc_api_Member_api_Member.plain, 19) := by kernel_rfl
theorem ac_slices_IndexFunc_api_Member_api_Member {args : List AV} {r : AV} (h : aw Try.prog c_slices_IndexFunc_api_Member_api_Member (env0 args) (endQ v_slices_IndexFunc_api_Member_api_Member r)) (hargs : args.length ≤ 19 := by decide) (hok : resOK r = true := by rfl) : AC Try.prog f_slices_IndexFunc_api_Member_api_Member args r :=
  AC_mk (by kernel_rfl) Try.func33 k_slices_IndexFunc_api_Member_api_Member hargs hok (by decide) h
theorem am_slices_IndexFunc_api_Member_api_Member {args : List AV} {c0 c1 : List (Nat × List AV)} {r : AV} (h : aw Try.prog c_slices_IndexFunc_api_Member_api_Member (env0M args c0) (endM v_slices_IndexFunc_api_Member_api_Member r (c0.map (·.1)) c1)) (hc0 : ∀ q ∈ c0, 100000 ≤ q.1) (hargs : args.length ≤ 19 := by decide) (hok : resOK r = true := by rfl) : AM Try.prog f_slices_IndexFunc_api_Member_api_Member args c0 r c1 :=
  AM_mk (by kernel_rfl) Try.func33 k_slices_IndexFunc_api_Member_api_Member hargs hok (by decide) hc0 h

/-- slices.Index[[]rivulet/api.Addr,rivulet/api.Addr] (function 34) -/
def c_slices_Index_api_Addr_api_Addr : ACode :=
  (.seq
    (.region false [
        ⟨some 4, .mov (.const (.int .i64 0)), none⟩] [4])
    (.seq
      (.seq
        (.region false [
            ⟨some 6, .mov (.tmp 0), none⟩,
            ⟨some 7, .lenl (.tmp 6), none⟩,
            ⟨some 8, .mov (.const (.int .i64 0)), none⟩] [6])
        (.block 0
          (.loop
            (.seq
              (.region false [
                  ⟨some 9, .bin .lss 3 (.tmp 8) (.tmp 7), none⟩] [])
              (.seq
                (.cond (.tmp 9)
                  .skip
                  (.exit 0))
                (.seq
                  (.block 1
                    (.seq
                      (.region false [
                          ⟨some 10, .mov (.tmp 8), none⟩,
                          ⟨some 5, .mov (.tmp 10), none⟩] [9, 10])
                      (.seq
                        (.region false [
                            ⟨some 11, .mov (.tmp 1), none⟩,
                            ⟨some 12, .mov (.tmp 0), none⟩,
                            ⟨some 13, .mov (.tmp 5), none⟩,
                            ⟨some 14, .iaddr 1 (.tmp 12) (.tmp 13), none⟩,
                            ⟨some 15, .load false 1 (.tmp 14), none⟩,
                            ⟨some 16, .bin .eql 23 (.tmp 11) (.tmp 15), none⟩] [11, 12, 13, 14, 15])
                        (.cond (.tmp 16)
                          (.seq
                            (.region false [
                                ⟨some 17, .mov (.tmp 5), none⟩,
                                ⟨some 4, .mov (.tmp 17), none⟩] [0, 1, 5, 7, 8, 16, 17])
                            .ret)
                          .skip))) [5, 16])
                  (.region false [
                      ⟨some 18, .bin .add 3 (.tmp 8) (.const (.int .i64 1)), none⟩,
                      ⟨some 8, .mov (.tmp 18), none⟩] [18])))) [] []) [0, 1, 7, 8, 9]))
      (.seq
        (.region false [
            ⟨some 4, .mov (.const (.int .i64 (-1))), none⟩] [])
        .ret)))
abbrev v_slices_Index_api_Addr_api_Addr : List RV := [.tmp 4]
abbrev f_slices_Index_api_Addr_api_Addr : FuncId := 34
theorem k_slices_Index_api_Addr_api_Addr : closedOf Try.prog Try.f34 = (false, some true, some v_slices_Index_api_Addr_api_Addr, some c_slices_Index_api_Addr_api_Addr.plain, 19) := by kernel_rfl
theorem ac_slices_Index_api_Addr_api_Addr {args : List AV} {r : AV} (h : aw Try.prog c_slices_Index_api_Addr_api_Addr (env0 args) (endQ v_slices_Index_api_Addr_api_Addr r)) (hargs : args.length ≤ 19 := by decide) (hok : resOK r = true := by rfl) : AC Try.prog f_slices_Index_api_Addr_api_Addr args r :=
  AC_mk (by kernel_rfl) Try.func34 k_slices_Index_api_Addr_api_Addr hargs hok (by decide) h
theorem am_slices_Index_api_Addr_api_Addr {args : List AV} {c0 c1 : List (Nat × List AV)} {r : AV} (h : aw Try.prog c_slices_Index_api_Addr_api_Addr (env0M args c0) (endM v_slices_Index_api_Addr_api_Addr r (c0.map (·.1)) c1)) (hc0 : ∀ q ∈ c0, 100000 ≤ q.1) (hargs : args.length ≤ 19 := by decide) (hok : resOK r = true := by rfl) : AM Try.prog f_slices_Index_api_Addr_api_Addr args c0 r c1 :=
  AM_mk (by kernel_rfl) Try.func34 k_slices_Index_api_Addr_api_Addr hargs hok (by decide) hc0 h

/-- rivulet/rivuletref.Addrs (function 35) -/
def c_rivuletref_Addrs : ACode :=
  (.seq
    (.region false [
        ⟨some 2, .mov (.const (.slice none 0 0)), none⟩] [2])
    (.seq
      (.region false [
          ⟨some 5, .mov (.tmp 0), none⟩,
          ⟨some 6, .lenl (.tmp 5), none⟩,
          ⟨some 7, .mko 1 4 (.tmp 6), none⟩,
          ⟨some 3, .mov (.tmp 7), none⟩] [5, 6, 7])
      (.seq
        (.seq
          (.region false [
              ⟨some 4, .mov (.const (.int .i64 0)), none⟩] [])
          (.block 0
            (.loop
              (.seq
                (.seq
                  (.region false [
                      ⟨some 8, .mov (.tmp 4), none⟩,
                      ⟨some 9, .mov (.tmp 0), none⟩,
                      ⟨some 10, .lenl (.tmp 9), none⟩,
                      ⟨some 11, .bin .lss 3 (.tmp 8) (.tmp 10), none⟩] [8, 9, 10])
                  (.cond (.tmp 11)
                    .skip
                    (.exit 0)))
                (.seq
                  (.block 1
                    (.region false [
                        ⟨some 14, .mov (.tmp 3), none⟩,
                        ⟨some 15, .mov (.tmp 0), none⟩,
                        ⟨some 16, .mov (.tmp 4), none⟩,
                        ⟨some 17, .iaddr 1 (.tmp 15) (.tmp 16), none⟩,
                        ⟨some 18, .load false 1 (.tmp 17), none⟩,
                        ⟨some 19, .bslice 1 1 [.tmp 18], none⟩,
                        ⟨some 20, .app 1 4 [] (.tmp 14) (.tmp 19), none⟩,
                        ⟨some 3, .mov (.tmp 20), none⟩] [11, 14, 15, 16, 17, 18, 19, 20]) [])
                  (.region false [
                      ⟨some 12, .mov (.tmp 4), none⟩,
                      ⟨some 13, .bin .add 3 (.tmp 12) (.const (.int .i64 1)), none⟩,
                      ⟨some 4, .mov (.tmp 13), none⟩] [12, 13]))) [] []) [0, 4, 11]))
        (.seq
          (.region false [
              ⟨some 21, .mov (.tmp 3), none⟩,
              ⟨some 2, .mov (.tmp 21), none⟩] [3, 21])
          .ret))))
abbrev v_rivuletref_Addrs : List RV := [.tmp 2]
abbrev f_rivuletref_Addrs : FuncId := 35
theorem k_rivuletref_Addrs : closedOf Try.prog Try.f35 = (false, some true, some v_rivuletref_Addrs, some c_rivuletref_Addrs.plain, 22) := by kernel_rfl
theorem ac_rivuletref_Addrs {args : List AV} {r : AV} (h : aw Try.prog c_rivuletref_Addrs (env0 args) (endQ v_rivuletref_Addrs r)) (hargs : args.length ≤ 22 := by decide) (hok : resOK r = true := by rfl) : AC Try.prog f_rivuletref_Addrs args r :=
  AC_mk (by kernel_rfl) Try.func35 k_rivuletref_Addrs hargs hok (by decide) h
theorem am_rivuletref_Addrs {args : List AV} {c0 c1 : List (Nat × List AV)} {r : AV} (h : aw Try.prog c_rivuletref_Addrs (env0M args c0) (endM v_rivuletref_Addrs r (c0.map (·.1)) c1)) (hc0 : ∀ q ∈ c0, 100000 ≤ q.1) (hargs : args.length ≤ 22 := by decide) (hok : resOK r = true := by rfl) : AM Try.prog f_rivuletref_Addrs args c0 r c1 :=
  AM_mk (by kernel_rfl) Try.func35 k_rivuletref_Addrs hargs hok (by decide) hc0 h

/-- slices.pdqsortOrdered[rivulet/api.Addr] (function 36) -/
def c_slices_pdqsortOrdered_api_Addr : ACode :=
  (.seq
    (.region false [
        ⟨some 8, .mov (.const (.bool true)), none⟩] [])
    (.seq
      (.region false [
          ⟨some 9, .mov (.const (.bool true)), none⟩] [])
      (.block 0
        (.loop
          (.block 1
            (.seq
              (.region false [
                  ⟨some 19, .mov (.tmp 2), none⟩,
                  ⟨some 20, .mov (.tmp 1), none⟩,
                  ⟨some 21, .bin .sub 3 (.tmp 19) (.tmp 20), none⟩,
                  ⟨some 10, .mov (.tmp 21), none⟩] [19, 20, 21])
              (.seq
                (.seq
                  (.region false [
                      ⟨some 22, .mov (.tmp 10), none⟩,
                      ⟨some 23, .bin .leq 3 (.tmp 22) (.const (.int .i64 12)), none⟩] [22])
                  (.cond (.tmp 23)
                    (.seq
                      (.region false [
                          ⟨some 24, .mov (.tmp 0), none⟩,
                          ⟨some 25, .mov (.tmp 1), none⟩,
                          ⟨some 26, .mov (.tmp 2), none⟩,
                          ⟨some 27, .callm 38 [.tmp 24, .tmp 25, .tmp 26], none⟩] [0, 1, 2, 3, 8, 9, 10, 23, 24, 25, 26, 27])
                      .ret)
                    .skip))
                (.seq
                  (.seq
                    (.region false [
                        ⟨some 28, .mov (.tmp 3), none⟩,
                        ⟨some 29, .bin .eql 3 (.tmp 28) (.const (.int .i64 0)), none⟩] [23, 28])
                    (.cond (.tmp 29)
                      (.seq
                        (.region false [
                            ⟨some 30, .mov (.tmp 0), none⟩,
                            ⟨some 31, .mov (.tmp 1), none⟩,
                            ⟨some 32, .mov (.tmp 2), none⟩,
                            ⟨some 33, .callm 39 [.tmp 30, .tmp 31, .tmp 32], none⟩] [0, 1, 2, 3, 8, 9, 10, 29, 30, 31, 32, 33])
                        .ret)
                      .skip))
                  (.seq
                    (.seq
                      (.region false [
                          ⟨some 34, .mov (.tmp 8), none⟩,
                          ⟨some 35, .un .not (.tmp 34), none⟩] [29, 34])
                      (.cond (.tmp 35)
                        (.seq
                          (.region false [
                              ⟨some 36, .mov (.tmp 0), none⟩,
                              ⟨some 37, .mov (.tmp 1), none⟩,
                              ⟨some 38, .mov (.tmp 2), none⟩,
                              ⟨some 39, .callm 40 [.tmp 36, .tmp 37, .tmp 38], none⟩] [35, 36, 37, 38, 39])
                          (.region false [
                              ⟨some 40, .mov (.tmp 3), none⟩,
                              ⟨some 41, .bin .sub 3 (.tmp 40) (.const (.int .i64 1)), none⟩,
                              ⟨some 3, .mov (.tmp 41), none⟩] [40, 41]))
                        .skip))
                    (.seq
                      (.region false [
                          ⟨some 43, .mov (.tmp 0), none⟩,
                          ⟨some 44, .mov (.tmp 1), none⟩,
                          ⟨some 45, .mov (.tmp 2), none⟩,
                          ⟨some 46, .callm 41 [.tmp 43, .tmp 44, .tmp 45], none⟩,
                          ⟨some 42, .mov (.tmp 46), none⟩,
                          ⟨some 47, .ext (.tmp 42) 0, none⟩,
                          ⟨some 48, .ext (.tmp 42) 1, none⟩,
                          ⟨some 11, .mov (.tmp 47), none⟩,
                          ⟨some 12, .mov (.tmp 48), none⟩] [35, 42, 43, 44, 45, 46, 47, 48])
                      (.seq
                        (.seq
                          (.region false [
                              ⟨some 49, .mov (.tmp 12), none⟩,
                              ⟨some 50, .bin .eql 65 (.tmp 49) (.const (.int .i64 2)), none⟩] [49])
                          (.cond (.tmp 50)
                            (.seq
                              (.region false [
                                  ⟨some 51, .mov (.tmp 0), none⟩,
                                  ⟨some 52, .mov (.tmp 1), none⟩,
                                  ⟨some 53, .mov (.tmp 2), none⟩,
                                  ⟨some 54, .callm 42 [.tmp 51, .tmp 52, .tmp 53], none⟩] [12, 50, 51, 52, 53, 54])
                              (.seq
                                (.region false [
                                    ⟨some 55, .mov (.tmp 2), none⟩,
                                    ⟨some 56, .bin .sub 3 (.tmp 55) (.const (.int .i64 1)), none⟩,
                                    ⟨some 57, .mov (.tmp 11), none⟩,
                                    ⟨some 58, .mov (.tmp 1), none⟩,
                                    ⟨some 59, .bin .sub 3 (.tmp 57) (.tmp 58), none⟩,
                                    ⟨some 60, .bin .sub 3 (.tmp 56) (.tmp 59), none⟩,
                                    ⟨some 11, .mov (.tmp 60), none⟩] [55, 56, 57, 58, 59, 60])
                                (.region false [
                                    ⟨some 12, .mov (.const (.int .i64 1)), none⟩] [])))
                            .skip))
                        (.seq
                          (.seq
                            (.region false [
                                ⟨some 61, .mov (.tmp 8), none⟩,
                                ⟨some 62, .mov (.tmp 61), none⟩,
                                ⟨some 63, .mov (.tmp 9), (some (62, true))⟩,
                                ⟨some 64, .pick (.tmp 62) (.tmp 63) (.const (.bool false)), none⟩,
                                ⟨some 65, .mov (.tmp 64), none⟩,
                                ⟨some 66, .mov (.tmp 12), (some (65, true))⟩,
                                ⟨some 67, .bin .eql 65 (.tmp 66) (.const (.int .i64 1)), (some (65, true))⟩,
                                ⟨some 68, .pick (.tmp 65) (.tmp 67) (.const (.bool false)), none⟩] [12, 50, 61, 62, 63, 64, 65, 66, 67])
                            (.cond (.tmp 68)
                              (.seq
                                (.region false [
                                    ⟨some 69, .mov (.tmp 0), none⟩,
                                    ⟨some 70, .mov (.tmp 1), none⟩,
                                    ⟨some 71, .mov (.tmp 2), none⟩,
                                    ⟨some 72, .callm 43 [.tmp 69, .tmp 70, .tmp 71], none⟩] [68, 69, 70, 71])
                                (.cond (.tmp 72)
                                  .ret
                                  .skip))
                              .skip))
                          (.seq
                            (.seq
                              (.region true [
                                  ⟨some 73, .mov (.tmp 1), none⟩,
                                  ⟨some 74, .bin .gtr 3 (.tmp 73) (.const (.int .i64 0)), none⟩,
                                  ⟨some 75, .mov (.tmp 74), none⟩,
                                  ⟨some 76, .mov (.tmp 0), (some (75, true))⟩,
                                  ⟨some 77, .mov (.tmp 1), (some (75, true))⟩,
                                  ⟨some 78, .bin .sub 3 (.tmp 77) (.const (.int .i64 1)), (some (75, true))⟩,
                                  ⟨some 79, .iaddr 1 (.tmp 76) (.tmp 78), (some (75, true))⟩,
                                  ⟨some 80, .load false 1 (.tmp 79), (some (75, true))⟩,
                                  ⟨some 81, .mov (.tmp 0), (some (75, true))⟩,
                                  ⟨some 82, .mov (.tmp 11), (some (75, true))⟩,
                                  ⟨some 83, .iaddr 1 (.tmp 81) (.tmp 82), (some (75, true))⟩,
                                  ⟨some 84, .load false 1 (.tmp 83), (some (75, true))⟩,
                                  ⟨some 85, .call 44 [.tmp 80, .tmp 84], (some (75, true))⟩,
                                  ⟨some 86, .un .not (.tmp 85), (some (75, true))⟩,
                                  ⟨some 87, .pick (.tmp 75) (.tmp 86) (.const (.bool false)), none⟩] [68, 72, 73, 74, 75, 76, 77, 78, 79, 80, 81, 82, 83, 84, 85, 86])
                              (.cond (.tmp 87)
                                (.seq
                                  (.region false [
                                      ⟨some 88, .mov (.tmp 0), none⟩,
                                      ⟨some 89, .mov (.tmp 1), none⟩,
                                      ⟨some 90, .mov (.tmp 2), none⟩,
                                      ⟨some 91, .mov (.tmp 11), none⟩,
                                      ⟨some 92, .callm 45 [.tmp 88, .tmp 89, .tmp 90, .tmp 91], none⟩,
                                      ⟨some 13, .mov (.tmp 92), none⟩] [1, 10, 11, 87, 88, 89, 90, 91, 92])
                                  (.seq
                                    (.region false [
                                        ⟨some 93, .mov (.tmp 13), none⟩,
                                        ⟨some 1, .mov (.tmp 93), none⟩] [13, 93])
                                    (.exit 1)))
                                .skip))
                            (.seq
                              (.region false [
                                  ⟨some 95, .mov (.tmp 0), none⟩,
                                  ⟨some 96, .mov (.tmp 1), none⟩,
                                  ⟨some 97, .mov (.tmp 2), none⟩,
                                  ⟨some 98, .mov (.tmp 11), none⟩,
                                  ⟨some 99, .callm 46 [.tmp 95, .tmp 96, .tmp 97, .tmp 98], none⟩,
                                  ⟨some 94, .mov (.tmp 99), none⟩,
                                  ⟨some 100, .ext (.tmp 94) 0, none⟩,
                                  ⟨some 101, .ext (.tmp 94) 1, none⟩,
                                  ⟨some 14, .mov (.tmp 100), none⟩,
                                  ⟨some 15, .mov (.tmp 101), none⟩] [8, 9, 11, 87, 94, 95, 96, 97, 98, 99, 100, 101])
                              (.seq
                                (.region false [
                                    ⟨some 102, .mov (.tmp 15), none⟩,
                                    ⟨some 9, .mov (.tmp 102), none⟩] [15, 102])
                                (.seq
                                  (.region false [
                                      ⟨some 103, .mov (.tmp 14), none⟩,
                                      ⟨some 104, .mov (.tmp 1), none⟩,
                                      ⟨some 105, .bin .sub 3 (.tmp 103) (.tmp 104), none⟩,
                                      ⟨some 106, .mov (.tmp 2), none⟩,
                                      ⟨some 107, .mov (.tmp 14), none⟩,
                                      ⟨some 108, .bin .sub 3 (.tmp 106) (.tmp 107), none⟩,
                                      ⟨some 16, .mov (.tmp 105), none⟩,
                                      ⟨some 17, .mov (.tmp 108), none⟩] [103, 104, 105, 106, 107, 108])
                                  (.seq
                                    (.region false [
                                        ⟨some 109, .mov (.tmp 10), none⟩,
                                        ⟨some 110, .bin .quo 3 (.tmp 109) (.const (.int .i64 8)), none⟩,
                                        ⟨some 18, .mov (.tmp 110), none⟩] [10, 109, 110])
                                    (.seq
                                      (.region false [
                                          ⟨some 111, .mov (.tmp 16), none⟩,
                                          ⟨some 112, .mov (.tmp 17), none⟩,
                                          ⟨some 113, .bin .lss 3 (.tmp 111) (.tmp 112), none⟩] [111, 112])
                                      (.cond (.tmp 113)
                                        (.seq
                                          (.region false [
                                              ⟨some 114, .mov (.tmp 16), none⟩,
                                              ⟨some 115, .mov (.tmp 18), none⟩,
                                              ⟨some 116, .bin .geq 3 (.tmp 114) (.tmp 115), none⟩,
                                              ⟨some 8, .mov (.tmp 116), none⟩] [16, 17, 18, 113, 114, 115, 116])
                                          (.seq
                                            (.region false [
                                                ⟨some 117, .mov (.tmp 0), none⟩,
                                                ⟨some 118, .mov (.tmp 1), none⟩,
                                                ⟨some 119, .mov (.tmp 14), none⟩,
                                                ⟨some 120, .mov (.tmp 3), none⟩,
                                                ⟨some 121, .callm 36 [.tmp 117, .tmp 118, .tmp 119, .tmp 120], none⟩] [1, 117, 118, 119, 120, 121])
                                            (.region false [
                                                ⟨some 122, .mov (.tmp 14), none⟩,
                                                ⟨some 123, .bin .add 3 (.tmp 122) (.const (.int .i64 1)), none⟩,
                                                ⟨some 1, .mov (.tmp 123), none⟩] [14, 122, 123])))
                                        (.seq
                                          (.region false [
                                              ⟨some 124, .mov (.tmp 17), none⟩,
                                              ⟨some 125, .mov (.tmp 18), none⟩,
                                              ⟨some 126, .bin .geq 3 (.tmp 124) (.tmp 125), none⟩,
                                              ⟨some 8, .mov (.tmp 126), none⟩] [16, 17, 18, 113, 124, 125, 126])
                                          (.seq
                                            (.region false [
                                                ⟨some 127, .mov (.tmp 0), none⟩,
                                                ⟨some 128, .mov (.tmp 14), none⟩,
                                                ⟨some 129, .bin .add 3 (.tmp 128) (.const (.int .i64 1)), none⟩,
                                                ⟨some 130, .mov (.tmp 2), none⟩,
                                                ⟨some 131, .mov (.tmp 3), none⟩,
                                                ⟨some 132, .callm 36 [.tmp 127, .tmp 129, .tmp 130, .tmp 131], none⟩] [2, 127, 128, 129, 130, 131, 132])
                                            (.region false [
                                                ⟨some 133, .mov (.tmp 14), none⟩,
                                                ⟨some 2, .mov (.tmp 133), none⟩] [14, 133]))))))))))))))))) []) [] []) [])))
abbrev v_slices_pdqsortOrdered_api_Addr : List RV := []
abbrev f_slices_pdqsortOrdered_api_Addr : FuncId := 36
theorem k_slices_pdqsortOrdered_api_Addr : closedOf Try.prog Try.f36 = (false, some true, some v_slices_pdqsortOrdered_api_Addr, some c_slices_pdqsortOrdered_api_Addr.plain, 134) := by kernel_rfl
theorem ac_slices_pdqsortOrdered_api_Addr {args : List AV} {r : AV} (h : aw Try.prog c_slices_pdqsortOrdered_api_Addr (env0 args) (endQ v_slices_pdqsortOrdered_api_Addr r)) (hargs : args.length ≤ 134 := by decide) (hok : resOK r = true := by rfl) : AC Try.prog f_slices_pdqsortOrdered_api_Addr args r :=
  AC_mk (by kernel_rfl) Try.func36 k_slices_pdqsortOrdered_api_Addr hargs hok (by decide) h
theorem am_slices_pdqsortOrdered_api_Addr {args : List AV} {c0 c1 : List (Nat × List AV)} {r : AV} (h : aw Try.prog c_slices_pdqsortOrdered_api_Addr (env0M args c0) (endM v_slices_pdqsortOrdered_api_Addr r (c0.map (·.1)) c1)) (hc0 : ∀ q ∈ c0, 100000 ≤ q.1) (hargs : args.length ≤ 134 := by decide) (hok : resOK r = true := by rfl) : AM Try.prog f_slices_pdqsortOrdered_api_Addr args c0 r c1 :=
  AM_mk (by kernel_rfl) Try.func36 k_slices_pdqsortOrdered_api_Addr hargs hok (by decide) hc0 h

/-- math/bits.Len (function 37) -/
def c_math_bits_Len : ACode :=
  (.seq
    (.region false [
        ⟨some 2, .mov (.const (.int .i64 0)), none⟩] [2])
    (.seq
      (.cond (.const (.bool false))
        (.seq
          (.region false [
              ⟨some 3, .mov (.tmp 0), none⟩,
              ⟨some 4, .cint .u32 (.tmp 3), none⟩,
              ⟨some 5, .callm 47 [.tmp 4], none⟩,
              ⟨some 2, .mov (.tmp 5), none⟩] [0, 3, 4, 5])
          .ret)
        .skip)
      (.seq
        (.region false [
            ⟨some 6, .mov (.tmp 0), none⟩,
            ⟨some 7, .callm 48 [.tmp 6], none⟩,
            ⟨some 2, .mov (.tmp 7), none⟩] [0, 6, 7])
        .ret)))
abbrev v_math_bits_Len : List RV := [.tmp 2]
abbrev f_math_bits_Len : FuncId := 37
theorem k_math_bits_Len : closedOf Try.prog Try.f37 = (false, some true, some v_math_bits_Len, some c_math_bits_Len.plain, 8) := by kernel_rfl
theorem ac_math_bits_Len {args : List AV} {r : AV} (h : aw Try.prog c_math_bits_Len (env0 args) (endQ v_math_bits_Len r)) (hargs : args.length ≤ 8 := by decide) (hok : resOK r = true := by rfl) : AC Try.prog f_math_bits_Len args r :=
  AC_mk (by kernel_rfl) Try.func37 k_math_bits_Len hargs hok (by decide) h
theorem am_math_bits_Len {args : List AV} {c0 c1 : List (Nat × List AV)} {r : AV} (h : aw Try.prog c_math_bits_Len (env0M args c0) (endM v_math_bits_Len r (c0.map (·.1)) c1)) (hc0 : ∀ q ∈ c0, 100000 ≤ q.1) (hargs : args.length ≤ 8 := by decide) (hok : resOK r = true := by rfl) : AM Try.prog f_math_bits_Len args c0 r c1 :=
  AM_mk (by kernel_rfl) Try.func37 k_math_bits_Len hargs hok (by decide) hc0 h

/-- slices.insertionSortOrdered[rivulet/api.Addr] (function 38) -/
def c_slices_insertionSortOrdered_api_Addr : ACode :=
  (.seq
    (.region false [
        ⟨some 8, .mov (.tmp 1), none⟩,
        ⟨some 9, .bin .add 3 (.tmp 8) (.const (.int .i64 1)), none⟩,
        ⟨some 6, .mov (.tmp 9), none⟩] [8, 9])
    (.block 0
      (.loop
        (.seq
          (.seq
            (.region false [
                ⟨some 10, .mov (.tmp 6), none⟩,
                ⟨some 11, .mov (.tmp 2), none⟩,
                ⟨some 12, .bin .lss 3 (.tmp 10) (.tmp 11), none⟩] [10, 11])
            (.cond (.tmp 12)
              .skip
              (.exit 0)))
          (.seq
            (.block 1
              (.seq
                (.region false [
                    ⟨some 15, .mov (.tmp 6), none⟩,
                    ⟨some 7, .mov (.tmp 15), none⟩] [12, 15])
                (.block 2
                  (.loop
                    (.seq
                      (.seq
                        (.region true [
                            ⟨some 16, .mov (.tmp 7), none⟩,
                            ⟨some 17, .mov (.tmp 1), none⟩,
                            ⟨some 18, .bin .gtr 3 (.tmp 16) (.tmp 17), none⟩,
                            ⟨some 19, .mov (.tmp 18), none⟩,
                            ⟨some 20, .mov (.tmp 0), (some (19, true))⟩,
                            ⟨some 21, .mov (.tmp 7), (some (19, true))⟩,
                            ⟨some 22, .iaddr 1 (.tmp 20) (.tmp 21), (some (19, true))⟩,
                            ⟨some 23, .load false 1 (.tmp 22), (some (19, true))⟩,
                            ⟨some 24, .mov (.tmp 0), (some (19, true))⟩,
                            ⟨some 25, .mov (.tmp 7), (some (19, true))⟩,
                            ⟨some 26, .bin .sub 3 (.tmp 25) (.const (.int .i64 1)), (some (19, true))⟩,
                            ⟨some 27, .iaddr 1 (.tmp 24) (.tmp 26), (some (19, true))⟩,
                            ⟨some 28, .load false 1 (.tmp 27), (some (19, true))⟩,
                            ⟨some 29, .call 44 [.tmp 23, .tmp 28], (some (19, true))⟩,
                            ⟨some 30, .pick (.tmp 19) (.tmp 29) (.const (.bool false)), none⟩] [16, 17, 18, 19, 20, 21, 22, 23, 24, 25, 26, 27, 28, 29])
                        (.cond (.tmp 30)
                          .skip
                          (.exit 2)))
                      (.seq
                        (.block 3
                          (.region true [
                              ⟨some 33, .mov (.tmp 0), none⟩,
                              ⟨some 34, .mov (.tmp 7), none⟩,
                              ⟨some 35, .mov (.tmp 0), none⟩,
                              ⟨some 36, .mov (.tmp 7), none⟩,
                              ⟨some 37, .bin .sub 3 (.tmp 36) (.const (.int .i64 1)), none⟩,
                              ⟨some 38, .mov (.tmp 0), none⟩,
                              ⟨some 39, .mov (.tmp 7), none⟩,
                              ⟨some 40, .bin .sub 3 (.tmp 39) (.const (.int .i64 1)), none⟩,
                              ⟨some 41, .iaddr 1 (.tmp 38) (.tmp 40), none⟩,
                              ⟨some 42, .load false 1 (.tmp 41), none⟩,
                              ⟨some 43, .mov (.tmp 0), none⟩,
                              ⟨some 44, .mov (.tmp 7), none⟩,
                              ⟨some 45, .iaddr 1 (.tmp 43) (.tmp 44), none⟩,
                              ⟨some 46, .load false 1 (.tmp 45), none⟩,
                              ⟨some 47, .iaddr 1 (.tmp 33) (.tmp 34), none⟩,
                              ⟨none, .store 1 (.tmp 47) (.tmp 42), none⟩,
                              ⟨some 48, .iaddr 1 (.tmp 35) (.tmp 37), none⟩,
                              ⟨none, .store 1 (.tmp 48) (.tmp 46), none⟩] [30, 33, 34, 35, 36, 37, 38, 39, 40, 41, 42, 43, 44, 45, 46, 47, 48]) [])
                        (.region false [
                            ⟨some 31, .mov (.tmp 7), none⟩,
                            ⟨some 32, .bin .sub 3 (.tmp 31) (.const (.int .i64 1)), none⟩,
                            ⟨some 7, .mov (.tmp 32), none⟩] [31, 32]))) [] []) [7, 30])) [])
            (.region false [
                ⟨some 13, .mov (.tmp 6), none⟩,
                ⟨some 14, .bin .add 3 (.tmp 13) (.const (.int .i64 1)), none⟩,
                ⟨some 6, .mov (.tmp 14), none⟩] [13, 14]))) [] []) [0, 1, 2, 6, 12]))
abbrev v_slices_insertionSortOrdered_api_Addr : List RV := []
abbrev f_slices_insertionSortOrdered_api_Addr : FuncId := 38
theorem k_slices_insertionSortOrdered_api_Addr : closedOf Try.prog Try.f38 = (false, some true, some v_slices_insertionSortOrdered_api_Addr, some c_slices_insertionSortOrdered_api_Addr.plain, 49) := by kernel_rfl
theorem ac_slices_insertionSortOrdered_api_Addr {args : List AV} {r : AV} (h : aw Try.prog c_slices_insertionSortOrdered_api_Addr (env0 args) (endQ v_slices_insertionSortOrdered_api_Addr r)) (hargs : args.length ≤ 49 := by decide) (hok : resOK r = true := by rfl) : AC Try.prog f_slices_insertionSortOrdered_api_Addr args r :=
  AC_mk (by kernel_rfl) Try.func38 k_slices_insertionSortOrdered_api_Addr hargs hok (by decide) h
theorem am_slices_insertionSortOrdered_api_Addr {args : List AV} {c0 c1 : List (Nat × List AV)} {r : AV} (h : aw Try.prog c_slices_insertionSortOrdered_api_Addr (env0M args c0) (endM v_slices_insertionSortOrdered_api_Addr r (c0.map (·.1)) c1)) (hc0 : ∀ q ∈ c0, 100000 ≤ q.1) (hargs : args.length ≤ 49 := by decide) (hok : resOK r = true := by rfl) : AM Try.prog f_slices_insertionSortOrdered_api_Addr args c0 r c1 :=
  AM_mk (by kernel_rfl) Try.func38 k_slices_insertionSortOrdered_api_Addr hargs hok (by decide) hc0 h

/-- slices.heapSortOrdered[rivulet/api.Addr] (function 39) -/
def c_slices_heapSortOrdered_api_Addr : ACode :=
  (.seq
    (.region false [
        ⟨some 11, .mov (.tmp 1), none⟩,
        ⟨some 6, .mov (.tmp 11), none⟩] [11])
    (.seq
      (.region false [
          ⟨some 7, .mov (.const (.int .i64 0)), none⟩] [])
      (.seq
        (.region false [
            ⟨some 12, .mov (.tmp 2), none⟩,
            ⟨some 13, .mov (.tmp 1), none⟩,
            ⟨some 14, .bin .sub 3 (.tmp 12) (.tmp 13), none⟩,
            ⟨some 8, .mov (.tmp 14), none⟩] [1, 2, 12, 13, 14])
        (.seq
          (.seq
            (.region false [
                ⟨some 15, .mov (.tmp 8), none⟩,
                ⟨some 16, .bin .sub 3 (.tmp 15) (.const (.int .i64 1)), none⟩,
                ⟨some 17, .bin .quo 3 (.tmp 16) (.const (.int .i64 2)), none⟩,
                ⟨some 9, .mov (.tmp 17), none⟩] [15, 16, 17])
            (.block 0
              (.loop
                (.seq
                  (.seq
                    (.region false [
                        ⟨some 18, .mov (.tmp 9), none⟩,
                        ⟨some 19, .bin .geq 3 (.tmp 18) (.const (.int .i64 0)), none⟩] [18])
                    (.cond (.tmp 19)
                      .skip
                      (.exit 0)))
                  (.seq
                    (.block 1
                      (.region false [
                          ⟨some 22, .mov (.tmp 0), none⟩,
                          ⟨some 23, .mov (.tmp 9), none⟩,
                          ⟨some 24, .mov (.tmp 8), none⟩,
                          ⟨some 25, .mov (.tmp 6), none⟩,
                          ⟨some 26, .callm 49 [.tmp 22, .tmp 23, .tmp 24, .tmp 25], none⟩] [19, 22, 23, 24, 25, 26]) [])
                    (.region false [
                        ⟨some 20, .mov (.tmp 9), none⟩,
                        ⟨some 21, .bin .sub 3 (.tmp 20) (.const (.int .i64 1)), none⟩,
                        ⟨some 9, .mov (.tmp 21), none⟩] [20, 21]))) [] []) [9, 19]))
          (.seq
            (.region false [
                ⟨some 27, .mov (.tmp 8), none⟩,
                ⟨some 28, .bin .sub 3 (.tmp 27) (.const (.int .i64 1)), none⟩,
                ⟨some 10, .mov (.tmp 28), none⟩] [8, 27, 28])
            (.block 2
              (.loop
                (.seq
                  (.seq
                    (.region false [
                        ⟨some 29, .mov (.tmp 10), none⟩,
                        ⟨some 30, .bin .geq 3 (.tmp 29) (.const (.int .i64 0)), none⟩] [29])
                    (.cond (.tmp 30)
                      .skip
                      (.exit 2)))
                  (.seq
                    (.block 3
                      (.seq
                        (.region true [
                            ⟨some 33, .mov (.tmp 0), none⟩,
                            ⟨some 34, .mov (.tmp 6), none⟩,
                            ⟨some 35, .mov (.tmp 0), none⟩,
                            ⟨some 36, .mov (.tmp 6), none⟩,
                            ⟨some 37, .mov (.tmp 10), none⟩,
                            ⟨some 38, .bin .add 3 (.tmp 36) (.tmp 37), none⟩,
                            ⟨some 39, .mov (.tmp 0), none⟩,
                            ⟨some 40, .mov (.tmp 6), none⟩,
                            ⟨some 41, .mov (.tmp 10), none⟩,
                            ⟨some 42, .bin .add 3 (.tmp 40) (.tmp 41), none⟩,
                            ⟨some 43, .iaddr 1 (.tmp 39) (.tmp 42), none⟩,
                            ⟨some 44, .load false 1 (.tmp 43), none⟩,
                            ⟨some 45, .mov (.tmp 0), none⟩,
                            ⟨some 46, .mov (.tmp 6), none⟩,
                            ⟨some 47, .iaddr 1 (.tmp 45) (.tmp 46), none⟩,
                            ⟨some 48, .load false 1 (.tmp 47), none⟩,
                            ⟨some 49, .iaddr 1 (.tmp 33) (.tmp 34), none⟩,
                            ⟨none, .store 1 (.tmp 49) (.tmp 44), none⟩,
                            ⟨some 50, .iaddr 1 (.tmp 35) (.tmp 38), none⟩,
                            ⟨none, .store 1 (.tmp 50) (.tmp 48), none⟩] [30, 33, 34, 35, 36, 37, 38, 39, 40, 41, 42, 43, 44, 45, 46, 47, 48, 49, 50])
                        (.region false [
                            ⟨some 51, .mov (.tmp 0), none⟩,
                            ⟨some 52, .mov (.tmp 7), none⟩,
                            ⟨some 53, .mov (.tmp 10), none⟩,
                            ⟨some 54, .mov (.tmp 6), none⟩,
                            ⟨some 55, .callm 49 [.tmp 51, .tmp 52, .tmp 53, .tmp 54], none⟩] [51, 52, 53, 54, 55])) [])
                    (.region false [
                        ⟨some 31, .mov (.tmp 10), none⟩,
                        ⟨some 32, .bin .sub 3 (.tmp 31) (.const (.int .i64 1)), none⟩,
                        ⟨some 10, .mov (.tmp 32), none⟩] [31, 32]))) [] []) [0, 6, 7, 10, 30]))))))
abbrev v_slices_heapSortOrdered_api_Addr : List RV := []
abbrev f_slices_heapSortOrdered_api_Addr : FuncId := 39
theorem k_slices_heapSortOrdered_api_Addr : closedOf Try.prog Try.f39 = (false, some true, some v_slices_heapSortOrdered_api_Addr, some c_slices_heapSortOrdered_api_Addr.plain, 56) := by kernel_rfl
theorem ac_slices_heapSortOrdered_api_Addr {args : List AV} {r : AV} (h : aw Try.prog c_slices_heapSortOrdered_api_Addr (env0 args) (endQ v_slices_heapSortOrdered_api_Addr r)) (hargs : args.length ≤ 56 := by decide) (hok : resOK r = true := by rfl) : AC Try.prog f_slices_heapSortOrdered_api_Addr args r :=
  AC_mk (by kernel_rfl) Try.func39 k_slices_heapSortOrdered_api_Addr hargs hok (by decide) h
theorem am_slices_heapSortOrdered_api_Addr {args : List AV} {c0 c1 : List (Nat × List AV)} {r : AV} (h : aw Try.prog c_slices_heapSortOrdered_api_Addr (env0M args c0) (endM v_slices_heapSortOrdered_api_Addr r (c0.map (·.1)) c1)) (hc0 : ∀ q ∈ c0, 100000 ≤ q.1) (hargs : args.length ≤ 56 := by decide) (hok : resOK r = true := by rfl) : AM Try.prog f_slices_heapSortOrdered_api_Addr args c0 r c1 :=
  AM_mk (by kernel_rfl) Try.func39 k_slices_heapSortOrdered_api_Addr hargs hok (by decide) hc0 h

/-- slices.breakPatternsOrdered[rivulet/api.Addr] (function 40) -/
def c_slices_breakPatternsOrdered_api_Addr : ACode :=
  (.seq
    (.region false [
        ⟨some 11, .mov (.tmp 2), none⟩,
        ⟨some 12, .mov (.tmp 1), none⟩,
        ⟨some 13, .bin .sub 3 (.tmp 11) (.tmp 12), none⟩,
        ⟨some 6, .mov (.tmp 13), none⟩] [2, 11, 12, 13])
    (.seq
      (.region false [
          ⟨some 14, .mov (.tmp 6), none⟩,
          ⟨some 15, .bin .geq 3 (.tmp 14) (.const (.int .i64 8)), none⟩] [14])
      (.cond (.tmp 15)
        (.seq
          (.region false [
              ⟨some 16, .mov (.tmp 6), none⟩,
              ⟨some 17, .cint .u64 (.tmp 16), none⟩,
              ⟨some 7, .alloc [.lit (.int .u64 0)], none⟩,
              ⟨none, .store 1 (.tmp 7) (.tmp 17), none⟩] [15, 16, 17])
          (.seq
            (.region false [
                ⟨some 18, .mov (.tmp 6), none⟩,
                ⟨some 19, .callm 50 [.tmp 18], none⟩,
                ⟨some 8, .mov (.tmp 19), none⟩] [18, 19])
            (.seq
              (.region false [
                  ⟨some 20, .mov (.tmp 1), none⟩,
                  ⟨some 21, .mov (.tmp 6), none⟩,
                  ⟨some 22, .bin .quo 3 (.tmp 21) (.const (.int .i64 4)), none⟩,
                  ⟨some 23, .bin .mul 3 (.tmp 22) (.const (.int .i64 2)), none⟩,
                  ⟨some 24, .bin .add 3 (.tmp 20) (.tmp 23), none⟩,
                  ⟨some 25, .bin .sub 3 (.tmp 24) (.const (.int .i64 1)), none⟩,
                  ⟨some 9, .mov (.tmp 25), none⟩] [20, 21, 22, 23, 24, 25])
              (.block 0
                (.loop
                  (.seq
                    (.seq
                      (.region false [
                          ⟨some 26, .mov (.tmp 9), none⟩,
                          ⟨some 27, .mov (.tmp 1), none⟩,
                          ⟨some 28, .mov (.tmp 6), none⟩,
                          ⟨some 29, .bin .quo 3 (.tmp 28) (.const (.int .i64 4)), none⟩,
                          ⟨some 30, .bin .mul 3 (.tmp 29) (.const (.int .i64 2)), none⟩,
                          ⟨some 31, .bin .add 3 (.tmp 27) (.tmp 30), none⟩,
                          ⟨some 32, .bin .add 3 (.tmp 31) (.const (.int .i64 1)), none⟩,
                          ⟨some 33, .bin .leq 3 (.tmp 26) (.tmp 32), none⟩] [26, 27, 28, 29, 30, 31, 32])
                      (.cond (.tmp 33)
                        .skip
                        (.exit 0)))
                    (.seq
                      (.block 1
                        (.seq
                          (.region false [
                              ⟨some 36, .callm 51 [.tmp 7], none⟩,
                              ⟨some 37, .mov (.tmp 8), none⟩,
                              ⟨some 38, .bin .sub 63 (.tmp 37) (.const (.int .u64 1)), none⟩,
                              ⟨some 39, .bin .and 63 (.tmp 36) (.tmp 38), none⟩,
                              ⟨some 40, .cint .i64 (.tmp 39), none⟩,
                              ⟨some 10, .mov (.tmp 40), none⟩] [33, 36, 37, 38, 39, 40])
                          (.seq
                            (.seq
                              (.region false [
                                  ⟨some 41, .mov (.tmp 10), none⟩,
                                  ⟨some 42, .mov (.tmp 6), none⟩,
                                  ⟨some 43, .bin .geq 3 (.tmp 41) (.tmp 42), none⟩] [41, 42])
                              (.cond (.tmp 43)
                                (.region false [
                                    ⟨some 44, .mov (.tmp 10), none⟩,
                                    ⟨some 45, .mov (.tmp 6), none⟩,
                                    ⟨some 46, .bin .sub 3 (.tmp 44) (.tmp 45), none⟩,
                                    ⟨some 10, .mov (.tmp 46), none⟩] [43, 44, 45, 46])
                                .skip))
                            (.region true [
                                ⟨some 47, .mov (.tmp 0), none⟩,
                                ⟨some 48, .mov (.tmp 9), none⟩,
                                ⟨some 49, .mov (.tmp 0), none⟩,
                                ⟨some 50, .mov (.tmp 1), none⟩,
                                ⟨some 51, .mov (.tmp 10), none⟩,
                                ⟨some 52, .bin .add 3 (.tmp 50) (.tmp 51), none⟩,
                                ⟨some 53, .mov (.tmp 0), none⟩,
                                ⟨some 54, .mov (.tmp 1), none⟩,
                                ⟨some 55, .mov (.tmp 10), none⟩,
                                ⟨some 56, .bin .add 3 (.tmp 54) (.tmp 55), none⟩,
                                ⟨some 57, .iaddr 1 (.tmp 53) (.tmp 56), none⟩,
                                ⟨some 58, .load false 1 (.tmp 57), none⟩,
                                ⟨some 59, .mov (.tmp 0), none⟩,
                                ⟨some 60, .mov (.tmp 9), none⟩,
                                ⟨some 61, .iaddr 1 (.tmp 59) (.tmp 60), none⟩,
                                ⟨some 62, .load false 1 (.tmp 61), none⟩,
                                ⟨some 63, .iaddr 1 (.tmp 47) (.tmp 48), none⟩,
                                ⟨none, .store 1 (.tmp 63) (.tmp 58), none⟩,
                                ⟨some 64, .iaddr 1 (.tmp 49) (.tmp 52), none⟩,
                                ⟨none, .store 1 (.tmp 64) (.tmp 62), none⟩] [10, 43, 47, 48, 49, 50, 51, 52, 53, 54, 55, 56, 57, 58, 59, 60, 61, 62, 63, 64]))) [])
                      (.region false [
                          ⟨some 34, .mov (.tmp 9), none⟩,
                          ⟨some 35, .bin .add 3 (.tmp 34) (.const (.int .i64 1)), none⟩,
                          ⟨some 9, .mov (.tmp 35), none⟩] [34, 35]))) [] []) [0, 1, 6, 7, 8, 9, 33]))))
        .skip)))
abbrev v_slices_breakPatternsOrdered_api_Addr : List RV := []
abbrev f_slices_breakPatternsOrdered_api_Addr : FuncId := 40
theorem k_slices_breakPatternsOrdered_api_Addr : closedOf Try.prog Try.f40 = (false, some true, some v_slices_breakPatternsOrdered_api_Addr, some c_slices_breakPatternsOrdered_api_Addr.plain, 65) := by kernel_rfl
theorem ac_slices_breakPatternsOrdered_api_Addr {args : List AV} {r : AV} (h : aw Try.prog c_slices_breakPatternsOrdered_api_Addr (env0 args) (endQ v_slices_breakPatternsOrdered_api_Addr r)) (hargs : args.length ≤ 65 := by decide) (hok : resOK r = true := by rfl) : AC Try.prog f_slices_breakPatternsOrdered_api_Addr args r :=
  AC_mk (by kernel_rfl) Try.func40 k_slices_breakPatternsOrdered_api_Addr hargs hok (by decide) h
theorem am_slices_breakPatternsOrdered_api_Addr {args : List AV} {c0 c1 : List (Nat × List AV)} {r : AV} (h : aw Try.prog c_slices_breakPatternsOrdered_api_Addr (env0M args c0) (endM v_slices_breakPatternsOrdered_api_Addr r (c0.map (·.1)) c1)) (hc0 : ∀ q ∈ c0, 100000 ≤ q.1) (hargs : args.length ≤ 65 := by decide) (hok : resOK r = true := by rfl) : AM Try.prog f_slices_breakPatternsOrdered_api_Addr args c0 r c1 :=
  AM_mk (by kernel_rfl) Try.func40 k_slices_breakPatternsOrdered_api_Addr hargs hok (by decide) hc0 h

/-- slices.choosePivotOrdered[rivulet/api.Addr] (function 41) -/
def c_slices_choosePivotOrdered_api_Addr : ACode :=
  (.seq
    (.region false [
        ⟨some 6, .mov (.const (.int .i64 0)), none⟩,
        ⟨some 7, .mov (.const (.int .i64 0)), none⟩] [6, 7])
    (.seq
      (.region false [
          ⟨some 13, .mov (.tmp 2), none⟩,
          ⟨some 14, .mov (.tmp 1), none⟩,
          ⟨some 15, .bin .sub 3 (.tmp 13) (.tmp 14), none⟩,
          ⟨some 8, .mov (.tmp 15), none⟩] [2, 13, 14, 15])
      (.seq
        (.region false [
            ⟨some 9, .alloc [.lit (.int .i64 0)], none⟩] [])
        (.seq
          (.region false [
              ⟨some 16, .mov (.tmp 1), none⟩,
              ⟨some 17, .mov (.tmp 8), none⟩,
              ⟨some 18, .bin .quo 3 (.tmp 17) (.const (.int .i64 4)), none⟩,
              ⟨some 19, .bin .mul 3 (.tmp 18) (.const (.int .i64 1)), none⟩,
              ⟨some 20, .bin .add 3 (.tmp 16) (.tmp 19), none⟩,
              ⟨some 10, .mov (.tmp 20), none⟩] [16, 17, 18, 19, 20])
          (.seq
            (.region false [
                ⟨some 21, .mov (.tmp 1), none⟩,
                ⟨some 22, .mov (.tmp 8), none⟩,
                ⟨some 23, .bin .quo 3 (.tmp 22) (.const (.int .i64 4)), none⟩,
                ⟨some 24, .bin .mul 3 (.tmp 23) (.const (.int .i64 2)), none⟩,
                ⟨some 25, .bin .add 3 (.tmp 21) (.tmp 24), none⟩,
                ⟨some 11, .mov (.tmp 25), none⟩] [21, 22, 23, 24, 25])
            (.seq
              (.region false [
                  ⟨some 26, .mov (.tmp 1), none⟩,
                  ⟨some 27, .mov (.tmp 8), none⟩,
                  ⟨some 28, .bin .quo 3 (.tmp 27) (.const (.int .i64 4)), none⟩,
                  ⟨some 29, .bin .mul 3 (.tmp 28) (.const (.int .i64 3)), none⟩,
                  ⟨some 30, .bin .add 3 (.tmp 26) (.tmp 29), none⟩,
                  ⟨some 12, .mov (.tmp 30), none⟩] [1, 26, 27, 28, 29, 30])
              (.seq
                (.seq
                  (.region false [
                      ⟨some 31, .mov (.tmp 8), none⟩,
                      ⟨some 32, .bin .geq 3 (.tmp 31) (.const (.int .i64 8)), none⟩] [31])
                  (.cond (.tmp 32)
                    (.seq
                      (.seq
                        (.region false [
                            ⟨some 33, .mov (.tmp 8), none⟩,
                            ⟨some 34, .bin .geq 3 (.tmp 33) (.const (.int .i64 50)), none⟩] [8, 32, 33])
                        (.cond (.tmp 34)
                          (.seq
                            (.region false [
                                ⟨some 35, .mov (.tmp 0), none⟩,
                                ⟨some 36, .mov (.tmp 10), none⟩,
                                ⟨some 37, .callm 52 [.tmp 35, .tmp 36, .tmp 9], none⟩,
                                ⟨some 10, .mov (.tmp 37), none⟩] [34, 35, 36, 37])
                            (.seq
                              (.region false [
                                  ⟨some 38, .mov (.tmp 0), none⟩,
                                  ⟨some 39, .mov (.tmp 11), none⟩,
                                  ⟨some 40, .callm 52 [.tmp 38, .tmp 39, .tmp 9], none⟩,
                                  ⟨some 11, .mov (.tmp 40), none⟩] [38, 39, 40])
                              (.region false [
                                  ⟨some 41, .mov (.tmp 0), none⟩,
                                  ⟨some 42, .mov (.tmp 12), none⟩,
                                  ⟨some 43, .callm 52 [.tmp 41, .tmp 42, .tmp 9], none⟩,
                                  ⟨some 12, .mov (.tmp 43), none⟩] [41, 42, 43])))
                          .skip))
                      (.region false [
                          ⟨some 44, .mov (.tmp 0), none⟩,
                          ⟨some 45, .mov (.tmp 10), none⟩,
                          ⟨some 46, .mov (.tmp 11), none⟩,
                          ⟨some 47, .mov (.tmp 12), none⟩,
                          ⟨some 48, .callm 53 [.tmp 44, .tmp 45, .tmp 46, .tmp 47, .tmp 9], none⟩,
                          ⟨some 11, .mov (.tmp 48), none⟩] [0, 10, 12, 34, 44, 45, 46, 47, 48]))
                    .skip))
                (.seq
                  (.region false [
                      ⟨some 49, .load false 1 (.tmp 9), none⟩] [0, 8, 9, 10, 12, 32])
                  (.block 0
                    (.seq
                      (.region false [
                          ⟨some 52, .bin .eql 3 (.tmp 49) (.const (.int .i64 0)), none⟩,
                          ⟨some 51, .mov (.tmp 52), none⟩] [52])
                      (.cond (.tmp 51)
                        (.seq
                          (.region false [
                              ⟨some 53, .mov (.tmp 11), none⟩,
                              ⟨some 6, .mov (.tmp 53), none⟩,
                              ⟨some 7, .mov (.const (.int .i64 1)), none⟩] [11, 49, 51, 53])
                          .ret)
                        (.seq
                          (.region false [
                              ⟨some 55, .bin .eql 3 (.tmp 49) (.const (.int .i64 12)), none⟩,
                              ⟨some 54, .mov (.tmp 55), none⟩] [49, 51, 55])
                          (.cond (.tmp 54)
                            (.seq
                              (.region false [
                                  ⟨some 56, .mov (.tmp 11), none⟩,
                                  ⟨some 6, .mov (.tmp 56), none⟩,
                                  ⟨some 7, .mov (.const (.int .i64 2)), none⟩] [11, 54, 56])
                              .ret)
                            (.seq
                              (.region false [
                                  ⟨some 50, .mov (.tmp 11), none⟩,
                                  ⟨some 6, .mov (.tmp 50), none⟩,
                                  ⟨some 7, .mov (.const (.int .i64 0)), none⟩] [11, 50, 54])
                              .ret))))) [])))))))))
abbrev v_slices_choosePivotOrdered_api_Addr : List RV := [.tmp 6, .tmp 7]
abbrev f_slices_choosePivotOrdered_api_Addr : FuncId := 41
theorem k_slices_choosePivotOrdered_api_Addr : closedOf Try.prog Try.f41 = (false, some true, some v_slices_choosePivotOrdered_api_Addr, some c_slices_choosePivotOrdered_api_Addr.plain, 57) := by kernel_rfl
theorem ac_slices_choosePivotOrdered_api_Addr {args : List AV} {r : AV} (h : aw Try.prog c_slices_choosePivotOrdered_api_Addr (env0 args) (endQ v_slices_choosePivotOrdered_api_Addr r)) (hargs : args.length ≤ 57 := by decide) (hok : resOK r = true := by rfl) : AC Try.prog f_slices_choosePivotOrdered_api_Addr args r :=
  AC_mk (by kernel_rfl) Try.func41 k_slices_choosePivotOrdered_api_Addr hargs hok (by decide) h
theorem am_slices_choosePivotOrdered_api_Addr {args : List AV} {c0 c1 : List (Nat × List AV)} {r : AV} (h : aw Try.prog c_slices_choosePivotOrdered_api_Addr (env0M args c0) (endM v_slices_choosePivotOrdered_api_Addr r (c0.map (·.1)) c1)) (hc0 : ∀ q ∈ c0, 100000 ≤ q.1) (hargs : args.length ≤ 57 := by decide) (hok : resOK r = true := by rfl) : AM Try.prog f_slices_choosePivotOrdered_api_Addr args c0 r c1 :=
  AM_mk (by kernel_rfl) Try.func41 k_slices_choosePivotOrdered_api_Addr hargs hok (by decide) hc0 h

/-- slices.reverseRangeOrdered[rivulet/api.Addr] (function 42) -/
def c_slices_reverseRangeOrdered_api_Addr : ACode :=
  (.seq
    (.region false [
        ⟨some 8, .mov (.tmp 1), none⟩,
        ⟨some 6, .mov (.tmp 8), none⟩] [1, 8])
    (.seq
      (.region false [
          ⟨some 9, .mov (.tmp 2), none⟩,
          ⟨some 10, .bin .sub 3 (.tmp 9) (.const (.int .i64 1)), none⟩,
          ⟨some 7, .mov (.tmp 10), none⟩] [2, 9, 10])
      (.block 0
        (.loop
          (.seq
            (.seq
              (.region false [
                  ⟨some 11, .mov (.tmp 6), none⟩,
                  ⟨some 12, .mov (.tmp 7), none⟩,
                  ⟨some 13, .bin .lss 3 (.tmp 11) (.tmp 12), none⟩] [11, 12])
              (.cond (.tmp 13)
                .skip
                (.exit 0)))
            (.block 1
              (.seq
                (.region true [
                    ⟨some 14, .mov (.tmp 0), none⟩,
                    ⟨some 15, .mov (.tmp 6), none⟩,
                    ⟨some 16, .mov (.tmp 0), none⟩,
                    ⟨some 17, .mov (.tmp 7), none⟩,
                    ⟨some 18, .mov (.tmp 0), none⟩,
                    ⟨some 19, .mov (.tmp 7), none⟩,
                    ⟨some 20, .iaddr 1 (.tmp 18) (.tmp 19), none⟩,
                    ⟨some 21, .load false 1 (.tmp 20), none⟩,
                    ⟨some 22, .mov (.tmp 0), none⟩,
                    ⟨some 23, .mov (.tmp 6), none⟩,
                    ⟨some 24, .iaddr 1 (.tmp 22) (.tmp 23), none⟩,
                    ⟨some 25, .load false 1 (.tmp 24), none⟩,
                    ⟨some 26, .iaddr 1 (.tmp 14) (.tmp 15), none⟩,
                    ⟨none, .store 1 (.tmp 26) (.tmp 21), none⟩,
                    ⟨some 27, .iaddr 1 (.tmp 16) (.tmp 17), none⟩,
                    ⟨none, .store 1 (.tmp 27) (.tmp 25), none⟩] [13, 14, 15, 16, 17, 18, 19, 20, 21, 22, 23, 24, 25, 26, 27])
                (.seq
                  (.region false [
                      ⟨some 28, .mov (.tmp 6), none⟩,
                      ⟨some 29, .bin .add 3 (.tmp 28) (.const (.int .i64 1)), none⟩,
                      ⟨some 6, .mov (.tmp 29), none⟩] [28, 29])
                  (.region false [
                      ⟨some 30, .mov (.tmp 7), none⟩,
                      ⟨some 31, .bin .sub 3 (.tmp 30) (.const (.int .i64 1)), none⟩,
                      ⟨some 7, .mov (.tmp 31), none⟩] [30, 31]))) [])) [] []) [0, 6, 7, 13])))
abbrev v_slices_reverseRangeOrdered_api_Addr : List RV := []
abbrev f_slices_reverseRangeOrdered_api_Addr : FuncId := 42
theorem k_slices_reverseRangeOrdered_api_Addr : closedOf Try.prog Try.f42 = (false, some true, some v_slices_reverseRangeOrdered_api_Addr, some c_slices_reverseRangeOrdered_api_Addr.plain, 32) := by kernel_rfl
theorem ac_slices_reverseRangeOrdered_api_Addr {args : List AV} {r : AV} (h : aw Try.prog c_slices_reverseRangeOrdered_api_Addr (env0 args) (endQ v_slices_reverseRangeOrdered_api_Addr r)) (hargs : args.length ≤ 32 := by decide) (hok : resOK r = true := by rfl) : AC Try.prog f_slices_reverseRangeOrdered_api_Addr args r :=
  AC_mk (by kernel_rfl) Try.func42 k_slices_reverseRangeOrdered_api_Addr hargs hok (by decide) h
theorem am_slices_reverseRangeOrdered_api_Addr {args : List AV} {c0 c1 : List (Nat × List AV)} {r : AV} (h : aw Try.prog c_slices_reverseRangeOrdered_api_Addr (env0M args c0) (endM v_slices_reverseRangeOrdered_api_Addr r (c0.map (·.1)) c1)) (hc0 : ∀ q ∈ c0, 100000 ≤ q.1) (hargs : args.length ≤ 32 := by decide) (hok : resOK r = true := by rfl) : AM Try.prog f_slices_reverseRangeOrdered_api_Addr args c0 r c1 :=
  AM_mk (by kernel_rfl) Try.func42 k_slices_reverseRangeOrdered_api_Addr hargs hok (by decide) hc0 h

/-- slices.partialInsertionSortOrdered[rivulet/api.Addr] (function 43) -/
def c_slices_partialInsertionSortOrdered_api_Addr : ACode :=
  (.seq
    (.region false [
        ⟨some 6, .mov (.const (.bool false)), none⟩] [6])
    (.seq
      (.region false [
          ⟨some 11, .mov (.tmp 1), none⟩,
          ⟨some 12, .bin .add 3 (.tmp 11) (.const (.int .i64 1)), none⟩,
          ⟨some 7, .mov (.tmp 12), none⟩] [11, 12])
      (.seq
        (.seq
          (.region false [
              ⟨some 8, .mov (.const (.int .i64 0)), none⟩] [])
          (.block 0
            (.loop
              (.seq
                (.seq
                  (.region false [
                      ⟨some 13, .mov (.tmp 8), none⟩,
                      ⟨some 14, .bin .lss 3 (.tmp 13) (.const (.int .i64 5)), none⟩] [13])
                  (.cond (.tmp 14)
                    .skip
                    (.exit 0)))
                (.seq
                  (.block 1
                    (.seq
                      (.block 2
                        (.loop
                          (.seq
                            (.seq
                              (.region true [
                                  ⟨some 17, .mov (.tmp 7), none⟩,
                                  ⟨some 18, .mov (.tmp 2), none⟩,
                                  ⟨some 19, .bin .lss 3 (.tmp 17) (.tmp 18), none⟩,
                                  ⟨some 20, .mov (.tmp 19), none⟩,
                                  ⟨some 21, .mov (.tmp 0), (some (20, true))⟩,
                                  ⟨some 22, .mov (.tmp 7), (some (20, true))⟩,
                                  ⟨some 23, .iaddr 1 (.tmp 21) (.tmp 22), (some (20, true))⟩,
                                  ⟨some 24, .load false 1 (.tmp 23), (some (20, true))⟩,
                                  ⟨some 25, .mov (.tmp 0), (some (20, true))⟩,
                                  ⟨some 26, .mov (.tmp 7), (some (20, true))⟩,
                                  ⟨some 27, .bin .sub 3 (.tmp 26) (.const (.int .i64 1)), (some (20, true))⟩,
                                  ⟨some 28, .iaddr 1 (.tmp 25) (.tmp 27), (some (20, true))⟩,
                                  ⟨some 29, .load false 1 (.tmp 28), (some (20, true))⟩,
                                  ⟨some 30, .call 44 [.tmp 24, .tmp 29], (some (20, true))⟩,
                                  ⟨some 31, .un .not (.tmp 30), (some (20, true))⟩,
                                  ⟨some 32, .pick (.tmp 20) (.tmp 31) (.const (.bool false)), none⟩] [17, 18, 19, 20, 21, 22, 23, 24, 25, 26, 27, 28, 29, 30, 31])
                              (.cond (.tmp 32)
                                .skip
                                (.exit 2)))
                            (.block 3
                              (.region false [
                                  ⟨some 33, .mov (.tmp 7), none⟩,
                                  ⟨some 34, .bin .add 3 (.tmp 33) (.const (.int .i64 1)), none⟩,
                                  ⟨some 7, .mov (.tmp 34), none⟩] [32, 33, 34]) [])) [14] []) [32])
                      (.seq
                        (.seq
                          (.region false [
                              ⟨some 35, .mov (.tmp 7), none⟩,
                              ⟨some 36, .mov (.tmp 2), none⟩,
                              ⟨some 37, .bin .eql 3 (.tmp 35) (.tmp 36), none⟩] [35, 36])
                          (.cond (.tmp 37)
                            (.seq
                              (.region false [
                                  ⟨some 6, .mov (.const (.bool true)), none⟩] [0, 1, 2, 7, 8, 37])
                              .ret)
                            .skip))
                        (.seq
                          (.seq
                            (.region false [
                                ⟨some 38, .mov (.tmp 2), none⟩,
                                ⟨some 39, .mov (.tmp 1), none⟩,
                                ⟨some 40, .bin .sub 3 (.tmp 38) (.tmp 39), none⟩,
                                ⟨some 41, .bin .lss 3 (.tmp 40) (.const (.int .i64 50)), none⟩] [37, 38, 39, 40])
                            (.cond (.tmp 41)
                              (.seq
                                (.region false [
                                    ⟨some 6, .mov (.const (.bool false)), none⟩] [0, 1, 2, 7, 8, 41])
                                .ret)
                              .skip))
                          (.seq
                            (.region true [
                                ⟨some 42, .mov (.tmp 0), none⟩,
                                ⟨some 43, .mov (.tmp 7), none⟩,
                                ⟨some 44, .mov (.tmp 0), none⟩,
                                ⟨some 45, .mov (.tmp 7), none⟩,
                                ⟨some 46, .bin .sub 3 (.tmp 45) (.const (.int .i64 1)), none⟩,
                                ⟨some 47, .mov (.tmp 0), none⟩,
                                ⟨some 48, .mov (.tmp 7), none⟩,
                                ⟨some 49, .bin .sub 3 (.tmp 48) (.const (.int .i64 1)), none⟩,
                                ⟨some 50, .iaddr 1 (.tmp 47) (.tmp 49), none⟩,
                                ⟨some 51, .load false 1 (.tmp 50), none⟩,
                                ⟨some 52, .mov (.tmp 0), none⟩,
                                ⟨some 53, .mov (.tmp 7), none⟩,
                                ⟨some 54, .iaddr 1 (.tmp 52) (.tmp 53), none⟩,
                                ⟨some 55, .load false 1 (.tmp 54), none⟩,
                                ⟨some 56, .iaddr 1 (.tmp 42) (.tmp 43), none⟩,
                                ⟨none, .store 1 (.tmp 56) (.tmp 51), none⟩,
                                ⟨some 57, .iaddr 1 (.tmp 44) (.tmp 46), none⟩,
                                ⟨none, .store 1 (.tmp 57) (.tmp 55), none⟩] [41, 42, 43, 44, 45, 46, 47, 48, 49, 50, 51, 52, 53, 54, 55, 56, 57])
                            (.seq
                              (.seq
                                (.region false [
                                    ⟨some 58, .mov (.tmp 7), none⟩,
                                    ⟨some 59, .mov (.tmp 1), none⟩,
                                    ⟨some 60, .bin .sub 3 (.tmp 58) (.tmp 59), none⟩,
                                    ⟨some 61, .bin .geq 3 (.tmp 60) (.const (.int .i64 2)), none⟩] [58, 59, 60])
                                (.cond (.tmp 61)
                                  (.seq
                                    (.region false [
                                        ⟨some 62, .mov (.tmp 7), none⟩,
                                        ⟨some 63, .bin .sub 3 (.tmp 62) (.const (.int .i64 1)), none⟩,
                                        ⟨some 9, .mov (.tmp 63), none⟩] [61, 62, 63])
                                    (.block 4
                                      (.loop
                                        (.seq
                                          (.seq
                                            (.region false [
                                                ⟨some 64, .mov (.tmp 9), none⟩,
                                                ⟨some 65, .bin .geq 3 (.tmp 64) (.const (.int .i64 1)), none⟩] [64])
                                            (.cond (.tmp 65)
                                              .skip
                                              (.exit 4)))
                                          (.seq
                                            (.block 5
                                              (.seq
                                                (.seq
                                                  (.region true [
                                                      ⟨some 68, .mov (.tmp 0), none⟩,
                                                      ⟨some 69, .mov (.tmp 9), none⟩,
                                                      ⟨some 70, .iaddr 1 (.tmp 68) (.tmp 69), none⟩,
                                                      ⟨some 71, .load false 1 (.tmp 70), none⟩,
                                                      ⟨some 72, .mov (.tmp 0), none⟩,
                                                      ⟨some 73, .mov (.tmp 9), none⟩,
                                                      ⟨some 74, .bin .sub 3 (.tmp 73) (.const (.int .i64 1)), none⟩,
                                                      ⟨some 75, .iaddr 1 (.tmp 72) (.tmp 74), none⟩,
                                                      ⟨some 76, .load false 1 (.tmp 75), none⟩,
                                                      ⟨some 77, .call 44 [.tmp 71, .tmp 76], none⟩,
                                                      ⟨some 78, .un .not (.tmp 77), none⟩] [65, 68, 69, 70, 71, 72, 73, 74, 75, 76, 77])
                                                  (.cond (.tmp 78)
                                                    (.exit 4)
                                                    .skip))
                                                (.region true [
                                                    ⟨some 79, .mov (.tmp 0), none⟩,
                                                    ⟨some 80, .mov (.tmp 9), none⟩,
                                                    ⟨some 81, .mov (.tmp 0), none⟩,
                                                    ⟨some 82, .mov (.tmp 9), none⟩,
                                                    ⟨some 83, .bin .sub 3 (.tmp 82) (.const (.int .i64 1)), none⟩,
                                                    ⟨some 84, .mov (.tmp 0), none⟩,
                                                    ⟨some 85, .mov (.tmp 9), none⟩,
                                                    ⟨some 86, .bin .sub 3 (.tmp 85) (.const (.int .i64 1)), none⟩,
                                                    ⟨some 87, .iaddr 1 (.tmp 84) (.tmp 86), none⟩,
                                                    ⟨some 88, .load false 1 (.tmp 87), none⟩,
                                                    ⟨some 89, .mov (.tmp 0), none⟩,
                                                    ⟨some 90, .mov (.tmp 9), none⟩,
                                                    ⟨some 91, .iaddr 1 (.tmp 89) (.tmp 90), none⟩,
                                                    ⟨some 92, .load false 1 (.tmp 91), none⟩,
                                                    ⟨some 93, .iaddr 1 (.tmp 79) (.tmp 80), none⟩,
                                                    ⟨none, .store 1 (.tmp 93) (.tmp 88), none⟩,
                                                    ⟨some 94, .iaddr 1 (.tmp 81) (.tmp 83), none⟩,
                                                    ⟨none, .store 1 (.tmp 94) (.tmp 92), none⟩] [78, 79, 80, 81, 82, 83, 84, 85, 86, 87, 88, 89, 90, 91, 92, 93, 94])) [])
                                            (.region false [
                                                ⟨some 66, .mov (.tmp 9), none⟩,
                                                ⟨some 67, .bin .sub 3 (.tmp 66) (.const (.int .i64 1)), none⟩,
                                                ⟨some 9, .mov (.tmp 67), none⟩] [66, 67]))) [] []) [9, 65, 78]))
                                  .skip))
                              (.seq
                                (.region false [
                                    ⟨some 95, .mov (.tmp 2), none⟩,
                                    ⟨some 96, .mov (.tmp 7), none⟩,
                                    ⟨some 97, .bin .sub 3 (.tmp 95) (.tmp 96), none⟩,
                                    ⟨some 98, .bin .geq 3 (.tmp 97) (.const (.int .i64 2)), none⟩] [61, 95, 96, 97])
                                (.cond (.tmp 98)
                                  (.seq
                                    (.region false [
                                        ⟨some 99, .mov (.tmp 7), none⟩,
                                        ⟨some 100, .bin .add 3 (.tmp 99) (.const (.int .i64 1)), none⟩,
                                        ⟨some 10, .mov (.tmp 100), none⟩] [98, 99, 100])
                                    (.block 6
                                      (.loop
                                        (.seq
                                          (.seq
                                            (.region false [
                                                ⟨some 101, .mov (.tmp 10), none⟩,
                                                ⟨some 102, .mov (.tmp 2), none⟩,
                                                ⟨some 103, .bin .lss 3 (.tmp 101) (.tmp 102), none⟩] [101, 102])
                                            (.cond (.tmp 103)
                                              .skip
                                              (.exit 6)))
                                          (.seq
                                            (.block 7
                                              (.seq
                                                (.seq
                                                  (.region true [
                                                      ⟨some 106, .mov (.tmp 0), none⟩,
                                                      ⟨some 107, .mov (.tmp 10), none⟩,
                                                      ⟨some 108, .iaddr 1 (.tmp 106) (.tmp 107), none⟩,
                                                      ⟨some 109, .load false 1 (.tmp 108), none⟩,
                                                      ⟨some 110, .mov (.tmp 0), none⟩,
                                                      ⟨some 111, .mov (.tmp 10), none⟩,
                                                      ⟨some 112, .bin .sub 3 (.tmp 111) (.const (.int .i64 1)), none⟩,
                                                      ⟨some 113, .iaddr 1 (.tmp 110) (.tmp 112), none⟩,
                                                      ⟨some 114, .load false 1 (.tmp 113), none⟩,
                                                      ⟨some 115, .call 44 [.tmp 109, .tmp 114], none⟩,
                                                      ⟨some 116, .un .not (.tmp 115), none⟩] [103, 106, 107, 108, 109, 110, 111, 112, 113, 114, 115])
                                                  (.cond (.tmp 116)
                                                    (.exit 6)
                                                    .skip))
                                                (.region true [
                                                    ⟨some 117, .mov (.tmp 0), none⟩,
                                                    ⟨some 118, .mov (.tmp 10), none⟩,
                                                    ⟨some 119, .mov (.tmp 0), none⟩,
                                                    ⟨some 120, .mov (.tmp 10), none⟩,
                                                    ⟨some 121, .bin .sub 3 (.tmp 120) (.const (.int .i64 1)), none⟩,
                                                    ⟨some 122, .mov (.tmp 0), none⟩,
                                                    ⟨some 123, .mov (.tmp 10), none⟩,
                                                    ⟨some 124, .bin .sub 3 (.tmp 123) (.const (.int .i64 1)), none⟩,
                                                    ⟨some 125, .iaddr 1 (.tmp 122) (.tmp 124), none⟩,
                                                    ⟨some 126, .load false 1 (.tmp 125), none⟩,
                                                    ⟨some 127, .mov (.tmp 0), none⟩,
                                                    ⟨some 128, .mov (.tmp 10), none⟩,
                                                    ⟨some 129, .iaddr 1 (.tmp 127) (.tmp 128), none⟩,
                                                    ⟨some 130, .load false 1 (.tmp 129), none⟩,
                                                    ⟨some 131, .iaddr 1 (.tmp 117) (.tmp 118), none⟩,
                                                    ⟨none, .store 1 (.tmp 131) (.tmp 126), none⟩,
                                                    ⟨some 132, .iaddr 1 (.tmp 119) (.tmp 121), none⟩,
                                                    ⟨none, .store 1 (.tmp 132) (.tmp 130), none⟩] [116, 117, 118, 119, 120, 121, 122, 123, 124, 125, 126, 127, 128, 129, 130, 131, 132])) [])
                                            (.region false [
                                                ⟨some 104, .mov (.tmp 10), none⟩,
                                                ⟨some 105, .bin .add 3 (.tmp 104) (.const (.int .i64 1)), none⟩,
                                                ⟨some 10, .mov (.tmp 105), none⟩] [104, 105]))) [] []) [10, 103, 116]))
                                  .skip))))))) [98])
                  (.region false [
                      ⟨some 15, .mov (.tmp 8), none⟩,
                      ⟨some 16, .bin .add 3 (.tmp 15) (.const (.int .i64 1)), none⟩,
                      ⟨some 8, .mov (.tmp 16), none⟩] [15, 16]))) [] []) [0, 1, 2, 7, 8, 14]))
        (.seq
          (.region false [
              ⟨some 6, .mov (.const (.bool false)), none⟩] [])
          .ret))))
abbrev v_slices_partialInsertionSortOrdered_api_Addr : List RV := [.tmp 6]
abbrev f_slices_partialInsertionSortOrdered_api_Addr : FuncId := 43
theorem k_slices_partialInsertionSortOrdered_api_Addr : closedOf Try.prog Try.f43 = (false, some true, some v_slices_partialInsertionSortOrdered_api_Addr, some c_slices_partialInsertionSortOrdered_api_Addr.plain, 133) := by kernel_rfl
theorem ac_slices_partialInsertionSortOrdered_api_Addr {args : List AV} {r : AV} (h : aw Try.prog c_slices_partialInsertionSortOrdered_api_Addr (env0 args) (endQ v_slices_partialInsertionSortOrdered_api_Addr r)) (hargs : args.length ≤ 133 := by decide) (hok : resOK r = true := by rfl) : AC Try.prog f_slices_partialInsertionSortOrdered_api_Addr args r :=
  AC_mk (by kernel_rfl) Try.func43 k_slices_partialInsertionSortOrdered_api_Addr hargs hok (by decide) h
theorem am_slices_partialInsertionSortOrdered_api_Addr {args : List AV} {c0 c1 : List (Nat × List AV)} {r : AV} (h : aw Try.prog c_slices_partialInsertionSortOrdered_api_Addr (env0M args c0) (endM v_slices_partialInsertionSortOrdered_api_Addr r (c0.map (·.1)) c1)) (hc0 : ∀ q ∈ c0, 100000 ≤ q.1) (hargs : args.length ≤ 133 := by decide) (hok : resOK r = true := by rfl) : AM Try.prog f_slices_partialInsertionSortOrdered_api_Addr args c0 r c1 :=
  AM_mk (by kernel_rfl) Try.func43 k_slices_partialInsertionSortOrdered_api_Addr hargs hok (by decide) hc0 h

/-- cmp.Less[rivulet/api.Addr] (function 44) -/
def c_cmp_Less_api_Addr : ACode :=
  (.seq
    (.region false [
        ⟨some 4, .mov (.const (.bool false)), none⟩] [4])
    (.seq
      (.region false [
          ⟨some 5, .mov (.tmp 0), none⟩,
          ⟨some 6, .callm 54 [.tmp 5], none⟩,
          ⟨some 7, .mov (.tmp 6), none⟩,
          ⟨some 8, .mov (.tmp 1), (some (7, true))⟩,
          ⟨some 9, .callm 54 [.tmp 8], (some (7, true))⟩,
          ⟨some 10, .un .not (.tmp 9), (some (7, true))⟩,
          ⟨some 11, .pick (.tmp 7) (.tmp 10) (.const (.bool false)), none⟩,
          ⟨some 12, .mov (.tmp 11), none⟩,
          ⟨some 13, .mov (.tmp 0), (some (12, false))⟩,
          ⟨some 14, .mov (.tmp 1), (some (12, false))⟩,
          ⟨some 15, .bin .lss 23 (.tmp 13) (.tmp 14), (some (12, false))⟩,
          ⟨some 16, .pick (.tmp 12) (.const (.bool true)) (.tmp 15), none⟩,
          ⟨some 4, .mov (.tmp 16), none⟩] [0, 1, 5, 6, 7, 8, 9, 10, 11, 12, 13, 14, 15, 16])
      .ret))
abbrev v_cmp_Less_api_Addr : List RV := [.tmp 4]
abbrev f_cmp_Less_api_Addr : FuncId := 44
theorem k_cmp_Less_api_Addr : closedOf Try.prog Try.f44 = (false, some true, some v_cmp_Less_api_Addr, some c_cmp_Less_api_Addr.plain, 17) := by kernel_rfl
theorem ac_cmp_Less_api_Addr {args : List AV} {r : AV} (h : aw Try.prog c_cmp_Less_api_Addr (env0 args) (endQ v_cmp_Less_api_Addr r)) (hargs : args.length ≤ 17 := by decide) (hok : resOK r = true := by rfl) : AC Try.prog f_cmp_Less_api_Addr args r :=
  AC_mk (by kernel_rfl) Try.func44 k_cmp_Less_api_Addr hargs hok (by decide) h
theorem am_cmp_Less_api_Addr {args : List AV} {c0 c1 : List (Nat × List AV)} {r : AV} (h : aw Try.prog c_cmp_Less_api_Addr (env0M args c0) (endM v_cmp_Less_api_Addr r (c0.map (·.1)) c1)) (hc0 : ∀ q ∈ c0, 100000 ≤ q.1) (hargs : args.length ≤ 17 := by decide) (hok : resOK r = true := by rfl) : AM Try.prog f_cmp_Less_api_Addr args c0 r c1 :=
  AM_mk (by kernel_rfl) Try.func44 k_cmp_Less_api_Addr hargs hok (by decide) hc0 h

/-- slices.partitionEqualOrdered[rivulet/api.Addr] (function 45) -/
def c_slices_partitionEqualOrdered_api_Addr : ACode :=
  (.seq
    (.region false [
        ⟨some 8, .mov (.const (.int .i64 0)), none⟩] [8])
    (.seq
      (.region true [
          ⟨some 11, .mov (.tmp 0), none⟩,
          ⟨some 12, .mov (.tmp 1), none⟩,
          ⟨some 13, .mov (.tmp 0), none⟩,
          ⟨some 14, .mov (.tmp 3), none⟩,
          ⟨some 15, .mov (.tmp 0), none⟩,
          ⟨some 16, .mov (.tmp 3), none⟩,
          ⟨some 17, .iaddr 1 (.tmp 15) (.tmp 16), none⟩,
          ⟨some 18, .load false 1 (.tmp 17), none⟩,
          ⟨some 19, .mov (.tmp 0), none⟩,
          ⟨some 20, .mov (.tmp 1), none⟩,
          ⟨some 21, .iaddr 1 (.tmp 19) (.tmp 20), none⟩,
          ⟨some 22, .load false 1 (.tmp 21), none⟩,
          ⟨some 23, .iaddr 1 (.tmp 11) (.tmp 12), none⟩,
          ⟨none, .store 1 (.tmp 23) (.tmp 18), none⟩,
          ⟨some 24, .iaddr 1 (.tmp 13) (.tmp 14), none⟩,
          ⟨none, .store 1 (.tmp 24) (.tmp 22), none⟩] [3, 11, 12, 13, 14, 15, 16, 17, 18, 19, 20, 21, 22, 23, 24])
      (.seq
        (.region false [
            ⟨some 25, .mov (.tmp 1), none⟩,
            ⟨some 26, .bin .add 3 (.tmp 25) (.const (.int .i64 1)), none⟩,
            ⟨some 27, .mov (.tmp 2), none⟩,
            ⟨some 28, .bin .sub 3 (.tmp 27) (.const (.int .i64 1)), none⟩,
            ⟨some 9, .mov (.tmp 26), none⟩,
            ⟨some 10, .mov (.tmp 28), none⟩] [2, 25, 26, 27, 28])
        (.seq
          (.block 0
            (.loop
              (.block 1
                (.seq
                  (.block 2
                    (.loop
                      (.seq
                        (.seq
                          (.region true [
                              ⟨some 29, .mov (.tmp 9), none⟩,
                              ⟨some 30, .mov (.tmp 10), none⟩,
                              ⟨some 31, .bin .leq 3 (.tmp 29) (.tmp 30), none⟩,
                              ⟨some 32, .mov (.tmp 31), none⟩,
                              ⟨some 33, .mov (.tmp 0), (some (32, true))⟩,
                              ⟨some 34, .mov (.tmp 1), (some (32, true))⟩,
                              ⟨some 35, .iaddr 1 (.tmp 33) (.tmp 34), (some (32, true))⟩,
                              ⟨some 36, .load false 1 (.tmp 35), (some (32, true))⟩,
                              ⟨some 37, .mov (.tmp 0), (some (32, true))⟩,
                              ⟨some 38, .mov (.tmp 9), (some (32, true))⟩,
                              ⟨some 39, .iaddr 1 (.tmp 37) (.tmp 38), (some (32, true))⟩,
                              ⟨some 40, .load false 1 (.tmp 39), (some (32, true))⟩,
                              ⟨some 41, .call 44 [.tmp 36, .tmp 40], (some (32, true))⟩,
                              ⟨some 42, .un .not (.tmp 41), (some (32, true))⟩,
                              ⟨some 43, .pick (.tmp 32) (.tmp 42) (.const (.bool false)), none⟩] [29, 30, 31, 32, 33, 34, 35, 36, 37, 38, 39, 40, 41, 42])
                          (.cond (.tmp 43)
                            .skip
                            (.exit 2)))
                        (.block 3
                          (.region false [
                              ⟨some 44, .mov (.tmp 9), none⟩,
                              ⟨some 45, .bin .add 3 (.tmp 44) (.const (.int .i64 1)), none⟩,
                              ⟨some 9, .mov (.tmp 45), none⟩] [43, 44, 45]) [])) [] []) [43])
                  (.seq
                    (.block 4
                      (.loop
                        (.seq
                          (.seq
                            (.region true [
                                ⟨some 46, .mov (.tmp 9), none⟩,
                                ⟨some 47, .mov (.tmp 10), none⟩,
                                ⟨some 48, .bin .leq 3 (.tmp 46) (.tmp 47), none⟩,
                                ⟨some 49, .mov (.tmp 48), none⟩,
                                ⟨some 50, .mov (.tmp 0), (some (49, true))⟩,
                                ⟨some 51, .mov (.tmp 1), (some (49, true))⟩,
                                ⟨some 52, .iaddr 1 (.tmp 50) (.tmp 51), (some (49, true))⟩,
                                ⟨some 53, .load false 1 (.tmp 52), (some (49, true))⟩,
                                ⟨some 54, .mov (.tmp 0), (some (49, true))⟩,
                                ⟨some 55, .mov (.tmp 10), (some (49, true))⟩,
                                ⟨some 56, .iaddr 1 (.tmp 54) (.tmp 55), (some (49, true))⟩,
                                ⟨some 57, .load false 1 (.tmp 56), (some (49, true))⟩,
                                ⟨some 58, .call 44 [.tmp 53, .tmp 57], (some (49, true))⟩,
                                ⟨some 59, .pick (.tmp 49) (.tmp 58) (.const (.bool false)), none⟩] [46, 47, 48, 49, 50, 51, 52, 53, 54, 55, 56, 57, 58])
                            (.cond (.tmp 59)
                              .skip
                              (.exit 4)))
                          (.block 5
                            (.region false [
                                ⟨some 60, .mov (.tmp 10), none⟩,
                                ⟨some 61, .bin .sub 3 (.tmp 60) (.const (.int .i64 1)), none⟩,
                                ⟨some 10, .mov (.tmp 61), none⟩] [59, 60, 61]) [])) [] []) [59])
                    (.seq
                      (.seq
                        (.region false [
                            ⟨some 62, .mov (.tmp 9), none⟩,
                            ⟨some 63, .mov (.tmp 10), none⟩,
                            ⟨some 64, .bin .gtr 3 (.tmp 62) (.tmp 63), none⟩] [62, 63])
                        (.cond (.tmp 64)
                          (.exit 0)
                          .skip))
                      (.seq
                        (.region true [
                            ⟨some 65, .mov (.tmp 0), none⟩,
                            ⟨some 66, .mov (.tmp 9), none⟩,
                            ⟨some 67, .mov (.tmp 0), none⟩,
                            ⟨some 68, .mov (.tmp 10), none⟩,
                            ⟨some 69, .mov (.tmp 0), none⟩,
                            ⟨some 70, .mov (.tmp 10), none⟩,
                            ⟨some 71, .iaddr 1 (.tmp 69) (.tmp 70), none⟩,
                            ⟨some 72, .load false 1 (.tmp 71), none⟩,
                            ⟨some 73, .mov (.tmp 0), none⟩,
                            ⟨some 74, .mov (.tmp 9), none⟩,
                            ⟨some 75, .iaddr 1 (.tmp 73) (.tmp 74), none⟩,
                            ⟨some 76, .load false 1 (.tmp 75), none⟩,
                            ⟨some 77, .iaddr 1 (.tmp 65) (.tmp 66), none⟩,
                            ⟨none, .store 1 (.tmp 77) (.tmp 72), none⟩,
                            ⟨some 78, .iaddr 1 (.tmp 67) (.tmp 68), none⟩,
                            ⟨none, .store 1 (.tmp 78) (.tmp 76), none⟩] [64, 65, 66, 67, 68, 69, 70, 71, 72, 73, 74, 75, 76, 77, 78])
                        (.seq
                          (.region false [
                              ⟨some 79, .mov (.tmp 9), none⟩,
                              ⟨some 80, .bin .add 3 (.tmp 79) (.const (.int .i64 1)), none⟩,
                              ⟨some 9, .mov (.tmp 80), none⟩] [79, 80])
                          (.region false [
                              ⟨some 81, .mov (.tmp 10), none⟩,
                              ⟨some 82, .bin .sub 3 (.tmp 81) (.const (.int .i64 1)), none⟩,
                              ⟨some 10, .mov (.tmp 82), none⟩] [81, 82])))))) []) [] []) [0, 1, 10, 64])
          (.seq
            (.region false [
                ⟨some 83, .mov (.tmp 9), none⟩,
                ⟨some 8, .mov (.tmp 83), none⟩] [9, 83])
            .ret)))))
abbrev v_slices_partitionEqualOrdered_api_Addr : List RV := [.tmp 8]
abbrev f_slices_partitionEqualOrdered_api_Addr : FuncId := 45
theorem k_slices_partitionEqualOrdered_api_Addr : closedOf Try.prog Try.f45 = (false, some true, some v_slices_partitionEqualOrdered_api_Addr, some c_slices_partitionEqualOrdered_api_Addr.plain, 84) := by kernel_rfl
theorem ac_slices_partitionEqualOrdered_api_Addr {args : List AV} {r : AV} (h : aw Try.prog c_slices_partitionEqualOrdered_api_Addr (env0 args) (endQ v_slices_partitionEqualOrdered_api_Addr r)) (hargs : args.length ≤ 84 := by decide) (hok : resOK r = true := by rfl) : AC Try.prog f_slices_partitionEqualOrdered_api_Addr args r :=
  AC_mk (by kernel_rfl) Try.func45 k_slices_partitionEqualOrdered_api_Addr hargs hok (by decide) h
theorem am_slices_partitionEqualOrdered_api_Addr {args : List AV} {c0 c1 : List (Nat × List AV)} {r : AV} (h : aw Try.prog c_slices_partitionEqualOrdered_api_Addr (env0M args c0) (endM v_slices_partitionEqualOrdered_api_Addr r (c0.map (·.1)) c1)) (hc0 : ∀ q ∈ c0, 100000 ≤ q.1) (hargs : args.length ≤ 84 := by decide) (hok : resOK r = true := by rfl) : AM Try.prog f_slices_partitionEqualOrdered_api_Addr args c0 r c1 :=
  AM_mk (by kernel_rfl) Try.func45 k_slices_partitionEqualOrdered_api_Addr hargs hok (by decide) hc0 h

/-- slices.partitionOrdered[rivulet/api.Addr] (function 46) -/
def c_slices_partitionOrdered_api_Addr : ACode :=
  (.seq
    (.region false [
        ⟨some 8, .mov (.const (.int .i64 0)), none⟩,
        ⟨some 9, .mov (.const (.bool false)), none⟩] [8, 9])
    (.seq
      (.region true [
          ⟨some 12, .mov (.tmp 0), none⟩,
          ⟨some 13, .mov (.tmp 1), none⟩,
          ⟨some 14, .mov (.tmp 0), none⟩,
          ⟨some 15, .mov (.tmp 3), none⟩,
          ⟨some 16, .mov (.tmp 0), none⟩,
          ⟨some 17, .mov (.tmp 3), none⟩,
          ⟨some 18, .iaddr 1 (.tmp 16) (.tmp 17), none⟩,
          ⟨some 19, .load false 1 (.tmp 18), none⟩,
          ⟨some 20, .mov (.tmp 0), none⟩,
          ⟨some 21, .mov (.tmp 1), none⟩,
          ⟨some 22, .iaddr 1 (.tmp 20) (.tmp 21), none⟩,
          ⟨some 23, .load false 1 (.tmp 22), none⟩,
          ⟨some 24, .iaddr 1 (.tmp 12) (.tmp 13), none⟩,
          ⟨none, .store 1 (.tmp 24) (.tmp 19), none⟩,
          ⟨some 25, .iaddr 1 (.tmp 14) (.tmp 15), none⟩,
          ⟨none, .store 1 (.tmp 25) (.tmp 23), none⟩] [3, 12, 13, 14, 15, 16, 17, 18, 19, 20, 21, 22, 23, 24, 25])
      (.seq
        (.region false [
            ⟨some 26, .mov (.tmp 1), none⟩,
            ⟨some 27, .bin .add 3 (.tmp 26) (.const (.int .i64 1)), none⟩,
            ⟨some 28, .mov (.tmp 2), none⟩,
            ⟨some 29, .bin .sub 3 (.tmp 28) (.const (.int .i64 1)), none⟩,
            ⟨some 10, .mov (.tmp 27), none⟩,
            ⟨some 11, .mov (.tmp 29), none⟩] [2, 26, 27, 28, 29])
        (.seq
          (.block 0
            (.loop
              (.seq
                (.seq
                  (.region true [
                      ⟨some 30, .mov (.tmp 10), none⟩,
                      ⟨some 31, .mov (.tmp 11), none⟩,
                      ⟨some 32, .bin .leq 3 (.tmp 30) (.tmp 31), none⟩,
                      ⟨some 33, .mov (.tmp 32), none⟩,
                      ⟨some 34, .mov (.tmp 0), (some (33, true))⟩,
                      ⟨some 35, .mov (.tmp 10), (some (33, true))⟩,
                      ⟨some 36, .iaddr 1 (.tmp 34) (.tmp 35), (some (33, true))⟩,
                      ⟨some 37, .load false 1 (.tmp 36), (some (33, true))⟩,
                      ⟨some 38, .mov (.tmp 0), (some (33, true))⟩,
                      ⟨some 39, .mov (.tmp 1), (some (33, true))⟩,
                      ⟨some 40, .iaddr 1 (.tmp 38) (.tmp 39), (some (33, true))⟩,
                      ⟨some 41, .load false 1 (.tmp 40), (some (33, true))⟩,
                      ⟨some 42, .call 44 [.tmp 37, .tmp 41], (some (33, true))⟩,
                      ⟨some 43, .pick (.tmp 33) (.tmp 42) (.const (.bool false)), none⟩] [30, 31, 32, 33, 34, 35, 36, 37, 38, 39, 40, 41, 42])
                  (.cond (.tmp 43)
                    .skip
                    (.exit 0)))
                (.block 1
                  (.region false [
                      ⟨some 44, .mov (.tmp 10), none⟩,
                      ⟨some 45, .bin .add 3 (.tmp 44) (.const (.int .i64 1)), none⟩,
                      ⟨some 10, .mov (.tmp 45), none⟩] [43, 44, 45]) [])) [] []) [43])
          (.seq
            (.block 2
              (.loop
                (.seq
                  (.seq
                    (.region true [
                        ⟨some 46, .mov (.tmp 10), none⟩,
                        ⟨some 47, .mov (.tmp 11), none⟩,
                        ⟨some 48, .bin .leq 3 (.tmp 46) (.tmp 47), none⟩,
                        ⟨some 49, .mov (.tmp 48), none⟩,
                        ⟨some 50, .mov (.tmp 0), (some (49, true))⟩,
                        ⟨some 51, .mov (.tmp 11), (some (49, true))⟩,
                        ⟨some 52, .iaddr 1 (.tmp 50) (.tmp 51), (some (49, true))⟩,
                        ⟨some 53, .load false 1 (.tmp 52), (some (49, true))⟩,
                        ⟨some 54, .mov (.tmp 0), (some (49, true))⟩,
                        ⟨some 55, .mov (.tmp 1), (some (49, true))⟩,
                        ⟨some 56, .iaddr 1 (.tmp 54) (.tmp 55), (some (49, true))⟩,
                        ⟨some 57, .load false 1 (.tmp 56), (some (49, true))⟩,
                        ⟨some 58, .call 44 [.tmp 53, .tmp 57], (some (49, true))⟩,
                        ⟨some 59, .un .not (.tmp 58), (some (49, true))⟩,
                        ⟨some 60, .pick (.tmp 49) (.tmp 59) (.const (.bool false)), none⟩] [46, 47, 48, 49, 50, 51, 52, 53, 54, 55, 56, 57, 58, 59])
                    (.cond (.tmp 60)
                      .skip
                      (.exit 2)))
                  (.block 3
                    (.region false [
                        ⟨some 61, .mov (.tmp 11), none⟩,
                        ⟨some 62, .bin .sub 3 (.tmp 61) (.const (.int .i64 1)), none⟩,
                        ⟨some 11, .mov (.tmp 62), none⟩] [60, 61, 62]) [])) [] []) [60])
            (.seq
              (.seq
                (.region false [
                    ⟨some 63, .mov (.tmp 10), none⟩,
                    ⟨some 64, .mov (.tmp 11), none⟩,
                    ⟨some 65, .bin .gtr 3 (.tmp 63) (.tmp 64), none⟩] [63, 64])
                (.cond (.tmp 65)
                  (.seq
                    (.region true [
                        ⟨some 66, .mov (.tmp 0), none⟩,
                        ⟨some 67, .mov (.tmp 11), none⟩,
                        ⟨some 68, .mov (.tmp 0), none⟩,
                        ⟨some 69, .mov (.tmp 1), none⟩,
                        ⟨some 70, .mov (.tmp 0), none⟩,
                        ⟨some 71, .mov (.tmp 1), none⟩,
                        ⟨some 72, .iaddr 1 (.tmp 70) (.tmp 71), none⟩,
                        ⟨some 73, .load false 1 (.tmp 72), none⟩,
                        ⟨some 74, .mov (.tmp 0), none⟩,
                        ⟨some 75, .mov (.tmp 11), none⟩,
                        ⟨some 76, .iaddr 1 (.tmp 74) (.tmp 75), none⟩,
                        ⟨some 77, .load false 1 (.tmp 76), none⟩,
                        ⟨some 78, .iaddr 1 (.tmp 66) (.tmp 67), none⟩,
                        ⟨none, .store 1 (.tmp 78) (.tmp 73), none⟩,
                        ⟨some 79, .iaddr 1 (.tmp 68) (.tmp 69), none⟩,
                        ⟨none, .store 1 (.tmp 79) (.tmp 77), none⟩] [0, 1, 10, 65, 66, 67, 68, 69, 70, 71, 72, 73, 74, 75, 76, 77, 78, 79])
                    (.seq
                      (.region false [
                          ⟨some 80, .mov (.tmp 11), none⟩,
                          ⟨some 8, .mov (.tmp 80), none⟩,
                          ⟨some 9, .mov (.const (.bool true)), none⟩] [11, 80])
                      .ret))
                  .skip))
              (.seq
                (.region true [
                    ⟨some 81, .mov (.tmp 0), none⟩,
                    ⟨some 82, .mov (.tmp 10), none⟩,
                    ⟨some 83, .mov (.tmp 0), none⟩,
                    ⟨some 84, .mov (.tmp 11), none⟩,
                    ⟨some 85, .mov (.tmp 0), none⟩,
                    ⟨some 86, .mov (.tmp 11), none⟩,
                    ⟨some 87, .iaddr 1 (.tmp 85) (.tmp 86), none⟩,
                    ⟨some 88, .load false 1 (.tmp 87), none⟩,
                    ⟨some 89, .mov (.tmp 0), none⟩,
                    ⟨some 90, .mov (.tmp 10), none⟩,
                    ⟨some 91, .iaddr 1 (.tmp 89) (.tmp 90), none⟩,
                    ⟨some 92, .load false 1 (.tmp 91), none⟩,
                    ⟨some 93, .iaddr 1 (.tmp 81) (.tmp 82), none⟩,
                    ⟨none, .store 1 (.tmp 93) (.tmp 88), none⟩,
                    ⟨some 94, .iaddr 1 (.tmp 83) (.tmp 84), none⟩,
                    ⟨none, .store 1 (.tmp 94) (.tmp 92), none⟩] [65, 81, 82, 83, 84, 85, 86, 87, 88, 89, 90, 91, 92, 93, 94])
                (.seq
                  (.region false [
                      ⟨some 95, .mov (.tmp 10), none⟩,
                      ⟨some 96, .bin .add 3 (.tmp 95) (.const (.int .i64 1)), none⟩,
                      ⟨some 10, .mov (.tmp 96), none⟩] [95, 96])
                  (.seq
                    (.region false [
                        ⟨some 97, .mov (.tmp 11), none⟩,
                        ⟨some 98, .bin .sub 3 (.tmp 97) (.const (.int .i64 1)), none⟩,
                        ⟨some 11, .mov (.tmp 98), none⟩] [97, 98])
                    (.seq
                      (.block 4
                        (.loop
                          (.block 5
                            (.seq
                              (.block 6
                                (.loop
                                  (.seq
                                    (.seq
                                      (.region true [
                                          ⟨some 99, .mov (.tmp 10), none⟩,
                                          ⟨some 100, .mov (.tmp 11), none⟩,
                                          ⟨some 101, .bin .leq 3 (.tmp 99) (.tmp 100), none⟩,
                                          ⟨some 102, .mov (.tmp 101), none⟩,
                                          ⟨some 103, .mov (.tmp 0), (some (102, true))⟩,
                                          ⟨some 104, .mov (.tmp 10), (some (102, true))⟩,
                                          ⟨some 105, .iaddr 1 (.tmp 103) (.tmp 104), (some (102, true))⟩,
                                          ⟨some 106, .load false 1 (.tmp 105), (some (102, true))⟩,
                                          ⟨some 107, .mov (.tmp 0), (some (102, true))⟩,
                                          ⟨some 108, .mov (.tmp 1), (some (102, true))⟩,
                                          ⟨some 109, .iaddr 1 (.tmp 107) (.tmp 108), (some (102, true))⟩,
                                          ⟨some 110, .load false 1 (.tmp 109), (some (102, true))⟩,
                                          ⟨some 111, .call 44 [.tmp 106, .tmp 110], (some (102, true))⟩,
                                          ⟨some 112, .pick (.tmp 102) (.tmp 111) (.const (.bool false)), none⟩] [99, 100, 101, 102, 103, 104, 105, 106, 107, 108, 109, 110, 111])
                                      (.cond (.tmp 112)
                                        .skip
                                        (.exit 6)))
                                    (.block 7
                                      (.region false [
                                          ⟨some 113, .mov (.tmp 10), none⟩,
                                          ⟨some 114, .bin .add 3 (.tmp 113) (.const (.int .i64 1)), none⟩,
                                          ⟨some 10, .mov (.tmp 114), none⟩] [112, 113, 114]) [])) [] []) [112])
                              (.seq
                                (.block 8
                                  (.loop
                                    (.seq
                                      (.seq
                                        (.region true [
                                            ⟨some 115, .mov (.tmp 10), none⟩,
                                            ⟨some 116, .mov (.tmp 11), none⟩,
                                            ⟨some 117, .bin .leq 3 (.tmp 115) (.tmp 116), none⟩,
                                            ⟨some 118, .mov (.tmp 117), none⟩,
                                            ⟨some 119, .mov (.tmp 0), (some (118, true))⟩,
                                            ⟨some 120, .mov (.tmp 11), (some (118, true))⟩,
                                            ⟨some 121, .iaddr 1 (.tmp 119) (.tmp 120), (some (118, true))⟩,
                                            ⟨some 122, .load false 1 (.tmp 121), (some (118, true))⟩,
                                            ⟨some 123, .mov (.tmp 0), (some (118, true))⟩,
                                            ⟨some 124, .mov (.tmp 1), (some (118, true))⟩,
                                            ⟨some 125, .iaddr 1 (.tmp 123) (.tmp 124), (some (118, true))⟩,
                                            ⟨some 126, .load false 1 (.tmp 125), (some (118, true))⟩,
                                            ⟨some 127, .call 44 [.tmp 122, .tmp 126], (some (118, true))⟩,
                                            ⟨some 128, .un .not (.tmp 127), (some (118, true))⟩,
                                            ⟨some 129, .pick (.tmp 118) (.tmp 128) (.const (.bool false)), none⟩] [115, 116, 117, 118, 119, 120, 121, 122, 123, 124, 125, 126, 127, 128])
                                        (.cond (.tmp 129)
                                          .skip
                                          (.exit 8)))
                                      (.block 9
                                        (.region false [
                                            ⟨some 130, .mov (.tmp 11), none⟩,
                                            ⟨some 131, .bin .sub 3 (.tmp 130) (.const (.int .i64 1)), none⟩,
                                            ⟨some 11, .mov (.tmp 131), none⟩] [129, 130, 131]) [])) [] []) [129])
                                (.seq
                                  (.seq
                                    (.region false [
                                        ⟨some 132, .mov (.tmp 10), none⟩,
                                        ⟨some 133, .mov (.tmp 11), none⟩,
                                        ⟨some 134, .bin .gtr 3 (.tmp 132) (.tmp 133), none⟩] [132, 133])
                                    (.cond (.tmp 134)
                                      (.exit 4)
                                      .skip))
                                  (.seq
                                    (.region true [
                                        ⟨some 135, .mov (.tmp 0), none⟩,
                                        ⟨some 136, .mov (.tmp 10), none⟩,
                                        ⟨some 137, .mov (.tmp 0), none⟩,
                                        ⟨some 138, .mov (.tmp 11), none⟩,
                                        ⟨some 139, .mov (.tmp 0), none⟩,
                                        ⟨some 140, .mov (.tmp 11), none⟩,
                                        ⟨some 141, .iaddr 1 (.tmp 139) (.tmp 140), none⟩,
                                        ⟨some 142, .load false 1 (.tmp 141), none⟩,
                                        ⟨some 143, .mov (.tmp 0), none⟩,
                                        ⟨some 144, .mov (.tmp 10), none⟩,
                                        ⟨some 145, .iaddr 1 (.tmp 143) (.tmp 144), none⟩,
                                        ⟨some 146, .load false 1 (.tmp 145), none⟩,
                                        ⟨some 147, .iaddr 1 (.tmp 135) (.tmp 136), none⟩,
                                        ⟨none, .store 1 (.tmp 147) (.tmp 142), none⟩,
                                        ⟨some 148, .iaddr 1 (.tmp 137) (.tmp 138), none⟩,
                                        ⟨none, .store 1 (.tmp 148) (.tmp 146), none⟩] [134, 135, 136, 137, 138, 139, 140, 141, 142, 143, 144, 145, 146, 147, 148])
                                    (.seq
                                      (.region false [
                                          ⟨some 149, .mov (.tmp 10), none⟩,
                                          ⟨some 150, .bin .add 3 (.tmp 149) (.const (.int .i64 1)), none⟩,
                                          ⟨some 10, .mov (.tmp 150), none⟩] [149, 150])
                                      (.region false [
                                          ⟨some 151, .mov (.tmp 11), none⟩,
                                          ⟨some 152, .bin .sub 3 (.tmp 151) (.const (.int .i64 1)), none⟩,
                                          ⟨some 11, .mov (.tmp 152), none⟩] [151, 152])))))) []) [] []) [10, 134])
                      (.seq
                        (.region true [
                            ⟨some 153, .mov (.tmp 0), none⟩,
                            ⟨some 154, .mov (.tmp 11), none⟩,
                            ⟨some 155, .mov (.tmp 0), none⟩,
                            ⟨some 156, .mov (.tmp 1), none⟩,
                            ⟨some 157, .mov (.tmp 0), none⟩,
                            ⟨some 158, .mov (.tmp 1), none⟩,
                            ⟨some 159, .iaddr 1 (.tmp 157) (.tmp 158), none⟩,
                            ⟨some 160, .load false 1 (.tmp 159), none⟩,
                            ⟨some 161, .mov (.tmp 0), none⟩,
                            ⟨some 162, .mov (.tmp 11), none⟩,
                            ⟨some 163, .iaddr 1 (.tmp 161) (.tmp 162), none⟩,
                            ⟨some 164, .load false 1 (.tmp 163), none⟩,
                            ⟨some 165, .iaddr 1 (.tmp 153) (.tmp 154), none⟩,
                            ⟨none, .store 1 (.tmp 165) (.tmp 160), none⟩,
                            ⟨some 166, .iaddr 1 (.tmp 155) (.tmp 156), none⟩,
                            ⟨none, .store 1 (.tmp 166) (.tmp 164), none⟩] [0, 1, 153, 154, 155, 156, 157, 158, 159, 160, 161, 162, 163, 164, 165, 166])
                        (.seq
                          (.region false [
                              ⟨some 167, .mov (.tmp 11), none⟩,
                              ⟨some 8, .mov (.tmp 167), none⟩,
                              ⟨some 9, .mov (.const (.bool false)), none⟩] [11, 167])
                          .ret))))))))))))
abbrev v_slices_partitionOrdered_api_Addr : List RV := [.tmp 8, .tmp 9]
abbrev f_slices_partitionOrdered_api_Addr : FuncId := 46
theorem k_slices_partitionOrdered_api_Addr : closedOf Try.prog Try.f46 = (false, some true, some v_slices_partitionOrdered_api_Addr, some c_slices_partitionOrdered_api_Addr.plain, 168) := by kernel_rfl
theorem ac_slices_partitionOrdered_api_Addr {args : List AV} {r : AV} (h : aw Try.prog c_slices_partitionOrdered_api_Addr (env0 args) (endQ v_slices_partitionOrdered_api_Addr r)) (hargs : args.length ≤ 168 := by decide) (hok : resOK r = true := by rfl) : AC Try.prog f_slices_partitionOrdered_api_Addr args r :=
  AC_mk (by kernel_rfl) Try.func46 k_slices_partitionOrdered_api_Addr hargs hok (by decide) h
theorem am_slices_partitionOrdered_api_Addr {args : List AV} {c0 c1 : List (Nat × List AV)} {r : AV} (h : aw Try.prog c_slices_partitionOrdered_api_Addr (env0M args c0) (endM v_slices_partitionOrdered_api_Addr r (c0.map (·.1)) c1)) (hc0 : ∀ q ∈ c0, 100000 ≤ q.1) (hargs : args.length ≤ 168 := by decide) (hok : resOK r = true := by rfl) : AM Try.prog f_slices_partitionOrdered_api_Addr args c0 r c1 :=
  AM_mk (by kernel_rfl) Try.func46 k_slices_partitionOrdered_api_Addr hargs hok (by decide) hc0 h

/-- math/bits.Len32 (function 47) -/
def c_math_bits_Len32 : ACode :=
  (.seq
    (.region false [
        ⟨some 2, .mov (.const (.int .i64 0)), none⟩] [])
    (.seq
      (.seq
        (.region false [
            ⟨some 3, .mov (.tmp 0), none⟩,
            ⟨some 4, .bin .geq 22 (.tmp 3) (.const (.int .u32 65536)), none⟩] [3])
        (.cond (.tmp 4)
          (.seq
            (.region false [
                ⟨some 5, .mov (.tmp 0), none⟩,
                ⟨some 6, .bin .shr 22 (.tmp 5) (.const (.int .u64 16)), none⟩,
                ⟨some 0, .mov (.tmp 6), none⟩] [2, 4, 5, 6])
            (.region false [
                ⟨some 2, .mov (.const (.int .i64 16)), none⟩] []))
          .skip))
      (.seq
        (.seq
          (.region false [
              ⟨some 7, .mov (.tmp 0), none⟩,
              ⟨some 8, .bin .geq 22 (.tmp 7) (.const (.int .u32 256)), none⟩] [4, 7])
          (.cond (.tmp 8)
            (.seq
              (.region false [
                  ⟨some 9, .mov (.tmp 0), none⟩,
                  ⟨some 10, .bin .shr 22 (.tmp 9) (.const (.int .u64 8)), none⟩,
                  ⟨some 0, .mov (.tmp 10), none⟩] [8, 9, 10])
              (.region false [
                  ⟨some 11, .mov (.tmp 2), none⟩,
                  ⟨some 12, .bin .add 3 (.tmp 11) (.const (.int .i64 8)), none⟩,
                  ⟨some 2, .mov (.tmp 12), none⟩] [11, 12]))
            .skip))
        (.seq
          (.region false [
              ⟨some 13, .mov (.tmp 2), none⟩,
              ⟨some 14, .mov (.tmp 0), none⟩,
              ⟨some 15, .cint .u8 (.tmp 14), none⟩,
              ⟨some 16, .idxs (.const (.string ⟨#[0, 1, 2, 2, 3, 3, 3, 3, 4, 4, 4, 4, 4, 4, 4, 4, 5, 5, 5, 5, 5, 5, 5, 5, 5, 5, 5, 5, 5, 5, 5, 5, 6, 6, 6, 6, 6, 6, 6, 6, 6, 6, 6, 6, 6, 6, 6, 6, 6, 6, 6, 6, 6, 6, 6, 6, 6, 6, 6, 6, 6, 6, 6, 6, 7, 7, 7, 7, 7, 7, 7, 7, 7, 7, 7, 7, 7, 7, 7, 7, 7, 7, 7, 7, 7, 7, 7, 7, 7, 7, 7, 7, 7, 7, 7, 7, 7, 7, 7, 7, 7, 7, 7, 7, 7, 7, 7, 7, 7, 7, 7, 7, 7, 7, 7, 7, 7, 7, 7, 7, 7, 7, 7, 7, 7, 7, 7, 7, 8, 8, 8, 8, 8, 8, 8, 8, 8, 8, 8, 8, 8, 8, 8, 8, 8, 8, 8, 8, 8, 8, 8, 8, 8, 8, 8, 8, 8, 8, 8, 8, 8, 8, 8, 8, 8, 8, 8, 8, 8, 8, 8, 8, 8, 8, 8, 8, 8, 8, 8, 8, 8, 8, 8, 8, 8, 8, 8, 8, 8, 8, 8, 8, 8, 8, 8, 8, 8, 8, 8, 8, 8, 8, 8, 8, 8, 8, 8, 8, 8, 8, 8, 8, 8, 8, 8, 8, 8, 8, 8, 8, 8, 8, 8, 8, 8, 8, 8, 8, 8, 8, 8, 8, 8, 8, 8, 8, 8, 8, 8, 8, 8, 8, 8, 8, 8, 8, 8, 8, 8, 8, 8, 8, 8, 8, 8, 8]⟩)) (.tmp 15), none⟩,
              ⟨some 17, .cint .i64 (.tmp 16), none⟩,
              ⟨some 18, .bin .add 3 (.tmp 13) (.tmp 17), none⟩,
              ⟨some 2, .mov (.tmp 18), none⟩] [0, 8, 13, 14, 15, 16, 17, 18])
          .ret))))
abbrev v_math_bits_Len32 : List RV := [.tmp 2]
abbrev f_math_bits_Len32 : FuncId := 47
theorem k_math_bits_Len32 : closedOf Try.prog Try.f47 = (false, some true, some v_math_bits_Len32, some c_math_bits_Len32.plain, 19) := by kernel_rfl
theorem ac_math_bits_Len32 {args : List AV} {r : AV} (h : aw Try.prog c_math_bits_Len32 (env0 args) (endQ v_math_bits_Len32 r)) (hargs : args.length ≤ 19 := by decide) (hok : resOK r = true := by rfl) : AC Try.prog f_math_bits_Len32 args r :=
  AC_mk (by kernel_rfl) Try.func47 k_math_bits_Len32 hargs hok (by decide) h
theorem am_math_bits_Len32 {args : List AV} {c0 c1 : List (Nat × List AV)} {r : AV} (h : aw Try.prog c_math_bits_Len32 (env0M args c0) (endM v_math_bits_Len32 r (c0.map (·.1)) c1)) (hc0 : ∀ q ∈ c0, 100000 ≤ q.1) (hargs : args.length ≤ 19 := by decide) (hok : resOK r = true := by rfl) : AM Try.prog f_math_bits_Len32 args c0 r c1 :=
  AM_mk (by kernel_rfl) Try.func47 k_math_bits_Len32 hargs hok (by decide) hc0 h

/-- math/bits.Len64 (function 48) -/
def c_math_bits_Len64 : ACode :=
  (.seq
    (.region false [
        ⟨some 2, .mov (.const (.int .i64 0)), none⟩] [])
    (.seq
      (.seq
        (.region false [
            ⟨some 3, .mov (.tmp 0), none⟩,
            ⟨some 4, .bin .geq 75 (.tmp 3) (.const (.int .u64 4294967296)), none⟩] [3])
        (.cond (.tmp 4)
          (.seq
            (.region false [
                ⟨some 5, .mov (.tmp 0), none⟩,
                ⟨some 6, .bin .shr 75 (.tmp 5) (.const (.int .u64 32)), none⟩,
                ⟨some 0, .mov (.tmp 6), none⟩] [2, 4, 5, 6])
            (.region false [
                ⟨some 2, .mov (.const (.int .i64 32)), none⟩] []))
          .skip))
      (.seq
        (.seq
          (.region false [
              ⟨some 7, .mov (.tmp 0), none⟩,
              ⟨some 8, .bin .geq 75 (.tmp 7) (.const (.int .u64 65536)), none⟩] [4, 7])
          (.cond (.tmp 8)
            (.seq
              (.region false [
                  ⟨some 9, .mov (.tmp 0), none⟩,
                  ⟨some 10, .bin .shr 75 (.tmp 9) (.const (.int .u64 16)), none⟩,
                  ⟨some 0, .mov (.tmp 10), none⟩] [8, 9, 10])
              (.region false [
                  ⟨some 11, .mov (.tmp 2), none⟩,
                  ⟨some 12, .bin .add 3 (.tmp 11) (.const (.int .i64 16)), none⟩,
                  ⟨some 2, .mov (.tmp 12), none⟩] [11, 12]))
            .skip))
        (.seq
          (.seq
            (.region false [
                ⟨some 13, .mov (.tmp 0), none⟩,
                ⟨some 14, .bin .geq 75 (.tmp 13) (.const (.int .u64 256)), none⟩] [8, 13])
            (.cond (.tmp 14)
              (.seq
                (.region false [
                    ⟨some 15, .mov (.tmp 0), none⟩,
                    ⟨some 16, .bin .shr 75 (.tmp 15) (.const (.int .u64 8)), none⟩,
                    ⟨some 0, .mov (.tmp 16), none⟩] [14, 15, 16])
                (.region false [
                    ⟨some 17, .mov (.tmp 2), none⟩,
                    ⟨some 18, .bin .add 3 (.tmp 17) (.const (.int .i64 8)), none⟩,
                    ⟨some 2, .mov (.tmp 18), none⟩] [17, 18]))
              .skip))
          (.seq
            (.region false [
                ⟨some 19, .mov (.tmp 2), none⟩,
                ⟨some 20, .mov (.tmp 0), none⟩,
                ⟨some 21, .cint .u8 (.tmp 20), none⟩,
                ⟨some 22, .idxs (.const (.string ⟨#[0, 1, 2, 2, 3, 3, 3, 3, 4, 4, 4, 4, 4, 4, 4, 4, 5, 5, 5, 5, 5, 5, 5, 5, 5, 5, 5, 5, 5, 5, 5, 5, 6, 6, 6, 6, 6, 6, 6, 6, 6, 6, 6, 6, 6, 6, 6, 6, 6, 6, 6, 6, 6, 6, 6, 6, 6, 6, 6, 6, 6, 6, 6, 6, 7, 7, 7, 7, 7, 7, 7, 7, 7, 7, 7, 7, 7, 7, 7, 7, 7, 7, 7, 7, 7, 7, 7, 7, 7, 7, 7, 7, 7, 7, 7, 7, 7, 7, 7, 7, 7, 7, 7, 7, 7, 7, 7, 7, 7, 7, 7, 7, 7, 7, 7, 7, 7, 7, 7, 7, 7, 7, 7, 7, 7, 7, 7, 7, 8, 8, 8, 8, 8, 8, 8, 8, 8, 8, 8, 8, 8, 8, 8, 8, 8, 8, 8, 8, 8, 8, 8, 8, 8, 8, 8, 8, 8, 8, 8, 8, 8, 8, 8, 8, 8, 8, 8, 8, 8, 8, 8, 8, 8, 8, 8, 8, 8, 8, 8, 8, 8, 8, 8, 8, 8, 8, 8, 8, 8, 8, 8, 8, 8, 8, 8, 8, 8, 8, 8, 8, 8, 8, 8, 8, 8, 8, 8, 8, 8, 8, 8, 8, 8, 8, 8, 8, 8, 8, 8, 8, 8, 8, 8, 8, 8, 8, 8, 8, 8, 8, 8, 8, 8, 8, 8, 8, 8, 8, 8, 8, 8, 8, 8, 8, 8, 8, 8, 8, 8, 8, 8, 8, 8, 8, 8, 8]⟩)) (.tmp 21), none⟩,
                ⟨some 23, .cint .i64 (.tmp 22), none⟩,
                ⟨some 24, .bin .add 3 (.tmp 19) (.tmp 23), none⟩,
                ⟨some 2, .mov (.tmp 24), none⟩] [0, 14, 19, 20, 21, 22, 23, 24])
            .ret)))))
abbrev v_math_bits_Len64 : List RV := [.tmp 2]
abbrev f_math_bits_Len64 : FuncId := 48
theorem k_math_bits_Len64 : closedOf Try.prog Try.f48 = (false, some true, some v_math_bits_Len64, some c_math_bits_Len64.plain, 25) := by kernel_rfl
theorem ac_math_bits_Len64 {args : List AV} {r : AV} (h : aw Try.prog c_math_bits_Len64 (env0 args) (endQ v_math_bits_Len64 r)) (hargs : args.length ≤ 25 := by decide) (hok : resOK r = true := by rfl) : AC Try.prog f_math_bits_Len64 args r :=
  AC_mk (by kernel_rfl) Try.func48 k_math_bits_Len64 hargs hok (by decide) h
theorem am_math_bits_Len64 {args : List AV} {c0 c1 : List (Nat × List AV)} {r : AV} (h : aw Try.prog c_math_bits_Len64 (env0M args c0) (endM v_math_bits_Len64 r (c0.map (·.1)) c1)) (hc0 : ∀ q ∈ c0, 100000 ≤ q.1) (hargs : args.length ≤ 25 := by decide) (hok : resOK r = true := by rfl) : AM Try.prog f_math_bits_Len64 args c0 r c1 :=
  AM_mk (by kernel_rfl) Try.func48 k_math_bits_Len64 hargs hok (by decide) hc0 h

/-- slices.siftDownOrdered[rivulet/api.Addr] (function 49) -/
def c_slices_siftDownOrdered_api_Addr : ACode :=
  (.seq
    (.region false [
        ⟨some 10, .mov (.tmp 1), none⟩,
        ⟨some 8, .mov (.tmp 10), none⟩] [1, 10])
    (.block 0
      (.loop
        (.block 1
          (.seq
            (.region false [
                ⟨some 11, .mov (.tmp 8), none⟩,
                ⟨some 12, .bin .mul 3 (.const (.int .i64 2)) (.tmp 11), none⟩,
                ⟨some 13, .bin .add 3 (.tmp 12) (.const (.int .i64 1)), none⟩,
                ⟨some 9, .mov (.tmp 13), none⟩] [11, 12, 13])
            (.seq
              (.seq
                (.region false [
                    ⟨some 14, .mov (.tmp 9), none⟩,
                    ⟨some 15, .mov (.tmp 2), none⟩,
                    ⟨some 16, .bin .geq 3 (.tmp 14) (.tmp 15), none⟩] [14, 15])
                (.cond (.tmp 16)
                  (.exit 0)
                  .skip))
              (.seq
                (.seq
                  (.region true [
                      ⟨some 17, .mov (.tmp 9), none⟩,
                      ⟨some 18, .bin .add 3 (.tmp 17) (.const (.int .i64 1)), none⟩,
                      ⟨some 19, .mov (.tmp 2), none⟩,
                      ⟨some 20, .bin .lss 3 (.tmp 18) (.tmp 19), none⟩,
                      ⟨some 21, .mov (.tmp 20), none⟩,
                      ⟨some 22, .mov (.tmp 0), (some (21, true))⟩,
                      ⟨some 23, .mov (.tmp 3), (some (21, true))⟩,
                      ⟨some 24, .mov (.tmp 9), (some (21, true))⟩,
                      ⟨some 25, .bin .add 3 (.tmp 23) (.tmp 24), (some (21, true))⟩,
                      ⟨some 26, .iaddr 1 (.tmp 22) (.tmp 25), (some (21, true))⟩,
                      ⟨some 27, .load false 1 (.tmp 26), (some (21, true))⟩,
                      ⟨some 28, .mov (.tmp 0), (some (21, true))⟩,
                      ⟨some 29, .mov (.tmp 3), (some (21, true))⟩,
                      ⟨some 30, .mov (.tmp 9), (some (21, true))⟩,
                      ⟨some 31, .bin .add 3 (.tmp 29) (.tmp 30), (some (21, true))⟩,
                      ⟨some 32, .bin .add 3 (.tmp 31) (.const (.int .i64 1)), (some (21, true))⟩,
                      ⟨some 33, .iaddr 1 (.tmp 28) (.tmp 32), (some (21, true))⟩,
                      ⟨some 34, .load false 1 (.tmp 33), (some (21, true))⟩,
                      ⟨some 35, .call 44 [.tmp 27, .tmp 34], (some (21, true))⟩,
                      ⟨some 36, .pick (.tmp 21) (.tmp 35) (.const (.bool false)), none⟩] [16, 17, 18, 19, 20, 21, 22, 23, 24, 25, 26, 27, 28, 29, 30, 31, 32, 33, 34, 35])
                  (.cond (.tmp 36)
                    (.region false [
                        ⟨some 37, .mov (.tmp 9), none⟩,
                        ⟨some 38, .bin .add 3 (.tmp 37) (.const (.int .i64 1)), none⟩,
                        ⟨some 9, .mov (.tmp 38), none⟩] [36, 37, 38])
                    .skip))
                (.seq
                  (.seq
                    (.region true [
                        ⟨some 39, .mov (.tmp 0), none⟩,
                        ⟨some 40, .mov (.tmp 3), none⟩,
                        ⟨some 41, .mov (.tmp 8), none⟩,
                        ⟨some 42, .bin .add 3 (.tmp 40) (.tmp 41), none⟩,
                        ⟨some 43, .iaddr 1 (.tmp 39) (.tmp 42), none⟩,
                        ⟨some 44, .load false 1 (.tmp 43), none⟩,
                        ⟨some 45, .mov (.tmp 0), none⟩,
                        ⟨some 46, .mov (.tmp 3), none⟩,
                        ⟨some 47, .mov (.tmp 9), none⟩,
                        ⟨some 48, .bin .add 3 (.tmp 46) (.tmp 47), none⟩,
                        ⟨some 49, .iaddr 1 (.tmp 45) (.tmp 48), none⟩,
                        ⟨some 50, .load false 1 (.tmp 49), none⟩,
                        ⟨some 51, .call 44 [.tmp 44, .tmp 50], none⟩,
                        ⟨some 52, .un .not (.tmp 51), none⟩] [36, 39, 40, 41, 42, 43, 44, 45, 46, 47, 48, 49, 50, 51])
                    (.cond (.tmp 52)
                      .ret
                      .skip))
                  (.seq
                    (.region true [
                        ⟨some 53, .mov (.tmp 0), none⟩,
                        ⟨some 54, .mov (.tmp 3), none⟩,
                        ⟨some 55, .mov (.tmp 8), none⟩,
                        ⟨some 56, .bin .add 3 (.tmp 54) (.tmp 55), none⟩,
                        ⟨some 57, .mov (.tmp 0), none⟩,
                        ⟨some 58, .mov (.tmp 3), none⟩,
                        ⟨some 59, .mov (.tmp 9), none⟩,
                        ⟨some 60, .bin .add 3 (.tmp 58) (.tmp 59), none⟩,
                        ⟨some 61, .mov (.tmp 0), none⟩,
                        ⟨some 62, .mov (.tmp 3), none⟩,
                        ⟨some 63, .mov (.tmp 9), none⟩,
                        ⟨some 64, .bin .add 3 (.tmp 62) (.tmp 63), none⟩,
                        ⟨some 65, .iaddr 1 (.tmp 61) (.tmp 64), none⟩,
                        ⟨some 66, .load false 1 (.tmp 65), none⟩,
                        ⟨some 67, .mov (.tmp 0), none⟩,
                        ⟨some 68, .mov (.tmp 3), none⟩,
                        ⟨some 69, .mov (.tmp 8), none⟩,
                        ⟨some 70, .bin .add 3 (.tmp 68) (.tmp 69), none⟩,
                        ⟨some 71, .iaddr 1 (.tmp 67) (.tmp 70), none⟩,
                        ⟨some 72, .load false 1 (.tmp 71), none⟩,
                        ⟨some 73, .iaddr 1 (.tmp 53) (.tmp 56), none⟩,
                        ⟨none, .store 1 (.tmp 73) (.tmp 66), none⟩,
                        ⟨some 74, .iaddr 1 (.tmp 57) (.tmp 60), none⟩,
                        ⟨none, .store 1 (.tmp 74) (.tmp 72), none⟩] [8, 52, 53, 54, 55, 56, 57, 58, 59, 60, 61, 62, 63, 64, 65, 66, 67, 68, 69, 70, 71, 72, 73, 74])
                    (.region false [
                        ⟨some 75, .mov (.tmp 9), none⟩,
                        ⟨some 8, .mov (.tmp 75), none⟩] [9, 75])))))) []) [] []) [0, 2, 3, 8, 9, 16]))
abbrev v_slices_siftDownOrdered_api_Addr : List RV := []
abbrev f_slices_siftDownOrdered_api_Addr : FuncId := 49
theorem k_slices_siftDownOrdered_api_Addr : closedOf Try.prog Try.f49 = (false, some true, some v_slices_siftDownOrdered_api_Addr, some c_slices_siftDownOrdered_api_Addr.plain, 76) := by kernel_rfl
theorem ac_slices_siftDownOrdered_api_Addr {args : List AV} {r : AV} (h : aw Try.prog c_slices_siftDownOrdered_api_Addr (env0 args) (endQ v_slices_siftDownOrdered_api_Addr r)) (hargs : args.length ≤ 76 := by decide) (hok : resOK r = true := by rfl) : AC Try.prog f_slices_siftDownOrdered_api_Addr args r :=
  AC_mk (by kernel_rfl) Try.func49 k_slices_siftDownOrdered_api_Addr hargs hok (by decide) h
theorem am_slices_siftDownOrdered_api_Addr {args : List AV} {c0 c1 : List (Nat × List AV)} {r : AV} (h : aw Try.prog c_slices_siftDownOrdered_api_Addr (env0M args c0) (endM v_slices_siftDownOrdered_api_Addr r (c0.map (·.1)) c1)) (hc0 : ∀ q ∈ c0, 100000 ≤ q.1) (hargs : args.length ≤ 76 := by decide) (hok : resOK r = true := by rfl) : AM Try.prog f_slices_siftDownOrdered_api_Addr args c0 r c1 :=
  AM_mk (by kernel_rfl) Try.func49 k_slices_siftDownOrdered_api_Addr hargs hok (by decide) hc0 h


end Go.Proofs.Ytmjmfollimaleaa.VL
