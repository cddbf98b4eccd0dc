import Derived.Test.YtobofhbklfallaaGreatDoorProg
import Derived.Test.YtobofhbklfallaaGreatDoorGa7
set_option linter.unusedVariables false
set_option linter.unusedSimpArgs false
section
set_option maxRecDepth 100000
namespace Go.Proofs.YtobofhbklfallaaGreatDoor.VL
open Go.Proofs
def c_q1 : ACode :=
 (.seq
 (.region false [
 ⟨some 2, .box (.tmp 0), none⟩,
 ⟨some 4, .mov (.const (.bool false)), none⟩] [0, 4])
 (.seq
 (.region false [
 ⟨some 16, .callm 26 [], none⟩,
 ⟨some 5, .mov (.tmp 16), none⟩] [16])
 (.seq
 (.seq
 (.region false [
 ⟨some 17, .mov (.tmp 5), none⟩,
 ⟨some 18, .un .not (.tmp 17), none⟩] [17])
 (.cond (.tmp 18)
 (.seq
 (.region false [
 ⟨some 4, .mov (.const (.bool false)), none⟩] [1, 2, 5, 18])
 .ret)
 .skip))
 (.seq
 (.seq
 (.region false [
 ⟨some 19, .load true 7 (.tmp 2), none⟩,
 ⟨some 20, .callm 20 [.tmp 19, .const (.int .i64 8)], none⟩,
 ⟨some 21, .un .not (.tmp 20), none⟩] [18, 19, 20])
 (.cond (.tmp 21)
 (.seq
 (.region false [
 ⟨some 22, .mov (.tmp 5), none⟩,
 ⟨some 4, .mov (.tmp 22), none⟩] [1, 2, 5, 21, 22])
 .ret)
 .skip))
 (.seq
 (.region false [
 ⟨some 24, .load true 7 (.tmp 2), none⟩,
 ⟨some 25, .callm 21 [.tmp 24], none⟩,
 ⟨some 23, .mov (.tmp 25), none⟩,
 ⟨some 26, .ext (.tmp 23) 0, none⟩,
 ⟨some 27, .ext (.tmp 23) 1, none⟩,
 ⟨some 6, .mov (.tmp 26), none⟩,
 ⟨some 7, .mov (.tmp 27), none⟩] [21, 23, 24, 25, 26, 27])
 (.seq
 (.seq
 (.region false [
 ⟨some 28, .mov (.tmp 6), none⟩,
 ⟨some 29, .eqp false (.tmp 28), none⟩,
 ⟨some 30, .mov (.tmp 29), none⟩,
 ⟨some 31, .mov (.tmp 7), (some (30, false))⟩,
 ⟨some 32, .eqn true (.tmp 31), (some (30, false))⟩,
 ⟨some 33, .pick (.tmp 30) (.const (.bool true)) (.tmp 32), none⟩] [7, 28, 29, 30, 31, 32])
 (.cond (.tmp 33)
 (.seq
 (.region false [
 ⟨some 4, .mov (.const (.bool false)), none⟩] [1, 2, 5, 6, 33])
 .ret)
 .skip))
 (.seq
 (.region false [
 ⟨some 35, .mov (.tmp 6), none⟩,
 ⟨some 36, .mov (.tmp 1), none⟩,
 ⟨some 37, .callm 27 [.tmp 35, .tmp 36], none⟩,
 ⟨some 34, .mov (.tmp 37), none⟩,
 ⟨some 38, .ext (.tmp 34) 0, none⟩,
 ⟨some 39, .ext (.tmp 34) 1, none⟩,
 ⟨some 8, .mov (.tmp 38), none⟩,
 ⟨some 9, .mov (.tmp 39), none⟩] [33, 34, 35, 36, 37, 38, 39])
 (.seq
 (.region false [
 ⟨some 10, .mov (.const (.int .i64 0)), none⟩] [])
 (.seq
 (.seq
 (.region false [
 ⟨some 11, .mov (.const (.int .i64 0)), none⟩] [])
 (.block 0
 (.loop
 (.seq
 (.seq
 (.region false [
 ⟨some 40, .mov (.tmp 11), none⟩,
 ⟨some 41, .faddr 0 1 (.tmp 2), none⟩,
 ⟨some 42, .load false 1 (.tmp 41), none⟩,
 ⟨some 43, .lenl (.tmp 42), none⟩,
 ⟨some 44, .bin .lss 3 (.tmp 40) (.tmp 43), none⟩] [40, 41, 42, 43])
 (.cond (.tmp 44)
 .skip
 (.exit 0)))
 (.seq
 (.block 1
 (.seq
 (.region false [
 ⟨some 47, .mov (.tmp 6), none⟩,
 ⟨some 48, .mov (.tmp 11), none⟩,
 ⟨some 49, .mov (.tmp 1), none⟩,
 ⟨some 50, .callm 28 [.tmp 47, .tmp 48, .tmp 49], none⟩] [44, 47, 48, 49])
 (.cond (.tmp 50)
 (.seq
 (.region false [
 ⟨some 51, .mov (.tmp 10), none⟩,
 ⟨some 52, .bin .add 3 (.tmp 51) (.const (.int .i64 1)), none⟩,
 ⟨some 10, .mov (.tmp 52), none⟩] [50, 51, 52])
 (.seq
 (.region false [
 ⟨some 53, .mov (.tmp 9), none⟩,
 ⟨some 54, .un .not (.tmp 53), none⟩,
 ⟨some 55, .mov (.tmp 54), none⟩,
 ⟨some 56, .mov (.tmp 8), (some (55, false))⟩,
 ⟨some 57, .mov (.tmp 11), (some (55, false))⟩,
 ⟨some 58, .bin .neq 3 (.tmp 56) (.tmp 57), (some (55, false))⟩,
 ⟨some 59, .pick (.tmp 55) (.const (.bool true)) (.tmp 58), none⟩] [53, 54, 55, 56, 57, 58])
 (.cond (.tmp 59)
 (.seq
 (.region false [
 ⟨some 4, .mov (.const (.bool false)), none⟩] [1, 2, 5, 6, 8, 9, 10, 11, 59])
 .ret)
 .skip)))
 .skip)) [50, 59])
 (.region false [
 ⟨some 45, .mov (.tmp 11), none⟩,
 ⟨some 46, .bin .add 3 (.tmp 45) (.const (.int .i64 1)), none⟩,
 ⟨some 11, .mov (.tmp 46), none⟩] [45, 46]))) [] []) [11, 44]))
 (.seq
 (.region false [
 ⟨some 61, .mov (.tmp 6), none⟩,
 ⟨some 62, .mov (.tmp 1), none⟩,
 ⟨some 63, .callm 29 [.tmp 61, .tmp 62], none⟩,
 ⟨some 60, .mov (.tmp 63), none⟩,
 ⟨some 64, .ext (.tmp 60) 0, none⟩,
 ⟨some 65, .ext (.tmp 60) 1, none⟩,
 ⟨some 12, .mov (.tmp 64), none⟩,
 ⟨some 13, .mov (.tmp 65), none⟩] [1, 60, 61, 62, 63, 64, 65])
 (.seq
 (.region false [
 ⟨some 67, .mov (.tmp 6), none⟩,
 ⟨some 68, .mov (.tmp 12), none⟩,
 ⟨some 69, .callm 30 [.tmp 67, .tmp 68], none⟩,
 ⟨some 66, .mov (.tmp 69), none⟩,
 ⟨some 70, .ext (.tmp 66) 0, none⟩,
 ⟨some 71, .ext (.tmp 66) 1, none⟩,
 ⟨some 14, .mov (.tmp 70), none⟩,
 ⟨some 15, .mov (.tmp 71), none⟩] [6, 12, 66, 67, 68, 69, 70, 71])
 (.seq
 (.seq
 (.region false [
 ⟨some 72, .mov (.tmp 9), none⟩,
 ⟨some 73, .mov (.tmp 72), none⟩,
 ⟨some 74, .mov (.tmp 13), (some (73, true))⟩,
 ⟨some 75, .un .not (.tmp 74), (some (73, true))⟩,
 ⟨some 76, .mov (.tmp 75), (some (73, true))⟩,
 ⟨some 77, .mov (.tmp 15), (some (76, false))⟩,
 ⟨some 78, .un .not (.tmp 77), (some (76, false))⟩,
 ⟨some 79, .pick (.tmp 76) (.const (.bool true)) (.tmp 78), (some (73, true))⟩,
 ⟨some 80, .mov (.tmp 79), (some (73, true))⟩,
 ⟨some 81, .faddr 2 1 (.tmp 2), (some (80, false))⟩,
 ⟨some 82, .load false 1 (.tmp 81), (some (80, false))⟩,
 ⟨some 83, .mov (.tmp 14), (some (80, false))⟩,
 ⟨some 84, .iaddr 3 (.tmp 82) (.tmp 83), (some (80, false))⟩,
 ⟨some 85, .faddr 0 1 (.tmp 84), (some (80, false))⟩,
 ⟨some 86, .load false 1 (.tmp 85), (some (80, false))⟩,
 ⟨some 87, .mov (.tmp 8), (some (80, false))⟩,
 ⟨some 88, .bin .neq 3 (.tmp 86) (.tmp 87), (some (80, false))⟩,
 ⟨some 89, .pick (.tmp 80) (.const (.bool true)) (.tmp 88), (some (73, true))⟩,
 ⟨some 90, .pick (.tmp 73) (.tmp 89) (.const (.bool false)), none⟩] [2, 8, 13, 14, 15, 72, 73, 74, 75, 76, 77, 78, 79, 80, 81, 82, 83, 84, 85, 86, 87, 88, 89])
 (.cond (.tmp 90)
 (.seq
 (.region false [
 ⟨some 4, .mov (.const (.bool false)), none⟩] [5, 9, 10, 90])
 .ret)
 .skip))
 (.seq
 (.region false [
 ⟨some 91, .mov (.tmp 5), none⟩,
 ⟨some 92, .mov (.tmp 91), none⟩,
 ⟨some 93, .mov (.tmp 10), (some (92, true))⟩,
 ⟨some 94, .bin .eql 3 (.tmp 93) (.const (.int .i64 1)), (some (92, true))⟩,
 ⟨some 95, .mov (.tmp 9), (some (92, true))⟩,
 ⟨some 96, .eqb false 4 (.tmp 94) (.tmp 95), (some (92, true))⟩,
 ⟨some 97, .pick (.tmp 92) (.tmp 96) (.const (.bool false)), none⟩,
 ⟨some 98, .mov (.tmp 97), none⟩,
 ⟨some 99, .mov (.tmp 9), (some (98, true))⟩,
 ⟨some 100, .mov (.tmp 99), (some (98, true))⟩,
 ⟨some 101, .mov (.tmp 10), (some (100, false))⟩,
 ⟨some 102, .bin .eql 3 (.tmp 101) (.const (.int .i64 0)), (some (100, false))⟩,
 ⟨some 103, .pick (.tmp 100) (.const (.bool true)) (.tmp 102), (some (98, true))⟩,
 ⟨some 104, .pick (.tmp 98) (.tmp 103) (.const (.bool false)), none⟩,
 ⟨some 105, .mov (.tmp 104), none⟩,
 ⟨some 106, .callm 31 [.const (.int .i64 1), .const (.int .i64 2)], (some (105, true))⟩,
 ⟨some 107, .bin .eql 3 (.tmp 106) (.const (.int .i64 1)), (some (105, true))⟩,
 ⟨some 108, .pick (.tmp 105) (.tmp 107) (.const (.bool false)), none⟩,
 ⟨some 4, .mov (.tmp 108), none⟩] [5, 9, 10, 90, 91, 92, 93, 94, 95, 96, 97, 98, 99, 100, 101, 102, 103, 104, 105, 106, 107, 108])
 .ret)))))))))))))
abbrev v_q1 : List RV := [.tmp 4]
abbrev f_q1 : FuncId := 4
theorem k_q1 : closedOf Tryz.prog Tryz.f4 = (false, some true, some v_q1, some c_q1.plain, 109) := by kernel_rfl
theorem ac_q1 {args : List AV} {r : AV} (h : aw Tryz.prog c_q1 (env0 args) (endQ v_q1 r)) (hargs : args.length ≤ 109 := by decide) (hok : resOK r = true := by rfl) : AC Tryz.prog f_q1 args r :=
  AC_mk (by kernel_rfl) Tryz.func4 k_q1 hargs hok (by decide) h
def c_q17 : ACode :=
 (.seq
 (.region false [
 ⟨some 2, .box (.tmp 0), none⟩,
 ⟨some 4, .mov (.const (.bool false)), none⟩] [0, 4])
 (.seq
 (.region false [
 ⟨some 5, .faddr 0 1 (.tmp 2), none⟩,
 ⟨some 6, .load false 1 (.tmp 5), none⟩,
 ⟨some 7, .lenl (.tmp 6), none⟩,
 ⟨some 8, .mov (.tmp 1), none⟩,
 ⟨some 9, .bin .leq 3 (.tmp 7) (.tmp 8), none⟩,
 ⟨some 10, .mov (.tmp 9), none⟩,
 ⟨some 11, .faddr 1 1 (.tmp 2), (some (10, true))⟩,
 ⟨some 12, .load false 1 (.tmp 11), (some (10, true))⟩,
 ⟨some 13, .lenl (.tmp 12), (some (10, true))⟩,
 ⟨some 14, .bin .leq 3 (.tmp 13) (.const (.int .i64 12)), (some (10, true))⟩,
 ⟨some 15, .pick (.tmp 10) (.tmp 14) (.const (.bool false)), none⟩,
 ⟨some 16, .mov (.tmp 15), none⟩,
 ⟨some 17, .faddr 2 1 (.tmp 2), (some (16, true))⟩,
 ⟨some 18, .load false 1 (.tmp 17), (some (16, true))⟩,
 ⟨some 19, .lenl (.tmp 18), (some (16, true))⟩,
 ⟨some 20, .bin .leq 3 (.tmp 19) (.const (.int .i64 24)), (some (16, true))⟩,
 ⟨some 21, .pick (.tmp 16) (.tmp 20) (.const (.bool false)), none⟩,
 ⟨some 22, .mov (.tmp 21), none⟩,
 ⟨some 23, .faddr 3 1 (.tmp 2), (some (22, true))⟩,
 ⟨some 24, .load false 1 (.tmp 23), (some (22, true))⟩,
 ⟨some 25, .lenl (.tmp 24), (some (22, true))⟩,
 ⟨some 26, .bin .leq 3 (.tmp 25) (.const (.int .i64 30)), (some (22, true))⟩,
 ⟨some 27, .pick (.tmp 22) (.tmp 26) (.const (.bool false)), none⟩,
 ⟨some 28, .mov (.tmp 27), none⟩,
 ⟨some 29, .faddr 4 1 (.tmp 2), (some (28, true))⟩,
 ⟨some 30, .load false 1 (.tmp 29), (some (28, true))⟩,
 ⟨some 31, .lenl (.tmp 30), (some (28, true))⟩,
 ⟨some 32, .bin .leq 3 (.tmp 31) (.const (.int .i64 4)), (some (28, true))⟩,
 ⟨some 33, .pick (.tmp 28) (.tmp 32) (.const (.bool false)), none⟩,
 ⟨some 34, .mov (.tmp 33), none⟩,
 ⟨some 35, .faddr 5 1 (.tmp 2), (some (34, true))⟩,
 ⟨some 36, .load false 1 (.tmp 35), (some (34, true))⟩,
 ⟨some 37, .lenl (.tmp 36), (some (34, true))⟩,
 ⟨some 38, .bin .leq 3 (.tmp 37) (.const (.int .i64 5)), (some (34, true))⟩,
 ⟨some 39, .pick (.tmp 34) (.tmp 38) (.const (.bool false)), none⟩,
 ⟨some 40, .mov (.tmp 39), none⟩,
 ⟨some 41, .faddr 6 1 (.tmp 2), (some (40, true))⟩,
 ⟨some 42, .load false 1 (.tmp 41), (some (40, true))⟩,
 ⟨some 43, .lenl (.tmp 42), (some (40, true))⟩,
 ⟨some 44, .bin .leq 3 (.tmp 43) (.const (.int .i64 10)), (some (40, true))⟩,
 ⟨some 45, .pick (.tmp 40) (.tmp 44) (.const (.bool false)), none⟩,
 ⟨some 46, .mov (.tmp 45), none⟩,
 ⟨some 47, .load true 7 (.tmp 2), (some (46, true))⟩,
 ⟨some 48, .callm 36 [.tmp 47], (some (46, true))⟩,
 ⟨some 49, .bin .eql 3 (.tmp 48) (.const (.int .i64 0)), (some (46, true))⟩,
 ⟨some 50, .pick (.tmp 46) (.tmp 49) (.const (.bool false)), none⟩,
 ⟨some 4, .mov (.tmp 50), none⟩] [1, 2, 5, 6, 7, 8, 9, 10, 11, 12, 13, 14, 15, 16, 17, 18, 19, 20, 21, 22, 23, 24, 25, 26, 27, 28, 29, 30, 31, 32, 33, 34, 35, 36, 37, 38, 39, 40, 41, 42, 43, 44, 45, 46, 47, 48, 49, 50])
 .ret))
abbrev v_q17 : List RV := [.tmp 4]
abbrev f_q17 : FuncId := 20
theorem k_q17 : closedOf Tryz.prog Tryz.f20 = (false, some true, some v_q17, some c_q17.plain, 51) := by kernel_rfl
theorem ac_q17 {args : List AV} {r : AV} (h : aw Tryz.prog c_q17 (env0 args) (endQ v_q17 r)) (hargs : args.length ≤ 51 := by decide) (hok : resOK r = true := by rfl) : AC Tryz.prog f_q17 args r :=
  AC_mk (by kernel_rfl) Tryz.func20 k_q17 hargs hok (by decide) h
def c_q18 : ACode :=
 (.seq
 (.region false [
 ⟨some 1, .box (.tmp 0), none⟩,
 ⟨some 2, .mov (.const (.pointer none)), none⟩,
 ⟨some 3, .mov (.const (.nilIface)), none⟩] [0, 2, 3])
 (.seq
 (.seq
 (.region false [
 ⟨some 12, .load true 7 (.tmp 1), none⟩,
 ⟨some 13, .callm 83 [.tmp 12], none⟩,
 ⟨some 4, .mov (.tmp 13), none⟩] [12, 13])
 (.seq
 (.region false [
 ⟨some 14, .mov (.tmp 4), none⟩,
 ⟨some 15, .eqn true (.tmp 14), none⟩] [14])
 (.cond (.tmp 15)
 (.seq
 (.region false [
 ⟨some 16, .mov (.tmp 4), none⟩,
 ⟨some 2, .mov (.const (.pointer none)), none⟩,
 ⟨some 3, .mov (.tmp 16), none⟩] [1, 4, 15, 16])
 .ret)
 .skip)))
 (.seq
 (.region true [
 ⟨some 17, .load true 7 (.tmp 1), none⟩,
 ⟨some 18, .call 84 [.tmp 17], none⟩,
 ⟨some 19, .faddr 1 1 (.tmp 1), none⟩,
 ⟨some 20, .load false 1 (.tmp 19), none⟩,
 ⟨some 21, .lenl (.tmp 20), none⟩,
 ⟨some 22, .mkf false 1 24 [.sl .nil 0 []] (.tmp 21) (.tmp 21), none⟩,
 ⟨some 23, .faddr 0 1 (.tmp 1), none⟩,
 ⟨some 24, .load false 1 (.tmp 23), none⟩,
 ⟨some 25, .lenl (.tmp 24), none⟩,
 ⟨some 26, .mkf false 1 24 [.sl .nil 0 []] (.tmp 25) (.tmp 25), none⟩,
 ⟨some 27, .mkm, none⟩,
 ⟨some 28, .faddr 1 1 (.tmp 1), none⟩,
 ⟨some 29, .load false 1 (.tmp 28), none⟩,
 ⟨some 30, .lenl (.tmp 29), none⟩,
 ⟨some 31, .mkf false 1 24 [.sl .nil 0 []] (.tmp 30) (.tmp 30), none⟩,
 ⟨some 32, .build [.sl .nil 0 [], .sl .nil 0 [], .sl .nil 0 [], .sl .nil 0 [], .sl .nil 0 [], .sl .nil 0 [], .sl .nil 0 [], .sl .nil 0 [], .sl .nil 0 [], .lit (.map none), .sl .nil 0 [], .sl .nil 0 []] [(0, 7, .tmp 18), (7, 1, .tmp 22), (8, 1, .tmp 26), (9, 1, .tmp 27), (10, 1, .tmp 31)], none⟩,
 ⟨some 33, .box (.tmp 32), none⟩,
 ⟨some 5, .mov (.tmp 33), none⟩] [4, 15, 17, 18, 19, 20, 21, 22, 23, 24, 25, 26, 27, 28, 29, 30, 31, 32, 33])
 (.seq
 (.seq
 (.shift
 (.region false [
 ⟨some 34, .faddr 2 1 (.tmp 1), none⟩,
 ⟨some 35, .load false 1 (.tmp 34), none⟩,
 ⟨some 36, .lenl (.tmp 35), none⟩,
 ⟨some 37, .mov (.const (.int .i64 0)), none⟩] [34]))
 (.block 0
 (.loop
 (.seq
 (.region false [
 ⟨some 38, .bin .lss 3 (.tmp 37) (.tmp 36), none⟩] [])
 (.seq
 (.cond (.tmp 38)
 .skip
 (.exit 0))
 (.seq
 (.block 1
 (.seq
 (.region false [
 ⟨some 39, .mov (.tmp 37), none⟩,
 ⟨some 40, .iaddr 3 (.tmp 35) (.tmp 37), none⟩,
 ⟨some 41, .load true 3 (.tmp 40), none⟩,
 ⟨some 7, .alloc [.lit (.int .i64 0), .lit (.int .i64 0), .lit (.int .u32 0)], none⟩,
 ⟨some 6, .mov (.tmp 39), none⟩,
 ⟨none, .store 3 (.tmp 7) (.tmp 41), none⟩] [38, 39, 40, 41])
 (.seq
 (.region true [
 ⟨some 42, .mov (.tmp 5), none⟩,
 ⟨some 43, .nilchk (.tmp 42), none⟩,
 ⟨some 44, .faddr 7 1 (.tmp 43), none⟩,
 ⟨some 45, .loadc false 1 (.tmp 44), none⟩,
 ⟨some 46, .faddr 1 1 (.tmp 7), none⟩,
 ⟨some 47, .loadc false 1 (.tmp 46), none⟩,
 ⟨some 48, .mov (.tmp 5), none⟩,
 ⟨some 49, .nilchk (.tmp 48), none⟩,
 ⟨some 50, .faddr 7 1 (.tmp 49), none⟩,
 ⟨some 51, .loadc false 1 (.tmp 50), none⟩,
 ⟨some 52, .faddr 1 1 (.tmp 7), none⟩,
 ⟨some 53, .loadc false 1 (.tmp 52), none⟩,
 ⟨some 54, .iaddr 1 (.tmp 51) (.tmp 53), none⟩,
 ⟨some 55, .loadc false 1 (.tmp 54), none⟩,
 ⟨some 56, .mov (.tmp 6), none⟩,
 ⟨some 57, .bslice 1 1 [.tmp 56], none⟩,
 ⟨some 58, .app 1 8 [] (.tmp 55) (.tmp 57), none⟩,
 ⟨some 59, .iaddr 1 (.tmp 45) (.tmp 47), none⟩,
 ⟨none, .store 1 (.tmp 59) (.tmp 58), none⟩] [42, 43, 44, 45, 46, 47, 48, 49, 50, 51, 52, 53, 54, 55, 56, 57, 58, 59])
 (.seq
 (.region true [
 ⟨some 60, .mov (.tmp 5), none⟩,
 ⟨some 61, .nilchk (.tmp 60), none⟩,
 ⟨some 62, .faddr 8 1 (.tmp 61), none⟩,
 ⟨some 63, .loadc false 1 (.tmp 62), none⟩,
 ⟨some 64, .faddr 0 1 (.tmp 7), none⟩,
 ⟨some 65, .loadc false 1 (.tmp 64), none⟩,
 ⟨some 66, .mov (.tmp 5), none⟩,
 ⟨some 67, .nilchk (.tmp 66), none⟩,
 ⟨some 68, .faddr 8 1 (.tmp 67), none⟩,
 ⟨some 69, .loadc false 1 (.tmp 68), none⟩,
 ⟨some 70, .faddr 0 1 (.tmp 7), none⟩,
 ⟨some 71, .loadc false 1 (.tmp 70), none⟩,
 ⟨some 72, .iaddr 1 (.tmp 69) (.tmp 71), none⟩,
 ⟨some 73, .loadc false 1 (.tmp 72), none⟩,
 ⟨some 74, .mov (.tmp 6), none⟩,
 ⟨some 75, .bslice 1 1 [.tmp 74], none⟩,
 ⟨some 76, .app 1 8 [] (.tmp 73) (.tmp 75), none⟩,
 ⟨some 77, .iaddr 1 (.tmp 63) (.tmp 65), none⟩,
 ⟨none, .store 1 (.tmp 77) (.tmp 76), none⟩] [60, 61, 62, 63, 64, 65, 66, 67, 68, 69, 70, 71, 72, 73, 74, 75, 76, 77])
 (.region true [
 ⟨some 78, .mov (.tmp 5), none⟩,
 ⟨some 79, .nilchk (.tmp 78), none⟩,
 ⟨some 80, .faddr 9 1 (.tmp 79), none⟩,
 ⟨some 81, .load false 1 (.tmp 80), none⟩,
 ⟨some 82, .faddr 2 1 (.tmp 7), none⟩,
 ⟨some 83, .load false 1 (.tmp 82), none⟩,
 ⟨some 84, .mov (.tmp 6), none⟩,
 ⟨none, .mup false (.tmp 81) (.tmp 83) (.tmp 84), none⟩] [6, 7, 78, 79, 80, 81, 82, 83, 84])))) [])
 (.shift
 (.region false [
 ⟨some 85, .bin .add 3 (.tmp 37) (.const (.int .i64 1)), none⟩,
 ⟨some 37, .mov (.tmp 85), none⟩] [85]))))) [] [7]) [35, 36, 37, 38]))
 (.seq
 (.seq
 (.shift
 (.region false [
 ⟨some 86, .faddr 6 1 (.tmp 1), none⟩,
 ⟨some 87, .load false 1 (.tmp 86), none⟩,
 ⟨some 88, .lenl (.tmp 87), none⟩,
 ⟨some 89, .mov (.const (.int .i64 0)), none⟩] [86]))
 (.block 2
 (.loop
 (.seq
 (.region false [
 ⟨some 90, .bin .lss 3 (.tmp 89) (.tmp 88), none⟩] [])
 (.seq
 (.cond (.tmp 90)
 .skip
 (.exit 2))
 (.seq
 (.block 3
 (.seq
 (.region false [
 ⟨some 91, .mov (.tmp 89), none⟩,
 ⟨some 92, .iaddr 4 (.tmp 87) (.tmp 89), none⟩,
 ⟨some 93, .load true 4 (.tmp 92), none⟩,
 ⟨some 9, .alloc [.lit (.int .i64 0), .lit (.int .u32 0), .lit (.bool false), .sl .nil 0 []], none⟩,
 ⟨some 8, .mov (.tmp 91), none⟩,
 ⟨none, .store 4 (.tmp 9) (.tmp 93), none⟩] [90, 91, 92, 93])
 (.seq
 (.region true [
 ⟨some 94, .mov (.tmp 5), none⟩,
 ⟨some 95, .nilchk (.tmp 94), none⟩,
 ⟨some 96, .faddr 10 1 (.tmp 95), none⟩,
 ⟨some 97, .loadc false 1 (.tmp 96), none⟩,
 ⟨some 98, .faddr 0 1 (.tmp 9), none⟩,
 ⟨some 99, .loadc false 1 (.tmp 98), none⟩,
 ⟨some 100, .mov (.tmp 5), none⟩,
 ⟨some 101, .nilchk (.tmp 100), none⟩,
 ⟨some 102, .faddr 10 1 (.tmp 101), none⟩,
 ⟨some 103, .loadc false 1 (.tmp 102), none⟩,
 ⟨some 104, .faddr 0 1 (.tmp 9), none⟩,
 ⟨some 105, .loadc false 1 (.tmp 104), none⟩,
 ⟨some 106, .iaddr 1 (.tmp 103) (.tmp 105), none⟩,
 ⟨some 107, .loadc false 1 (.tmp 106), none⟩,
 ⟨some 108, .mov (.tmp 8), none⟩,
 ⟨some 109, .bslice 1 1 [.tmp 108], none⟩,
 ⟨some 110, .app 1 8 [] (.tmp 107) (.tmp 109), none⟩,
 ⟨some 111, .iaddr 1 (.tmp 97) (.tmp 99), none⟩,
 ⟨none, .store 1 (.tmp 111) (.tmp 110), none⟩] [8, 94, 95, 96, 97, 98, 99, 100, 101, 102, 103, 104, 105, 106, 107, 108, 109, 110, 111])
 (.region true [
 ⟨some 112, .mov (.tmp 5), none⟩,
 ⟨some 113, .mov (.tmp 5), none⟩,
 ⟨some 114, .nilchk (.tmp 113), none⟩,
 ⟨some 115, .faddr 11 1 (.tmp 114), none⟩,
 ⟨some 116, .loadc false 1 (.tmp 115), none⟩,
 ⟨some 117, .faddr 1 1 (.tmp 9), none⟩,
 ⟨some 118, .loadc false 1 (.tmp 117), none⟩,
 ⟨some 119, .bslice 1 1 [.tmp 118], none⟩,
 ⟨some 120, .app 1 4 [] (.tmp 116) (.tmp 119), none⟩,
 ⟨some 121, .nilchk (.tmp 112), none⟩,
 ⟨some 122, .faddr 11 1 (.tmp 121), none⟩,
 ⟨none, .store 1 (.tmp 122) (.tmp 120), none⟩] [9, 112, 113, 114, 115, 116, 117, 118, 119, 120, 121, 122]))) [])
 (.shift
 (.region false [
 ⟨some 123, .bin .add 3 (.tmp 89) (.const (.int .i64 1)), none⟩,
 ⟨some 89, .mov (.tmp 123), none⟩] [123]))))) [] [9]) [87, 88, 89, 90]))
 (.seq
 (.seq
 (.shift
 (.region false [
 ⟨some 124, .faddr 5 1 (.tmp 1), none⟩,
 ⟨some 125, .load false 1 (.tmp 124), none⟩,
 ⟨some 126, .lenl (.tmp 125), none⟩,
 ⟨some 127, .mov (.const (.int .i64 0)), none⟩] [1, 124]))
 (.block 4
 (.loop
 (.seq
 (.region false [
 ⟨some 128, .bin .lss 3 (.tmp 127) (.tmp 126), none⟩] [])
 (.seq
 (.cond (.tmp 128)
 .skip
 (.exit 4))
 (.seq
 (.block 5
 (.seq
 (.region false [
 ⟨some 129, .iaddr 3 (.tmp 125) (.tmp 127), none⟩,
 ⟨some 130, .load true 3 (.tmp 129), none⟩,
 ⟨some 11, .alloc [.lit (.int .i64 0), .lit (.int .u32 0), .lit (.int .u32 0)], none⟩,
 ⟨none, .store 3 (.tmp 11) (.tmp 130), none⟩] [128, 129, 130])
 (.region true [
 ⟨some 131, .mov (.tmp 5), none⟩,
 ⟨some 132, .mov (.tmp 5), none⟩,
 ⟨some 133, .nilchk (.tmp 132), none⟩,
 ⟨some 134, .faddr 11 1 (.tmp 133), none⟩,
 ⟨some 135, .loadc false 1 (.tmp 134), none⟩,
 ⟨some 136, .faddr 1 2 (.tmp 11), none⟩,
 ⟨some 137, .faddr 1 1 (.tmp 136), none⟩,
 ⟨some 138, .loadc false 1 (.tmp 137), none⟩,
 ⟨some 139, .bslice 1 1 [.tmp 138], none⟩,
 ⟨some 140, .app 1 4 [] (.tmp 135) (.tmp 139), none⟩,
 ⟨some 141, .nilchk (.tmp 131), none⟩,
 ⟨some 142, .faddr 11 1 (.tmp 141), none⟩,
 ⟨none, .store 1 (.tmp 142) (.tmp 140), none⟩] [11, 131, 132, 133, 134, 135, 136, 137, 138, 139, 140, 141, 142])) [])
 (.region false [
 ⟨some 143, .bin .add 3 (.tmp 127) (.const (.int .i64 1)), none⟩,
 ⟨some 127, .mov (.tmp 143), none⟩] [143])))) [] [11]) [125, 126, 127, 128]))
 (.seq
 (.shift
 (.region false [
 ⟨some 144, .mov (.tmp 5), none⟩,
 ⟨some 145, .nilchk (.tmp 144), none⟩,
 ⟨some 146, .faddr 11 1 (.tmp 145), none⟩,
 ⟨some 147, .load false 1 (.tmp 146), none⟩,
 ⟨some 148, .callm 85 [.tmp 147], none⟩] [144, 145, 146, 147, 148]))
 (.seq
 (.region false [
 ⟨some 149, .mov (.tmp 5), none⟩,
 ⟨some 150, .mov (.tmp 5), none⟩,
 ⟨some 151, .nilchk (.tmp 150), none⟩,
 ⟨some 152, .faddr 11 1 (.tmp 151), none⟩,
 ⟨some 153, .load false 1 (.tmp 152), none⟩,
 ⟨some 154, .callm 86 [.tmp 153], none⟩,
 ⟨some 155, .nilchk (.tmp 149), none⟩,
 ⟨some 156, .faddr 11 1 (.tmp 155), none⟩,
 ⟨none, .store 1 (.tmp 156) (.tmp 154), none⟩] [149, 150, 151, 152, 153, 154, 155, 156])
 (.seq
 (.region false [
 ⟨some 157, .mov (.tmp 5), none⟩,
 ⟨some 2, .mov (.tmp 157), none⟩,
 ⟨some 3, .mov (.const (.nilIface)), none⟩] [5, 157])
 .ret)))))))))
abbrev v_q18 : List RV := [.tmp 2, .tmp 3]
abbrev f_q18 : FuncId := 21
theorem k_q18 : closedOf Tryz.prog Tryz.f21 = (false, some true, some v_q18, some c_q18.plain, 158) := by kernel_rfl
theorem ac_q18 {args : List AV} {r : AV} (h : aw Tryz.prog c_q18 (env0 args) (endQ v_q18 r)) (hargs : args.length ≤ 158 := by decide) (hok : resOK r = true := by rfl) : AC Tryz.prog f_q18 args r :=
  AC_mk (by kernel_rfl) Tryz.func21 k_q18 hargs hok (by decide) h
def c_q22 : ACode :=
 (.seq
 (.region false [
 ⟨some 4, .mov (.const (.bool false)), none⟩] [4])
 (.seq
 (.seq
 (.region false [
 ⟨some 5, .mov (.const (.int .i64 0)), none⟩] [])
 (.block 0
 (.loop
 (.seq
 (.seq
 (.region false [
 ⟨some 6, .mov (.tmp 5), none⟩,
 ⟨some 7, .mov (.tmp 0), none⟩,
 ⟨some 8, .lenl (.tmp 7), none⟩,
 ⟨some 9, .bin .lss 3 (.tmp 6) (.tmp 8), none⟩] [6, 7, 8])
 (.cond (.tmp 9)
 .skip
 (.exit 0)))
 (.seq
 (.block 1
 (.seq
 (.region false [
 ⟨some 12, .mov (.tmp 0), none⟩,
 ⟨some 13, .mov (.tmp 5), none⟩,
 ⟨some 14, .iaddr 1 (.tmp 12) (.tmp 13), none⟩,
 ⟨some 15, .load false 1 (.tmp 14), none⟩,
 ⟨some 16, .mov (.tmp 1), none⟩,
 ⟨some 17, .bin .eql 32 (.tmp 15) (.tmp 16), none⟩] [9, 12, 13, 14, 15, 16])
 (.cond (.tmp 17)
 (.seq
 (.region false [
 ⟨some 4, .mov (.const (.bool true)), none⟩] [0, 1, 5, 17])
 .ret)
 .skip)) [17])
 (.region false [
 ⟨some 10, .mov (.tmp 5), none⟩,
 ⟨some 11, .bin .add 3 (.tmp 10) (.const (.int .i64 1)), none⟩,
 ⟨some 5, .mov (.tmp 11), none⟩] [10, 11]))) [] []) [0, 1, 5, 9]))
 (.seq
 (.region false [
 ⟨some 4, .mov (.const (.bool false)), none⟩] [])
 .ret)))
abbrev v_q22 : List RV := [.tmp 4]
abbrev f_q22 : FuncId := 25
theorem k_q22 : closedOf Tryz.prog Tryz.f25 = (false, some true, some v_q22, some c_q22.plain, 18) := by kernel_rfl
theorem ac_q22 {args : List AV} {r : AV} (h : aw Tryz.prog c_q22 (env0 args) (endQ v_q22 r)) (hargs : args.length ≤ 18 := by decide) (hok : resOK r = true := by rfl) : AC Tryz.prog f_q22 args r :=
  AC_mk (by kernel_rfl) Tryz.func25 k_q22 hargs hok (by decide) h
def c_q23 : ACode :=
 (.seq
 (.region false [
 ⟨some 0, .mov (.const (.bool false)), none⟩] [0])
 (.seq
 (.region false [
 ⟨some 10, .build [.sl .nil 0 [], .sl .nil 0 [], .sl .nil 0 [], .sl .nil 0 [], .sl .nil 0 [], .sl .nil 0 [], .sl .nil 0 []] [], none⟩,
 ⟨some 11, .callm 21 [.tmp 10], none⟩,
 ⟨some 9, .mov (.tmp 11), none⟩,
 ⟨some 12, .ext (.tmp 9) 0, none⟩,
 ⟨some 13, .ext (.tmp 9) 1, none⟩,
 ⟨some 1, .mov (.tmp 12), none⟩,
 ⟨some 2, .mov (.tmp 13), none⟩] [9, 10, 11, 12, 13])
 (.seq
 (.seq
 (.region false [
 ⟨some 14, .mov (.tmp 1), none⟩,
 ⟨some 15, .eqp false (.tmp 14), none⟩,
 ⟨some 16, .mov (.tmp 15), none⟩,
 ⟨some 17, .mov (.tmp 2), (some (16, false))⟩,
 ⟨some 18, .eqn true (.tmp 17), (some (16, false))⟩,
 ⟨some 19, .pick (.tmp 16) (.const (.bool true)) (.tmp 18), none⟩] [2, 14, 15, 16, 17, 18])
 (.cond (.tmp 19)
 (.seq
 (.region false [
 ⟨some 0, .mov (.const (.bool false)), none⟩] [1, 19])
 .ret)
 .skip))
 (.seq
 (.region false [
 ⟨some 21, .mov (.tmp 1), none⟩,
 ⟨some 22, .callm 89 [.const (.int .i64 1)], none⟩,
 ⟨some 23, .callm 29 [.tmp 21, .tmp 22], none⟩,
 ⟨some 20, .mov (.tmp 23), none⟩,
 ⟨some 24, .ext (.tmp 20) 0, none⟩,
 ⟨some 25, .ext (.tmp 20) 1, none⟩,
 ⟨some 3, .mov (.tmp 24), none⟩,
 ⟨some 4, .mov (.tmp 25), none⟩] [1, 3, 19, 20, 21, 22, 23, 24, 25])
 (.seq
 (.region false [
 ⟨some 27, .callm 34 [.const (.int .i64 2), .const (.int .i64 1)], none⟩,
 ⟨some 28, .callm 21 [.tmp 27], none⟩,
 ⟨some 26, .mov (.tmp 28), none⟩,
 ⟨some 29, .ext (.tmp 26) 0, none⟩,
 ⟨some 30, .ext (.tmp 26) 1, none⟩,
 ⟨some 5, .mov (.tmp 29), none⟩,
 ⟨some 6, .mov (.tmp 30), none⟩] [26, 27, 28, 29, 30])
 (.seq
 (.seq
 (.region false [
 ⟨some 31, .mov (.tmp 4), none⟩,
 ⟨some 32, .mov (.tmp 31), none⟩,
 ⟨some 33, .mov (.tmp 5), (some (32, false))⟩,
 ⟨some 34, .eqp false (.tmp 33), (some (32, false))⟩,
 ⟨some 35, .pick (.tmp 32) (.const (.bool true)) (.tmp 34), none⟩,
 ⟨some 36, .mov (.tmp 35), none⟩,
 ⟨some 37, .mov (.tmp 6), (some (36, false))⟩,
 ⟨some 38, .eqn true (.tmp 37), (some (36, false))⟩,
 ⟨some 39, .pick (.tmp 36) (.const (.bool true)) (.tmp 38), none⟩] [4, 6, 31, 32, 33, 34, 35, 36, 37, 38])
 (.cond (.tmp 39)
 (.seq
 (.region false [
 ⟨some 0, .mov (.const (.bool false)), none⟩] [5, 39])
 .ret)
 .skip))
 (.seq
 (.region false [
 ⟨some 41, .mov (.tmp 5), none⟩,
 ⟨some 42, .callm 89 [.const (.int .i64 1)], none⟩,
 ⟨some 43, .callm 27 [.tmp 41, .tmp 42], none⟩,
 ⟨some 40, .mov (.tmp 43), none⟩,
 ⟨some 44, .ext (.tmp 40) 0, none⟩,
 ⟨some 45, .ext (.tmp 40) 1, none⟩,
 ⟨some 7, .mov (.tmp 44), none⟩,
 ⟨some 8, .mov (.tmp 45), none⟩] [5, 39, 40, 41, 42, 43, 44, 45])
 (.seq
 (.region false [
 ⟨some 46, .mov (.tmp 8), none⟩,
 ⟨some 47, .mov (.tmp 46), none⟩,
 ⟨some 48, .mov (.tmp 7), (some (47, true))⟩,
 ⟨some 49, .bin .eql 3 (.tmp 48) (.const (.int .i64 1)), (some (47, true))⟩,
 ⟨some 50, .pick (.tmp 47) (.tmp 49) (.const (.bool false)), none⟩,
 ⟨some 0, .mov (.tmp 50), none⟩] [7, 8, 46, 47, 48, 49, 50])
 .ret))))))))
abbrev v_q23 : List RV := [.tmp 0]
abbrev f_q23 : FuncId := 26
theorem k_q23 : closedOf Tryz.prog Tryz.f26 = (false, some true, some v_q23, some c_q23.plain, 51) := by kernel_rfl
theorem ac_q23 {args : List AV} {r : AV} (h : aw Tryz.prog c_q23 (env0 args) (endQ v_q23 r)) (hargs : args.length ≤ 51 := by decide) (hok : resOK r = true := by rfl) : AC Tryz.prog f_q23 args r :=
  AC_mk (by kernel_rfl) Tryz.func26 k_q23 hargs hok (by decide) h
def c_q24 : ACode :=
 (.seq
 (.region false [
 ⟨some 4, .mov (.const (.int .i64 0)), none⟩,
 ⟨some 5, .mov (.const (.bool false)), none⟩] [4, 5])
 (.seq
 (.region false [
 ⟨some 10, .mov (.tmp 0), none⟩,
 ⟨some 11, .mov (.tmp 1), none⟩,
 ⟨some 12, .callm 29 [.tmp 10, .tmp 11], none⟩,
 ⟨some 9, .mov (.tmp 12), none⟩,
 ⟨some 13, .ext (.tmp 9) 0, none⟩,
 ⟨some 14, .ext (.tmp 9) 1, none⟩,
 ⟨some 6, .mov (.tmp 13), none⟩,
 ⟨some 7, .mov (.tmp 14), none⟩] [1, 9, 10, 11, 12, 13, 14])
 (.seq
 (.seq
 (.region false [
 ⟨some 15, .mov (.tmp 7), none⟩,
 ⟨some 16, .un .not (.tmp 15), none⟩] [7, 15])
 (.cond (.tmp 16)
 (.seq
 (.region false [
 ⟨some 4, .mov (.const (.int .i64 0)), none⟩,
 ⟨some 5, .mov (.const (.bool false)), none⟩] [0, 6, 16])
 .ret)
 .skip))
 (.seq
 (.region false [
 ⟨some 18, .mov (.tmp 0), none⟩,
 ⟨some 19, .mov (.tmp 6), none⟩,
 ⟨some 20, .callm 30 [.tmp 18, .tmp 19], none⟩,
 ⟨some 17, .mov (.tmp 20), none⟩,
 ⟨some 21, .ext (.tmp 17) 0, none⟩,
 ⟨some 22, .ext (.tmp 17) 1, none⟩,
 ⟨some 8, .mov (.tmp 21), none⟩,
 ⟨some 7, .mov (.tmp 22), none⟩] [6, 16, 17, 18, 19, 20, 21, 22])
 (.seq
 (.seq
 (.region false [
 ⟨some 23, .mov (.tmp 7), none⟩,
 ⟨some 24, .un .not (.tmp 23), none⟩] [7, 23])
 (.cond (.tmp 24)
 (.seq
 (.region false [
 ⟨some 4, .mov (.const (.int .i64 0)), none⟩,
 ⟨some 5, .mov (.const (.bool false)), none⟩] [0, 8, 24])
 .ret)
 .skip))
 (.seq
 (.region false [
 ⟨some 25, .mov (.tmp 0), none⟩,
 ⟨some 26, .callm 90 [.tmp 25], none⟩,
 ⟨some 27, .nilchk (.tmp 26), none⟩,
 ⟨some 28, .faddr 2 1 (.tmp 27), none⟩,
 ⟨some 29, .load false 1 (.tmp 28), none⟩,
 ⟨some 30, .mov (.tmp 8), none⟩,
 ⟨some 31, .iaddr 3 (.tmp 29) (.tmp 30), none⟩,
 ⟨some 32, .faddr 0 1 (.tmp 31), none⟩,
 ⟨some 33, .load false 1 (.tmp 32), none⟩,
 ⟨some 4, .mov (.tmp 33), none⟩,
 ⟨some 5, .mov (.const (.bool true)), none⟩] [0, 8, 24, 25, 26, 27, 28, 29, 30, 31, 32, 33])
 .ret))))))
abbrev v_q24 : List RV := [.tmp 4, .tmp 5]
abbrev f_q24 : FuncId := 27
theorem k_q24 : closedOf Tryz.prog Tryz.f27 = (false, some true, some v_q24, some c_q24.plain, 34) := by kernel_rfl
theorem ac_q24 {args : List AV} {r : AV} (h : aw Tryz.prog c_q24 (env0 args) (endQ v_q24 r)) (hargs : args.length ≤ 34 := by decide) (hok : resOK r = true := by rfl) : AC Tryz.prog f_q24 args r :=
  AC_mk (by kernel_rfl) Tryz.func27 k_q24 hargs hok (by decide) h
def c_q25 : ACode :=
 (.seq
 (.region false [
 ⟨some 6, .mov (.const (.bool false)), none⟩] [6])
 (.seq
 (.region false [
 ⟨some 10, .mov (.tmp 0), none⟩,
 ⟨some 11, .mov (.tmp 2), none⟩,
 ⟨some 12, .callm 27 [.tmp 10, .tmp 11], none⟩,
 ⟨some 9, .mov (.tmp 12), none⟩,
 ⟨some 13, .ext (.tmp 9) 0, none⟩,
 ⟨some 14, .ext (.tmp 9) 1, none⟩,
 ⟨some 7, .mov (.tmp 13), none⟩,
 ⟨some 8, .mov (.tmp 14), none⟩] [0, 2, 9, 10, 11, 12, 13, 14])
 (.seq
 (.region false [
 ⟨some 15, .mov (.tmp 8), none⟩,
 ⟨some 16, .mov (.tmp 15), none⟩,
 ⟨some 17, .mov (.tmp 7), (some (16, true))⟩,
 ⟨some 18, .mov (.tmp 1), (some (16, true))⟩,
 ⟨some 19, .bin .eql 3 (.tmp 17) (.tmp 18), (some (16, true))⟩,
 ⟨some 20, .pick (.tmp 16) (.tmp 19) (.const (.bool false)), none⟩,
 ⟨some 6, .mov (.tmp 20), none⟩] [1, 7, 8, 15, 16, 17, 18, 19, 20])
 .ret)))
abbrev v_q25 : List RV := [.tmp 6]
abbrev f_q25 : FuncId := 28
theorem k_q25 : closedOf Tryz.prog Tryz.f28 = (false, some true, some v_q25, some c_q25.plain, 21) := by kernel_rfl
theorem ac_q25 {args : List AV} {r : AV} (h : aw Tryz.prog c_q25 (env0 args) (endQ v_q25 r)) (hargs : args.length ≤ 21 := by decide) (hok : resOK r = true := by rfl) : AC Tryz.prog f_q25 args r :=
  AC_mk (by kernel_rfl) Tryz.func28 k_q25 hargs hok (by decide) h
def c_q26 : ACode :=
 (.seq
 (.region false [
 ⟨some 4, .mov (.const (.int .u32 0)), none⟩,
 ⟨some 5, .mov (.const (.bool false)), none⟩] [4, 5])
 (.seq
 (.region false [
 ⟨some 6, .mov (.const (.int .u32 0)), none⟩,
 ⟨some 7, .mov (.const (.int .i64 (-1))), none⟩] [])
 (.seq
 (.seq
 (.region false [
 ⟨some 10, .mov (.tmp 0), none⟩,
 ⟨some 11, .callm 90 [.tmp 10], none⟩,
 ⟨some 12, .nilchk (.tmp 11), none⟩,
 ⟨some 13, .faddr 4 1 (.tmp 12), none⟩,
 ⟨some 14, .load false 1 (.tmp 13), none⟩,
 ⟨some 15, .lenl (.tmp 14), none⟩,
 ⟨some 16, .mov (.const (.int .i64 0)), none⟩] [0, 10, 11, 12, 13])
 (.block 0
 (.loop
 (.seq
 (.region false [
 ⟨some 17, .bin .lss 3 (.tmp 16) (.tmp 15), none⟩] [])
 (.seq
 (.cond (.tmp 17)
 .skip
 (.exit 0))
 (.seq
 (.block 1
 (.seq
 (.region false [
 ⟨some 18, .iaddr 3 (.tmp 14) (.tmp 16), none⟩,
 ⟨some 19, .load true 3 (.tmp 18), none⟩,
 ⟨some 9, .alloc [.lit (.int .u32 0), .lit (.int .i64 0), .lit (.int .u32 0)], none⟩,
 ⟨none, .store 3 (.tmp 9) (.tmp 19), none⟩] [17, 18, 19])
 (.seq
 (.region false [
 ⟨some 20, .mov (.tmp 1), none⟩,
 ⟨some 21, .callm 91 [.tmp 20], none⟩,
 ⟨some 22, .mov (.tmp 21), none⟩,
 ⟨some 23, .faddr 0 2 (.tmp 9), (some (22, true))⟩,
 ⟨some 24, .load true 2 (.tmp 23), (some (22, true))⟩,
 ⟨some 25, .mov (.tmp 1), (some (22, true))⟩,
 ⟨some 26, .callm 92 [.tmp 24, .tmp 25], (some (22, true))⟩,
 ⟨some 27, .pick (.tmp 22) (.tmp 26) (.const (.bool false)), none⟩,
 ⟨some 28, .mov (.tmp 27), none⟩,
 ⟨some 29, .faddr 0 2 (.tmp 9), (some (28, true))⟩,
 ⟨some 30, .faddr 1 1 (.tmp 29), (some (28, true))⟩,
 ⟨some 31, .load false 1 (.tmp 30), (some (28, true))⟩,
 ⟨some 32, .mov (.tmp 7), (some (28, true))⟩,
 ⟨some 33, .bin .gtr 3 (.tmp 31) (.tmp 32), (some (28, true))⟩,
 ⟨some 34, .pick (.tmp 28) (.tmp 33) (.const (.bool false)), none⟩] [20, 21, 22, 23, 24, 25, 26, 27, 28, 29, 30, 31, 32, 33])
 (.cond (.tmp 34)
 (.region true [
 ⟨some 35, .faddr 2 1 (.tmp 9), none⟩,
 ⟨some 36, .load false 1 (.tmp 35), none⟩,
 ⟨some 37, .faddr 0 2 (.tmp 9), none⟩,
 ⟨some 38, .faddr 1 1 (.tmp 37), none⟩,
 ⟨some 39, .load false 1 (.tmp 38), none⟩,
 ⟨some 6, .mov (.tmp 36), none⟩,
 ⟨some 7, .mov (.tmp 39), none⟩] [9, 34, 35, 36, 37, 38, 39])
 .skip))) [9, 34])
 (.region false [
 ⟨some 40, .bin .add 3 (.tmp 16) (.const (.int .i64 1)), none⟩,
 ⟨some 16, .mov (.tmp 40), none⟩] [40])))) [] [9]) [1, 14, 15, 16, 17]))
 (.seq
 (.region false [
 ⟨some 41, .mov (.tmp 6), none⟩,
 ⟨some 42, .mov (.tmp 7), none⟩,
 ⟨some 43, .bin .geq 3 (.tmp 42) (.const (.int .i64 0)), none⟩,
 ⟨some 4, .mov (.tmp 41), none⟩,
 ⟨some 5, .mov (.tmp 43), none⟩] [6, 7, 41, 42, 43])
 .ret))))
abbrev v_q26 : List RV := [.tmp 4, .tmp 5]
abbrev f_q26 : FuncId := 29
theorem k_q26 : closedOf Tryz.prog Tryz.f29 = (false, some true, some v_q26, some c_q26.plain, 44) := by kernel_rfl
theorem ac_q26 {args : List AV} {r : AV} (h : aw Tryz.prog c_q26 (env0 args) (endQ v_q26 r)) (hargs : args.length ≤ 44 := by decide) (hok : resOK r = true := by rfl) : AC Tryz.prog f_q26 args r :=
  AC_mk (by kernel_rfl) Tryz.func29 k_q26 hargs hok (by decide) h
def c_q27 : ACode :=
 (.seq
 (.region false [
 ⟨some 4, .mov (.const (.int .i64 0)), none⟩,
 ⟨some 5, .mov (.const (.bool false)), none⟩] [4, 5])
 (.seq
 (.region false [
 ⟨some 9, .mov (.tmp 0), none⟩,
 ⟨some 10, .nilchk (.tmp 9), none⟩,
 ⟨some 11, .faddr 9 1 (.tmp 10), none⟩,
 ⟨some 12, .load false 1 (.tmp 11), none⟩,
 ⟨some 13, .mov (.tmp 1), none⟩,
 ⟨some 14, .lkp false (ofVal (.int .i64 0)) true (.tmp 12) (.tmp 13), none⟩,
 ⟨some 8, .mov (.tmp 14), none⟩,
 ⟨some 15, .ext (.tmp 8) 0, none⟩,
 ⟨some 16, .ext (.tmp 8) 1, none⟩,
 ⟨some 6, .mov (.tmp 15), none⟩,
 ⟨some 7, .mov (.tmp 16), none⟩] [0, 1, 8, 9, 10, 11, 12, 13, 14, 15, 16])
 (.seq
 (.region false [
 ⟨some 17, .mov (.tmp 6), none⟩,
 ⟨some 18, .mov (.tmp 7), none⟩,
 ⟨some 4, .mov (.tmp 17), none⟩,
 ⟨some 5, .mov (.tmp 18), none⟩] [6, 7, 17, 18])
 .ret)))
abbrev v_q27 : List RV := [.tmp 4, .tmp 5]
abbrev f_q27 : FuncId := 30
theorem k_q27 : closedOf Tryz.prog Tryz.f30 = (false, some true, some v_q27, some c_q27.plain, 19) := by kernel_rfl
theorem ac_q27 {args : List AV} {r : AV} (h : aw Tryz.prog c_q27 (env0 args) (endQ v_q27 r)) (hargs : args.length ≤ 19 := by decide) (hok : resOK r = true := by rfl) : AC Tryz.prog f_q27 args r :=
  AC_mk (by kernel_rfl) Tryz.func30 k_q27 hargs hok (by decide) h
def c_q28 : ACode :=
 (.seq
 (.region false [
 ⟨some 4, .mov (.const (.int .i64 0)), none⟩] [4])
 (.seq
 (.region false [
 ⟨some 6, .mov (.tmp 0), none⟩,
 ⟨some 7, .mov (.tmp 1), none⟩,
 ⟨some 8, .bin .rem 3 (.tmp 6) (.tmp 7), none⟩,
 ⟨some 5, .mov (.tmp 8), none⟩] [0, 6, 7, 8])
 (.seq
 (.seq
 (.region false [
 ⟨some 9, .mov (.tmp 5), none⟩,
 ⟨some 10, .bin .lss 3 (.tmp 9) (.const (.int .i64 0)), none⟩] [9])
 (.cond (.tmp 10)
 (.region false [
 ⟨some 11, .mov (.tmp 5), none⟩,
 ⟨some 12, .mov (.tmp 1), none⟩,
 ⟨some 13, .bin .add 3 (.tmp 11) (.tmp 12), none⟩,
 ⟨some 5, .mov (.tmp 13), none⟩] [1, 10, 11, 12, 13])
 .skip))
 (.seq
 (.region false [
 ⟨some 14, .mov (.tmp 5), none⟩,
 ⟨some 4, .mov (.tmp 14), none⟩] [1, 5, 10, 14])
 .ret))))
abbrev v_q28 : List RV := [.tmp 4]
abbrev f_q28 : FuncId := 31
theorem k_q28 : closedOf Tryz.prog Tryz.f31 = (false, some true, some v_q28, some c_q28.plain, 15) := by kernel_rfl
theorem ac_q28 {args : List AV} {r : AV} (h : aw Tryz.prog c_q28 (env0 args) (endQ v_q28 r)) (hargs : args.length ≤ 15 := by decide) (hok : resOK r = true := by rfl) : AC Tryz.prog f_q28 args r :=
  AC_mk (by kernel_rfl) Tryz.func31 k_q28 hargs hok (by decide) h
def c_q31 : ACode :=
 (.seq
 (.region false [
 ⟨some 4, .alloc [.sl .nil 0 [], .sl .nil 0 [], .sl .nil 0 [], .sl .nil 0 [], .sl .nil 0 [], .sl .nil 0 [], .sl .nil 0 []], none⟩] [])
 (.seq
 (.region false [
 ⟨some 10, .build [.sl .nil 0 [], .sl .nil 0 [], .sl .nil 0 [], .sl .nil 0 [], .sl .nil 0 [], .sl .nil 0 [], .sl .nil 0 []] [], none⟩,
 ⟨some 5, .alloc [.sl .nil 0 [], .sl .nil 0 [], .sl .nil 0 [], .sl .nil 0 [], .sl .nil 0 [], .sl .nil 0 [], .sl .nil 0 []], none⟩,
 ⟨none, .store 7 (.tmp 5) (.tmp 10), none⟩] [10])
 (.seq
 (.seq
 (.region false [
 ⟨some 6, .mov (.const (.int .i64 0)), none⟩] [])
 (.block 0
 (.loop
 (.seq
 (.seq
 (.region false [
 ⟨some 11, .mov (.tmp 6), none⟩,
 ⟨some 12, .mov (.tmp 0), none⟩,
 ⟨some 13, .bin .leq 3 (.tmp 11) (.tmp 12), none⟩] [11, 12])
 (.cond (.tmp 13)
 .skip
 (.exit 0)))
 (.seq
 (.block 1
 (.region true [
 ⟨some 16, .faddr 1 1 (.tmp 5), none⟩,
 ⟨some 17, .loadc false 1 (.tmp 16), none⟩,
 ⟨some 18, .mov (.tmp 6), none⟩,
 ⟨some 19, .call 80 [.tmp 18], none⟩,
 ⟨some 20, .bslice 1 3 [.tmp 19], none⟩,
 ⟨some 21, .app 3 32 [] (.tmp 17) (.tmp 20), none⟩,
 ⟨some 22, .faddr 1 1 (.tmp 5), none⟩,
 ⟨none, .store 1 (.tmp 22) (.tmp 21), none⟩] [13, 16, 17, 18, 19, 20, 21, 22]) [])
 (.region false [
 ⟨some 14, .mov (.tmp 6), none⟩,
 ⟨some 15, .bin .add 3 (.tmp 14) (.const (.int .i64 1)), none⟩,
 ⟨some 6, .mov (.tmp 15), none⟩] [14, 15]))) [] []) [6, 13]))
 (.seq
 (.seq
 (.region false [
 ⟨some 7, .mov (.const (.int .i64 0)), none⟩] [])
 (.block 2
 (.loop
 (.seq
 (.seq
 (.region false [
 ⟨some 23, .mov (.tmp 7), none⟩,
 ⟨some 24, .mov (.tmp 0), none⟩,
 ⟨some 25, .bin .lss 3 (.tmp 23) (.tmp 24), none⟩] [23, 24])
 (.cond (.tmp 25)
 .skip
 (.exit 2)))
 (.seq
 (.block 3
 (.seq
 (.region true [
 ⟨some 28, .faddr 0 1 (.tmp 5), none⟩,
 ⟨some 29, .loadc false 1 (.tmp 28), none⟩,
 ⟨some 30, .mov (.tmp 7), none⟩,
 ⟨some 31, .call 94 [.const (.string ⟨#[114]⟩), .tmp 30], none⟩,
 ⟨some 32, .build [.lit (.string ⟨#[]⟩), .lit (.int .i64 0)] [(0, 1, .tmp 31), (1, 1, .const (.int .i64 1))], none⟩,
 ⟨some 33, .bslice 1 2 [.tmp 32], none⟩,
 ⟨some 34, .app 2 24 [] (.tmp 29) (.tmp 33), none⟩,
 ⟨some 35, .faddr 0 1 (.tmp 5), none⟩,
 ⟨none, .store 1 (.tmp 35) (.tmp 34), none⟩] [25, 28, 29, 30, 31, 32, 33, 34, 35])
 (.region true [
 ⟨some 36, .faddr 2 1 (.tmp 5), none⟩,
 ⟨some 37, .loadc false 1 (.tmp 36), none⟩,
 ⟨some 38, .mov (.tmp 7), none⟩,
 ⟨some 39, .mov (.tmp 7), none⟩,
 ⟨some 40, .call 81 [.tmp 38, .tmp 39], none⟩,
 ⟨some 41, .mov (.tmp 7), none⟩,
 ⟨some 42, .mov (.tmp 7), none⟩,
 ⟨some 43, .bin .add 3 (.tmp 42) (.const (.int .i64 1)), none⟩,
 ⟨some 44, .call 81 [.tmp 41, .tmp 43], none⟩,
 ⟨some 45, .bslice 2 3 [.tmp 40, .tmp 44], none⟩,
 ⟨some 46, .app 3 24 [] (.tmp 37) (.tmp 45), none⟩,
 ⟨some 47, .faddr 2 1 (.tmp 5), none⟩,
 ⟨none, .store 1 (.tmp 47) (.tmp 46), none⟩] [36, 37, 38, 39, 40, 41, 42, 43, 44, 45, 46, 47])) [])
 (.region false [
 ⟨some 26, .mov (.tmp 7), none⟩,
 ⟨some 27, .bin .add 3 (.tmp 26) (.const (.int .i64 1)), none⟩,
 ⟨some 7, .mov (.tmp 27), none⟩] [26, 27]))) [] []) [7, 25]))
 (.seq
 (.seq
 (.region false [
 ⟨some 8, .mov (.const (.int .i64 0)), none⟩] [])
 (.block 4
 (.loop
 (.seq
 (.seq
 (.region false [
 ⟨some 48, .mov (.tmp 8), none⟩,
 ⟨some 49, .mov (.tmp 0), none⟩,
 ⟨some 50, .bin .lss 3 (.tmp 48) (.tmp 49), none⟩] [48, 49])
 (.cond (.tmp 50)
 .skip
 (.exit 4)))
 (.seq
 (.block 5
 (.seq
 (.region false [
 ⟨some 9, .mov (.const (.int .i64 0)), none⟩] [50])
 (.block 6
 (.loop
 (.seq
 (.seq
 (.region false [
 ⟨some 53, .mov (.tmp 9), none⟩,
 ⟨some 54, .mov (.tmp 0), none⟩,
 ⟨some 55, .bin .leq 3 (.tmp 53) (.tmp 54), none⟩] [53, 54])
 (.cond (.tmp 55)
 .skip
 (.exit 6)))
 (.seq
 (.block 7
 (.seq
 (.seq
 (.region false [
 ⟨some 58, .mov (.tmp 9), none⟩,
 ⟨some 59, .mov (.tmp 8), none⟩,
 ⟨some 60, .bin .lss 3 (.tmp 58) (.tmp 59), none⟩] [55, 58, 59])
 (.cond (.tmp 60)
 (.region true [
 ⟨some 61, .faddr 3 1 (.tmp 5), none⟩,
 ⟨some 62, .loadc false 1 (.tmp 61), none⟩,
 ⟨some 63, .mov (.tmp 8), none⟩,
 ⟨some 64, .faddr 1 1 (.tmp 5), none⟩,
 ⟨some 65, .loadc false 1 (.tmp 64), none⟩,
 ⟨some 66, .mov (.tmp 9), none⟩,
 ⟨some 67, .iaddr 3 (.tmp 65) (.tmp 66), none⟩,
 ⟨some 68, .faddr 1 2 (.tmp 67), none⟩,
 ⟨some 69, .loadc true 2 (.tmp 68), none⟩,
 ⟨some 70, .mov (.tmp 8), none⟩,
 ⟨some 71, .mov (.tmp 8), none⟩,
 ⟨some 72, .call 35 [.tmp 70, .tmp 71], none⟩,
 ⟨some 73, .mov (.tmp 8), none⟩,
 ⟨some 74, .mov (.tmp 9), none⟩,
 ⟨some 75, .bin .sub 3 (.tmp 73) (.tmp 74), none⟩,
 ⟨some 76, .build [.lit (.int .i64 0), .lit (.int .u32 0), .lit (.int .i64 0), .lit (.int .u32 0), .lit (.int .i64 0)] [(0, 1, .tmp 63), (1, 2, .tmp 69), (3, 1, .tmp 72), (4, 1, .tmp 75)], none⟩,
 ⟨some 77, .bslice 1 5 [.tmp 76], none⟩,
 ⟨some 78, .app 5 40 [] (.tmp 62) (.tmp 77), none⟩,
 ⟨some 79, .faddr 3 1 (.tmp 5), none⟩,
 ⟨none, .store 1 (.tmp 79) (.tmp 78), none⟩] [60, 61, 62, 63, 64, 65, 66, 67, 68, 69, 70, 71, 72, 73, 74, 75, 76, 77, 78, 79])
 .skip))
 (.seq
 (.region false [
 ⟨some 80, .mov (.tmp 9), none⟩,
 ⟨some 81, .mov (.tmp 8), none⟩,
 ⟨some 82, .bin .add 3 (.tmp 81) (.const (.int .i64 1)), none⟩,
 ⟨some 83, .bin .gtr 3 (.tmp 80) (.tmp 82), none⟩] [60, 80, 81, 82])
 (.cond (.tmp 83)
 (.region true [
 ⟨some 84, .faddr 3 1 (.tmp 5), none⟩,
 ⟨some 85, .loadc false 1 (.tmp 84), none⟩,
 ⟨some 86, .mov (.tmp 8), none⟩,
 ⟨some 87, .faddr 1 1 (.tmp 5), none⟩,
 ⟨some 88, .loadc false 1 (.tmp 87), none⟩,
 ⟨some 89, .mov (.tmp 9), none⟩,
 ⟨some 90, .iaddr 3 (.tmp 88) (.tmp 89), none⟩,
 ⟨some 91, .faddr 1 2 (.tmp 90), none⟩,
 ⟨some 92, .loadc true 2 (.tmp 91), none⟩,
 ⟨some 93, .mov (.tmp 8), none⟩,
 ⟨some 94, .bin .add 3 (.tmp 93) (.const (.int .i64 1)), none⟩,
 ⟨some 95, .mov (.tmp 8), none⟩,
 ⟨some 96, .bin .add 3 (.tmp 95) (.const (.int .i64 2)), none⟩,
 ⟨some 97, .call 35 [.tmp 94, .tmp 96], none⟩,
 ⟨some 98, .mov (.tmp 9), none⟩,
 ⟨some 99, .mov (.tmp 8), none⟩,
 ⟨some 100, .bin .sub 3 (.tmp 98) (.tmp 99), none⟩,
 ⟨some 101, .build [.lit (.int .i64 0), .lit (.int .u32 0), .lit (.int .i64 0), .lit (.int .u32 0), .lit (.int .i64 0)] [(0, 1, .tmp 86), (1, 2, .tmp 92), (3, 1, .tmp 97), (4, 1, .tmp 100)], none⟩,
 ⟨some 102, .bslice 1 5 [.tmp 101], none⟩,
 ⟨some 103, .app 5 40 [] (.tmp 85) (.tmp 102), none⟩,
 ⟨some 104, .faddr 3 1 (.tmp 5), none⟩,
 ⟨none, .store 1 (.tmp 104) (.tmp 103), none⟩] [83, 84, 85, 86, 87, 88, 89, 90, 91, 92, 93, 94, 95, 96, 97, 98, 99, 100, 101, 102, 103, 104])
 .skip))) [83])
 (.region false [
 ⟨some 56, .mov (.tmp 9), none⟩,
 ⟨some 57, .bin .add 3 (.tmp 56) (.const (.int .i64 1)), none⟩,
 ⟨some 9, .mov (.tmp 57), none⟩] [56, 57]))) [] []) [9, 55])) [])
 (.region false [
 ⟨some 51, .mov (.tmp 8), none⟩,
 ⟨some 52, .bin .add 3 (.tmp 51) (.const (.int .i64 1)), none⟩,
 ⟨some 8, .mov (.tmp 52), none⟩] [51, 52]))) [] []) [0, 8, 50]))
 (.seq
 (.region false [
 ⟨some 105, .callm 95 [], none⟩,
 ⟨some 106, .mov (.tmp 1), none⟩,
 ⟨some 107, .mov (.tmp 1), none⟩,
 ⟨some 108, .bin .add 3 (.tmp 107) (.const (.int .i64 1)), none⟩,
 ⟨some 109, .callm 35 [.tmp 106, .tmp 108], none⟩,
 ⟨some 110, .build [.lit (.int .u32 0), .lit (.int .i64 0), .lit (.int .u32 0)] [(0, 2, .tmp 105), (2, 1, .tmp 109)], none⟩,
 ⟨some 111, .bslice 1 3 [.tmp 110], none⟩,
 ⟨some 112, .faddr 4 1 (.tmp 5), none⟩,
 ⟨none, .store 1 (.tmp 112) (.tmp 111), none⟩] [1, 105, 106, 107, 108, 109, 110, 111, 112])
 (.seq
 (.region false [
 ⟨some 113, .load true 7 (.tmp 5), none⟩,
 ⟨none, .store 7 (.tmp 4) (.tmp 113), none⟩] [5, 113])
 .ret)))))))
abbrev v_q31 : List RV := [.cell true 7 4]
abbrev f_q31 : FuncId := 34
theorem k_q31 : closedOf Tryz.prog Tryz.f34 = (false, some true, some v_q31, some c_q31.plain, 114) := by kernel_rfl
theorem ac_q31 {args : List AV} {r : AV} (h : aw Tryz.prog c_q31 (env0 args) (endQ v_q31 r)) (hargs : args.length ≤ 114 := by decide) (hok : resOK r = true := by rfl) : AC Tryz.prog f_q31 args r :=
  AC_mk (by kernel_rfl) Tryz.func34 k_q31 hargs hok (by decide) h
def c_q32 : ACode :=
 (.seq
 (.region false [
 ⟨some 4, .mov (.const (.int .u32 0)), none⟩] [4])
 (.seq
 (.region false [
 ⟨some 5, .mov (.tmp 0), none⟩,
 ⟨some 6, .cint .u32 (.tmp 5), none⟩,
 ⟨some 7, .bin .shl 32 (.tmp 6) (.const (.int .u64 8)), none⟩,
 ⟨some 8, .bin .or 32 (.const (.int .u32 167772160)) (.tmp 7), none⟩,
 ⟨some 9, .mov (.tmp 1), none⟩,
 ⟨some 10, .cint .u32 (.tmp 9), none⟩,
 ⟨some 11, .bin .or 32 (.tmp 8) (.tmp 10), none⟩,
 ⟨some 4, .mov (.tmp 11), none⟩] [0, 1, 5, 6, 7, 8, 9, 10, 11])
 .ret))
abbrev v_q32 : List RV := [.tmp 4]
abbrev f_q32 : FuncId := 35
theorem k_q32 : closedOf Tryz.prog Tryz.f35 = (false, some true, some v_q32, some c_q32.plain, 12) := by kernel_rfl
theorem ac_q32 {args : List AV} {r : AV} (h : aw Tryz.prog c_q32 (env0 args) (endQ v_q32 r)) (hargs : args.length ≤ 12 := by decide) (hok : resOK r = true := by rfl) : AC Tryz.prog f_q32 args r :=
  AC_mk (by kernel_rfl) Tryz.func35 k_q32 hargs hok (by decide) h
def c_q33 : ACode :=
 (.seq
 (.region false [
 ⟨some 1, .box (.tmp 0), none⟩,
 ⟨some 2, .mov (.const (.int .i64 0)), none⟩] [0, 2])
 (.seq
 (.region false [
 ⟨some 9, .load true 7 (.tmp 1), none⟩,
 ⟨some 10, .callm 96 [.tmp 9], none⟩,
 ⟨some 8, .mov (.tmp 10), none⟩,
 ⟨some 11, .ext (.tmp 8) 0, none⟩,
 ⟨some 12, .ext (.tmp 8) 1, none⟩,
 ⟨some 3, .alloc [.lit (.int .i64 0), .lit (.int .i64 0), .lit (.int .i64 0), .lit (.int .i64 0), .lit (.int .i64 0), .lit (.int .i64 0), .lit (.int .i64 0)], none⟩,
 ⟨some 4, .alloc [.lit (.int .i64 0), .lit (.int .i64 0), .lit (.int .i64 0), .lit (.int .i64 0), .lit (.int .i64 0), .lit (.int .i64 0), .lit (.int .i64 0)], none⟩,
 ⟨none, .store 7 (.tmp 3) (.tmp 11), none⟩,
 ⟨none, .store 7 (.tmp 4) (.tmp 12), none⟩] [8, 9, 10, 11, 12])
 (.seq
 (.seq
 (.region false [
 ⟨some 5, .mov (.const (.int .i64 0)), none⟩] [])
 (.block 0
 (.loop
 (.seq
 (.seq
 (.region false [
 ⟨some 13, .mov (.tmp 5), none⟩,
 ⟨some 14, .bin .lss 3 (.tmp 13) (.const (.int .i64 7)), none⟩] [13])
 (.cond (.tmp 14)
 .skip
 (.exit 0)))
 (.seq
 (.block 1
 (.seq
 (.region false [
 ⟨some 6, .mov (.const (.int .i64 0)), none⟩] [14])
 (.block 2
 (.loop
 (.seq
 (.seq
 (.region false [
 ⟨some 17, .mov (.tmp 6), none⟩,
 ⟨some 18, .mov (.tmp 5), none⟩,
 ⟨some 19, .iadra 7 1 (.tmp 3) (.tmp 18), none⟩,
 ⟨some 20, .load false 1 (.tmp 19), none⟩,
 ⟨some 21, .bin .lss 3 (.tmp 17) (.tmp 20), none⟩] [17, 18, 19, 20])
 (.cond (.tmp 21)
 .skip
 (.exit 2)))
 (.seq
 (.block 3
 (.seq
 (.seq
 (.region false [
 ⟨some 24, .mov (.tmp 6), none⟩,
 ⟨some 25, .mov (.tmp 5), none⟩,
 ⟨some 26, .iadra 7 1 (.tmp 4) (.tmp 25), none⟩,
 ⟨some 27, .load false 1 (.tmp 26), none⟩,
 ⟨some 28, .bin .geq 3 (.tmp 24) (.tmp 27), none⟩] [21, 24, 25, 26, 27])
 (.cond (.tmp 28)
 (.seq
 (.region false [
 ⟨some 2, .mov (.const (.int .i64 104)), none⟩] [1, 3, 4, 5, 6, 28])
 .ret)
 .skip))
 (.seq
 (.region false [
 ⟨some 29, .load true 7 (.tmp 1), none⟩,
 ⟨some 30, .mov (.tmp 5), none⟩,
 ⟨some 31, .mov (.tmp 6), none⟩,
 ⟨some 32, .callm 97 [.tmp 29, .tmp 30, .tmp 31], none⟩,
 ⟨some 7, .mov (.tmp 32), none⟩] [28, 29, 30, 31, 32])
 (.seq
 (.region false [
 ⟨some 33, .mov (.tmp 7), none⟩,
 ⟨some 34, .bin .neq 3 (.tmp 33) (.const (.int .i64 0)), none⟩] [33])
 (.cond (.tmp 34)
 (.seq
 (.region false [
 ⟨some 35, .mov (.tmp 7), none⟩,
 ⟨some 2, .mov (.tmp 35), none⟩] [1, 3, 4, 5, 6, 7, 34, 35])
 .ret)
 .skip)))) [7, 34])
 (.region false [
 ⟨some 22, .mov (.tmp 6), none⟩,
 ⟨some 23, .bin .add 3 (.tmp 22) (.const (.int .i64 1)), none⟩,
 ⟨some 6, .mov (.tmp 23), none⟩] [22, 23]))) [] []) [6, 21])) [])
 (.region false [
 ⟨some 15, .mov (.tmp 5), none⟩,
 ⟨some 16, .bin .add 3 (.tmp 15) (.const (.int .i64 1)), none⟩,
 ⟨some 5, .mov (.tmp 16), none⟩] [15, 16]))) [] []) [1, 3, 4, 5, 14]))
 (.seq
 (.region false [
 ⟨some 2, .mov (.const (.int .i64 0)), none⟩] [])
 .ret))))
abbrev v_q33 : List RV := [.tmp 2]
abbrev f_q33 : FuncId := 36
theorem k_q33 : closedOf Tryz.prog Tryz.f36 = (false, some true, some v_q33, some c_q33.plain, 36) := by kernel_rfl
theorem ac_q33 {args : List AV} {r : AV} (h : aw Tryz.prog c_q33 (env0 args) (endQ v_q33 r)) (hargs : args.length ≤ 36 := by decide) (hok : resOK r = true := by rfl) : AC Tryz.prog f_q33 args r :=
  AC_mk (by kernel_rfl) Tryz.func36 k_q33 hargs hok (by decide) h
end Go.Proofs.YtobofhbklfallaaGreatDoor.VL
end

