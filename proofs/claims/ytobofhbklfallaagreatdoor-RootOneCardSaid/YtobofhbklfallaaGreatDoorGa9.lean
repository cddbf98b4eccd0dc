import Derived.Test.YtobofhbklfallaaGreatDoorProg
import Derived.Test.YtobofhbklfallaaGreatDoorGa8
set_option linter.unusedVariables false
set_option linter.unusedSimpArgs false
section
set_option maxRecDepth 100000
namespace Go.Proofs.YtobofhbklfallaaGreatDoor.VL
open Go.Proofs
def c_q77 : ACode :=
 (.seq
 (.region false [
 ⟨some 2, .alloc [.lit (.string ⟨#[]⟩), .lit (.int .u32 0), .lit (.int .i64 0)], none⟩] [])
 (.seq
 (.region false [
 ⟨some 3, .mov (.tmp 0), none⟩,
 ⟨some 4, .callm 94 [.const (.string ⟨#[108]⟩), .tmp 3], none⟩,
 ⟨some 5, .mov (.tmp 0), none⟩,
 ⟨some 6, .callm 35 [.tmp 5, .const (.int .i64 0)], none⟩,
 ⟨some 7, .build [.lit (.int .u32 0), .lit (.int .i64 0)] [(0, 1, .tmp 6), (1, 1, .const (.int .i64 24))], none⟩,
 ⟨some 8, .build [.lit (.string ⟨#[]⟩), .lit (.int .u32 0), .lit (.int .i64 0)] [(0, 1, .tmp 4), (1, 2, .tmp 7)], none⟩,
 ⟨none, .store 3 (.tmp 2) (.tmp 8), none⟩] [0, 3, 4, 5, 6, 7, 8])
 .ret))
abbrev v_q77 : List RV := [.cell true 3 2]
abbrev f_q77 : FuncId := 80
theorem k_q77 : closedOf Tryz.prog Tryz.f80 = (false, some true, some v_q77, some c_q77.plain, 9) := by kernel_rfl
theorem ac_q77 {args : List AV} {r : AV} (h : aw Tryz.prog c_q77 (env0 args) (endQ v_q77 r)) (hargs : args.length ≤ 9 := by decide) (hok : resOK r = true := by rfl) : AC Tryz.prog f_q77 args r :=
  AC_mk (by kernel_rfl) Tryz.func80 k_q77 hargs hok (by decide) h
def c_q78 : ACode :=
 (.seq
 (.region false [
 ⟨some 4, .alloc [.lit (.int .i64 0), .lit (.int .i64 0), .lit (.int .u32 0)], none⟩] [])
 (.seq
 (.region false [
 ⟨some 5, .mov (.tmp 0), none⟩,
 ⟨some 6, .mov (.tmp 1), none⟩,
 ⟨some 7, .mov (.tmp 1), none⟩,
 ⟨some 8, .mov (.tmp 0), none⟩,
 ⟨some 9, .bin .add 3 (.tmp 8) (.const (.int .i64 1)), none⟩,
 ⟨some 10, .callm 35 [.tmp 7, .tmp 9], none⟩,
 ⟨some 11, .build [.lit (.int .i64 0), .lit (.int .i64 0), .lit (.int .u32 0)] [(0, 1, .tmp 5), (1, 1, .tmp 6), (2, 1, .tmp 10)], none⟩,
 ⟨none, .store 3 (.tmp 4) (.tmp 11), none⟩] [0, 1, 5, 6, 7, 8, 9, 10, 11])
 .ret))
abbrev v_q78 : List RV := [.cell true 3 4]
abbrev f_q78 : FuncId := 81
theorem k_q78 : closedOf Tryz.prog Tryz.f81 = (false, some true, some v_q78, some c_q78.plain, 12) := by kernel_rfl
theorem ac_q78 {args : List AV} {r : AV} (h : aw Tryz.prog c_q78 (env0 args) (endQ v_q78 r)) (hargs : args.length ≤ 12 := by decide) (hok : resOK r = true := by rfl) : AC Tryz.prog f_q78 args r :=
  AC_mk (by kernel_rfl) Tryz.func81 k_q78 hargs hok (by decide) h
def c_q80 : ACode :=
 (.seq
 (.region false [
 ⟨some 1, .box (.tmp 0), none⟩,
 ⟨some 2, .mov (.const (.nilIface)), none⟩] [0, 2])
 (.seq
 (.region false [
 ⟨some 8, .load true 7 (.tmp 1), none⟩,
 ⟨some 9, .build [.sl .nil 0 [], .sl .nil 0 [], .sl .nil 0 [], .sl .nil 0 [], .sl .nil 0 [], .sl .nil 0 [], .sl .nil 0 []] [(0, 7, .tmp 8)], none⟩,
 ⟨some 3, .alloc [.sl .nil 0 [], .sl .nil 0 [], .sl .nil 0 [], .sl .nil 0 [], .sl .nil 0 [], .sl .nil 0 [], .sl .nil 0 []], none⟩,
 ⟨none, .store 7 (.tmp 3) (.tmp 9), none⟩] [8, 9])
 (.seq
 (.seq
 (.region false [
 ⟨some 10, .faddr 0 1 (.tmp 1), none⟩,
 ⟨some 11, .load false 1 (.tmp 10), none⟩,
 ⟨some 12, .lenl (.tmp 11), none⟩,
 ⟨some 13, .load true 7 (.tmp 3), none⟩,
 ⟨some 14, .mkfn (.func 120) [.tmp 13] [], none⟩,
 ⟨some 15, .build [.lit (.int .i64 0), .lit (.int .i64 0), .lit (.nilFunc)] [(0, 1, .tmp 12), (1, 1, .const (.int .i64 16)), (2, 1, .tmp 14)], none⟩,
 ⟨some 16, .faddr 1 1 (.tmp 1), none⟩,
 ⟨some 17, .load false 1 (.tmp 16), none⟩,
 ⟨some 18, .lenl (.tmp 17), none⟩,
 ⟨some 19, .load true 7 (.tmp 3), none⟩,
 ⟨some 20, .mkfn (.func 121) [.tmp 19] [], none⟩,
 ⟨some 21, .build [.lit (.int .i64 0), .lit (.int .i64 0), .lit (.nilFunc)] [(0, 1, .tmp 18), (1, 1, .const (.int .i64 24)), (2, 1, .tmp 20)], none⟩,
 ⟨some 22, .faddr 2 1 (.tmp 1), none⟩,
 ⟨some 23, .load false 1 (.tmp 22), none⟩,
 ⟨some 24, .lenl (.tmp 23), none⟩,
 ⟨some 25, .load true 7 (.tmp 3), none⟩,
 ⟨some 26, .mkfn (.func 122) [.tmp 25] [], none⟩,
 ⟨some 27, .build [.lit (.int .i64 0), .lit (.int .i64 0), .lit (.nilFunc)] [(0, 1, .tmp 24), (1, 1, .const (.int .i64 64)), (2, 1, .tmp 26)], none⟩,
 ⟨some 28, .faddr 3 1 (.tmp 1), none⟩,
 ⟨some 29, .load false 1 (.tmp 28), none⟩,
 ⟨some 30, .lenl (.tmp 29), none⟩,
 ⟨some 31, .load true 7 (.tmp 3), none⟩,
 ⟨some 32, .mkfn (.func 123) [.tmp 31] [], none⟩,
 ⟨some 33, .build [.lit (.int .i64 0), .lit (.int .i64 0), .lit (.nilFunc)] [(0, 1, .tmp 30), (1, 1, .const (.int .i64 96)), (2, 1, .tmp 32)], none⟩,
 ⟨some 34, .faddr 4 1 (.tmp 1), none⟩,
 ⟨some 35, .load false 1 (.tmp 34), none⟩,
 ⟨some 36, .lenl (.tmp 35), none⟩,
 ⟨some 37, .load true 7 (.tmp 3), none⟩,
 ⟨some 38, .mkfn (.func 124) [.tmp 37] [], none⟩,
 ⟨some 39, .build [.lit (.int .i64 0), .lit (.int .i64 0), .lit (.nilFunc)] [(0, 1, .tmp 36), (1, 1, .const (.int .i64 8)), (2, 1, .tmp 38)], none⟩,
 ⟨some 40, .faddr 5 1 (.tmp 1), none⟩,
 ⟨some 41, .load false 1 (.tmp 40), none⟩,
 ⟨some 42, .lenl (.tmp 41), none⟩,
 ⟨some 43, .load true 7 (.tmp 3), none⟩,
 ⟨some 44, .mkfn (.func 125) [.tmp 43] [], none⟩,
 ⟨some 45, .build [.lit (.int .i64 0), .lit (.int .i64 0), .lit (.nilFunc)] [(0, 1, .tmp 42), (1, 1, .const (.int .i64 8)), (2, 1, .tmp 44)], none⟩,
 ⟨some 46, .faddr 6 1 (.tmp 1), none⟩,
 ⟨some 47, .load false 1 (.tmp 46), none⟩,
 ⟨some 48, .lenl (.tmp 47), none⟩,
 ⟨some 49, .load true 7 (.tmp 3), none⟩,
 ⟨some 50, .mkfn (.func 126) [.tmp 49] [], none⟩,
 ⟨some 51, .build [.lit (.int .i64 0), .lit (.int .i64 0), .lit (.nilFunc)] [(0, 1, .tmp 48), (1, 1, .const (.int .i64 24)), (2, 1, .tmp 50)], none⟩,
 ⟨some 52, .bslice 7 3 [.tmp 15, .tmp 21, .tmp 27, .tmp 33, .tmp 39, .tmp 45, .tmp 51], none⟩,
 ⟨some 53, .lenl (.tmp 52), none⟩,
 ⟨some 54, .mov (.const (.int .i64 0)), none⟩] [1, 3, 10, 11, 12, 13, 14, 15, 16, 17, 18, 19, 20, 21, 22, 23, 24, 25, 26, 27, 28, 29, 30, 31, 32, 33, 34, 35, 36, 37, 38, 39, 40, 41, 42, 43, 44, 45, 46, 47, 48, 49, 50, 51])
 (.block 0
 (.loop
 (.seq
 (.region false [
 ⟨some 55, .bin .lss 3 (.tmp 54) (.tmp 53), none⟩] [])
 (.seq
 (.cond (.tmp 55)
 .skip
 (.exit 0))
 (.seq
 (.block 1
 (.seq
 (.region false [
 ⟨some 56, .iaddr 3 (.tmp 52) (.tmp 54), none⟩,
 ⟨some 57, .load true 3 (.tmp 56), none⟩,
 ⟨some 5, .alloc [.lit (.int .i64 0), .lit (.int .i64 0), .lit (.nilFunc)], none⟩,
 ⟨none, .store 3 (.tmp 5) (.tmp 57), none⟩] [55, 56, 57])
 (.seq
 (.region false [
 ⟨some 58, .faddr 0 1 (.tmp 5), none⟩,
 ⟨some 59, .load false 1 (.tmp 58), none⟩,
 ⟨some 60, .mov (.const (.int .i64 0)), none⟩] [58])
 (.block 2
 (.loop
 (.seq
 (.region false [
 ⟨some 61, .bin .lss 3 (.tmp 60) (.tmp 59), none⟩] [])
 (.seq
 (.cond (.tmp 61)
 .skip
 (.exit 2))
 (.seq
 (.block 3
 (.seq
 (.region false [
 ⟨some 62, .mov (.tmp 60), none⟩,
 ⟨some 6, .mov (.tmp 62), none⟩] [61, 62])
 (.seq
 (.seq
 (.region false [
 ⟨some 63, .mov (.tmp 6), none⟩,
 ⟨some 64, .faddr 1 1 (.tmp 5), none⟩,
 ⟨some 65, .load false 1 (.tmp 64), none⟩,
 ⟨some 66, .bin .geq 3 (.tmp 63) (.tmp 65), none⟩] [63, 64, 65])
 (.cond (.tmp 66)
 (.seq
 (.region false [
 ⟨some 67, .load false 1 (.global 0), none⟩,
 ⟨some 2, .mov (.tmp 67), none⟩] [5, 6, 52, 53, 54, 59, 60, 66, 67])
 .ret)
 .skip))
 (.seq
 (.region false [
 ⟨some 68, .faddr 2 1 (.tmp 5), none⟩,
 ⟨some 69, .load false 1 (.tmp 68), none⟩,
 ⟨some 70, .mov (.tmp 6), none⟩,
 ⟨some 71, .callvm (.tmp 69) [.tmp 70], none⟩,
 ⟨some 7, .mov (.tmp 71), none⟩] [6, 66, 68, 69, 70, 71])
 (.seq
 (.region false [
 ⟨some 72, .mov (.tmp 7), none⟩,
 ⟨some 73, .eqn true (.tmp 72), none⟩] [72])
 (.cond (.tmp 73)
 (.seq
 (.region false [
 ⟨some 74, .mov (.tmp 7), none⟩,
 ⟨some 2, .mov (.tmp 74), none⟩] [5, 7, 52, 53, 54, 59, 60, 73, 74])
 .ret)
 .skip))))) [7, 73])
 (.region false [
 ⟨some 75, .bin .add 3 (.tmp 60) (.const (.int .i64 1)), none⟩,
 ⟨some 60, .mov (.tmp 75), none⟩] [75])))) [] []) [5, 59, 60, 61]))) [])
 (.region false [
 ⟨some 76, .bin .add 3 (.tmp 54) (.const (.int .i64 1)), none⟩,
 ⟨some 54, .mov (.tmp 76), none⟩] [76])))) [] [5]) [52, 53, 54, 55]))
 (.seq
 (.region false [
 ⟨some 2, .mov (.const (.nilIface)), none⟩] [])
 .ret))))
abbrev v_q80 : List RV := [.tmp 2]
abbrev f_q80 : FuncId := 83
theorem k_q80 : closedOf Tryz.prog Tryz.f83 = (false, some true, some v_q80, some c_q80.plain, 77) := by kernel_rfl
theorem ac_q80 {args : List AV} {r : AV} (h : aw Tryz.prog c_q80 (env0 args) (endQ v_q80 r)) (hargs : args.length ≤ 77 := by decide) (hok : resOK r = true := by rfl) : AC Tryz.prog f_q80 args r :=
  AC_mk (by kernel_rfl) Tryz.func83 k_q80 hargs hok (by decide) h
def c_q81 : ACode :=
 (.seq
 (.region false [
 ⟨some 1, .box (.tmp 0), none⟩,
 ⟨some 2, .alloc [.sl .nil 0 [], .sl .nil 0 [], .sl .nil 0 [], .sl .nil 0 [], .sl .nil 0 [], .sl .nil 0 [], .sl .nil 0 []], none⟩] [0])
 (.seq
 (.region true [
 ⟨some 5, .faddr 0 1 (.tmp 1), none⟩,
 ⟨some 6, .load false 1 (.tmp 5), none⟩,
 ⟨some 7, .call 127 [.tmp 6], none⟩,
 ⟨some 8, .faddr 1 1 (.tmp 1), none⟩,
 ⟨some 9, .load false 1 (.tmp 8), none⟩,
 ⟨some 10, .call 128 [.tmp 9], none⟩,
 ⟨some 11, .faddr 2 1 (.tmp 1), none⟩,
 ⟨some 12, .load false 1 (.tmp 11), none⟩,
 ⟨some 13, .call 129 [.tmp 12], none⟩,
 ⟨some 14, .faddr 3 1 (.tmp 1), none⟩,
 ⟨some 15, .load false 1 (.tmp 14), none⟩,
 ⟨some 16, .call 130 [.tmp 15], none⟩,
 ⟨some 17, .faddr 4 1 (.tmp 1), none⟩,
 ⟨some 18, .load false 1 (.tmp 17), none⟩,
 ⟨some 19, .call 131 [.tmp 18], none⟩,
 ⟨some 20, .faddr 5 1 (.tmp 1), none⟩,
 ⟨some 21, .load false 1 (.tmp 20), none⟩,
 ⟨some 22, .call 132 [.tmp 21], none⟩,
 ⟨some 23, .faddr 6 1 (.tmp 1), none⟩,
 ⟨some 24, .load false 1 (.tmp 23), none⟩,
 ⟨some 25, .call 133 [.tmp 24], none⟩,
 ⟨some 26, .build [.sl .nil 0 [], .sl .nil 0 [], .sl .nil 0 [], .sl .nil 0 [], .sl .nil 0 [], .sl .nil 0 [], .sl .nil 0 []] [(0, 1, .tmp 7), (1, 1, .tmp 10), (2, 1, .tmp 13), (3, 1, .tmp 16), (4, 1, .tmp 19), (5, 1, .tmp 22), (6, 1, .tmp 25)], none⟩,
 ⟨some 3, .alloc [.sl .nil 0 [], .sl .nil 0 [], .sl .nil 0 [], .sl .nil 0 [], .sl .nil 0 [], .sl .nil 0 [], .sl .nil 0 []], none⟩,
 ⟨none, .store 7 (.tmp 3) (.tmp 26), none⟩] [1, 5, 6, 7, 8, 9, 10, 11, 12, 13, 14, 15, 16, 17, 18, 19, 20, 21, 22, 23, 24, 25, 26])
 (.seq
 (.seq
 (.shift
 (.region false [
 ⟨some 27, .faddr 6 1 (.tmp 3), none⟩,
 ⟨some 28, .load false 1 (.tmp 27), none⟩,
 ⟨some 29, .lenl (.tmp 28), none⟩,
 ⟨some 30, .mov (.const (.int .i64 0)), none⟩] [27, 28]))
 (.block 0
 (.loop
 (.seq
 (.region false [
 ⟨some 31, .bin .lss 3 (.tmp 30) (.tmp 29), none⟩] [])
 (.seq
 (.cond (.tmp 31)
 .skip
 (.exit 0))
 (.seq
 (.block 1
 (.seq
 (.region false [
 ⟨some 32, .mov (.tmp 30), none⟩,
 ⟨some 4, .mov (.tmp 32), none⟩] [31, 32])
 (.region true [
 ⟨some 33, .faddr 6 1 (.tmp 3), none⟩,
 ⟨some 34, .load false 1 (.tmp 33), none⟩,
 ⟨some 35, .mov (.tmp 4), none⟩,
 ⟨some 36, .faddr 6 1 (.tmp 3), none⟩,
 ⟨some 37, .load false 1 (.tmp 36), none⟩,
 ⟨some 38, .mov (.tmp 4), none⟩,
 ⟨some 39, .iaddr 4 (.tmp 37) (.tmp 38), none⟩,
 ⟨some 40, .faddr 3 1 (.tmp 39), none⟩,
 ⟨some 41, .load false 1 (.tmp 40), none⟩,
 ⟨some 42, .call 88 [.tmp 41], none⟩,
 ⟨some 43, .iaddr 4 (.tmp 34) (.tmp 35), none⟩,
 ⟨some 44, .faddr 3 1 (.tmp 43), none⟩,
 ⟨none, .store 1 (.tmp 44) (.tmp 42), none⟩] [4, 33, 34, 35, 36, 37, 38, 39, 40, 41, 42, 43, 44])) [])
 (.region false [
 ⟨some 45, .bin .add 3 (.tmp 30) (.const (.int .i64 1)), none⟩,
 ⟨some 30, .mov (.tmp 45), none⟩] [45])))) [] []) [29, 30, 31]))
 (.seq
 (.region false [
 ⟨some 46, .load true 7 (.tmp 3), none⟩,
 ⟨none, .store 7 (.tmp 2) (.tmp 46), none⟩] [3, 46])
 .ret))))
abbrev v_q81 : List RV := [.cell true 7 2]
abbrev f_q81 : FuncId := 84
theorem k_q81 : closedOf Tryz.prog Tryz.f84 = (false, some true, some v_q81, some c_q81.plain, 47) := by kernel_rfl
theorem ac_q81 {args : List AV} {r : AV} (h : aw Tryz.prog c_q81 (env0 args) (endQ v_q81 r)) (hargs : args.length ≤ 47 := by decide) (hok : resOK r = true := by rfl) : AC Tryz.prog f_q81 args r :=
  AC_mk (by kernel_rfl) Tryz.func84 k_q81 hargs hok (by decide) h
def c_q82 : ACode :=
 (.seq
 (.region false [
 ⟨some 3, .mov (.tmp 0), none⟩,
 ⟨some 4, .lenl (.tmp 3), none⟩,
 ⟨some 2, .mov (.tmp 4), none⟩] [3, 4])
 (.region false [
 ⟨some 5, .mov (.tmp 0), none⟩,
 ⟨some 6, .mov (.tmp 2), none⟩,
 ⟨some 7, .mov (.tmp 2), none⟩,
 ⟨some 8, .cint .u64 (.tmp 7), none⟩,
 ⟨some 9, .callm 135 [.tmp 8], none⟩,
 ⟨some 10, .callm 134 [.tmp 5, .const (.int .i64 0), .tmp 6, .tmp 9], none⟩] [0, 2, 5, 6, 7, 8, 9, 10]))
abbrev v_q82 : List RV := []
abbrev f_q82 : FuncId := 85
theorem k_q82 : closedOf Tryz.prog Tryz.f85 = (false, some true, some v_q82, some c_q82.plain, 11) := by kernel_rfl
theorem ac_q82 {args : List AV} {r : AV} (h : aw Tryz.prog c_q82 (env0 args) (endQ v_q82 r)) (hargs : args.length ≤ 11 := by decide) (hok : resOK r = true := by rfl) : AC Tryz.prog f_q82 args r :=
  AC_mk (by kernel_rfl) Tryz.func85 k_q82 hargs hok (by decide) h
theorem am_q82 {args : List AV} {c0 c1 : List (Nat × List AV)} {r : AV} (h : aw Tryz.prog c_q82 (env0M args c0) (endM v_q82 r (c0.map (·.1)) c1)) (hc0 : ∀ q ∈ c0, 100000 ≤ q.1) (hargs : args.length ≤ 11 := by decide) (hok : resOK r = true := by rfl) : AM Tryz.prog f_q82 args c0 r c1 :=
  AM_mk (by kernel_rfl) Tryz.func85 k_q82 hargs hok (by decide) hc0 h
def c_q83 : ACode :=
 (.seq
 (.region false [
 ⟨some 2, .mov (.const (.slice none 0 0)), none⟩] [2])
 (.seq
 (.seq
 (.region false [
 ⟨some 6, .mov (.tmp 0), none⟩,
 ⟨some 7, .lenl (.tmp 6), none⟩,
 ⟨some 8, .bin .lss 3 (.tmp 7) (.const (.int .i64 2)), none⟩] [6, 7])
 (.cond (.tmp 8)
 (.seq
 (.shift
 (.region false [
 ⟨some 9, .mov (.tmp 0), none⟩,
 ⟨some 2, .mov (.tmp 9), none⟩] [0, 8, 9]))
 .ret)
 .skip))
 (.seq
 (.seq
 (.region false [
 ⟨some 3, .mov (.const (.int .i64 1)), none⟩] [8])
 (.block 0
 (.loop
 (.seq
 (.seq
 (.region false [
 ⟨some 10, .mov (.tmp 3), none⟩,
 ⟨some 11, .mov (.tmp 0), none⟩,
 ⟨some 12, .lenl (.tmp 11), none⟩,
 ⟨some 13, .bin .lss 3 (.tmp 10) (.tmp 12), none⟩] [10, 11, 12])
 (.cond (.tmp 13)
 .skip
 (.exit 0)))
 (.seq
 (.block 1
 (.seq
 (.region true [
 ⟨some 16, .mov (.tmp 0), none⟩,
 ⟨some 17, .mov (.tmp 3), none⟩,
 ⟨some 18, .iaddr 1 (.tmp 16) (.tmp 17), none⟩,
 ⟨some 19, .load false 1 (.tmp 18), none⟩,
 ⟨some 20, .mov (.tmp 0), none⟩,
 ⟨some 21, .mov (.tmp 3), none⟩,
 ⟨some 22, .bin .sub 3 (.tmp 21) (.const (.int .i64 1)), none⟩,
 ⟨some 23, .iaddr 1 (.tmp 20) (.tmp 22), none⟩,
 ⟨some 24, .load false 1 (.tmp 23), none⟩,
 ⟨some 25, .bin .eql 32 (.tmp 19) (.tmp 24), none⟩] [13, 16, 17, 18, 19, 20, 21, 22, 23, 24])
 (.cond (.tmp 25)
 (.seq
 (.region false [
 ⟨some 26, .mov (.tmp 0), none⟩,
 ⟨some 27, .mov (.tmp 3), none⟩,
 ⟨some 28, .slc 1 (.tmp 26) (some (.tmp 27)) none, none⟩,
 ⟨some 4, .mov (.tmp 28), none⟩] [25, 26, 27, 28])
 (.seq
 (.seq
 (.region false [
 ⟨some 5, .mov (.const (.int .i64 1)), none⟩] [])
 (.block 2
 (.loop
 (.seq
 (.seq
 (.region false [
 ⟨some 29, .mov (.tmp 5), none⟩,
 ⟨some 30, .mov (.tmp 4), none⟩,
 ⟨some 31, .lenl (.tmp 30), none⟩,
 ⟨some 32, .bin .lss 3 (.tmp 29) (.tmp 31), none⟩] [29, 30, 31])
 (.cond (.tmp 32)
 .skip
 (.exit 2)))
 (.seq
 (.block 3
 (.seq
 (.region true [
 ⟨some 35, .mov (.tmp 4), none⟩,
 ⟨some 36, .mov (.tmp 5), none⟩,
 ⟨some 37, .iaddr 1 (.tmp 35) (.tmp 36), none⟩,
 ⟨some 38, .load false 1 (.tmp 37), none⟩,
 ⟨some 39, .mov (.tmp 4), none⟩,
 ⟨some 40, .mov (.tmp 5), none⟩,
 ⟨some 41, .bin .sub 3 (.tmp 40) (.const (.int .i64 1)), none⟩,
 ⟨some 42, .iaddr 1 (.tmp 39) (.tmp 41), none⟩,
 ⟨some 43, .load false 1 (.tmp 42), none⟩,
 ⟨some 44, .bin .neq 32 (.tmp 38) (.tmp 43), none⟩] [32, 35, 36, 37, 38, 39, 40, 41, 42, 43])
 (.cond (.tmp 44)
 (.seq
 (.region false [
 ⟨some 45, .mov (.tmp 0), none⟩,
 ⟨some 46, .mov (.tmp 3), none⟩,
 ⟨some 47, .mov (.tmp 4), none⟩,
 ⟨some 48, .mov (.tmp 5), none⟩,
 ⟨some 49, .iaddr 1 (.tmp 47) (.tmp 48), none⟩,
 ⟨some 50, .load false 1 (.tmp 49), none⟩,
 ⟨some 51, .iaddr 1 (.tmp 45) (.tmp 46), none⟩,
 ⟨none, .store 1 (.tmp 51) (.tmp 50), none⟩] [44, 45, 46, 47, 48, 49, 50, 51])
 (.region false [
 ⟨some 52, .mov (.tmp 3), none⟩,
 ⟨some 53, .bin .add 3 (.tmp 52) (.const (.int .i64 1)), none⟩,
 ⟨some 3, .mov (.tmp 53), none⟩] [52, 53]))
 .skip)) [44])
 (.region false [
 ⟨some 33, .mov (.tmp 5), none⟩,
 ⟨some 34, .bin .add 3 (.tmp 33) (.const (.int .i64 1)), none⟩,
 ⟨some 5, .mov (.tmp 34), none⟩] [33, 34]))) [] []) [4, 5, 32]))
 (.seq
 (.region false [
 ⟨some 54, .mov (.tmp 0), none⟩,
 ⟨some 55, .mov (.tmp 3), none⟩,
 ⟨some 56, .slc 1 (.tmp 54) (some (.tmp 55)) none, none⟩,
 ⟨none, .clr [.lit (.int .u32 0)] (.tmp 56), none⟩] [54, 55, 56])
 (.seq
 (.region false [
 ⟨some 57, .mov (.tmp 0), none⟩,
 ⟨some 58, .mov (.tmp 3), none⟩,
 ⟨some 59, .slc 1 (.tmp 57) none (some (.tmp 58)), none⟩,
 ⟨some 2, .mov (.tmp 59), none⟩] [0, 3, 57, 58, 59])
 .ret))))
 .skip)) [25])
 (.region false [
 ⟨some 14, .mov (.tmp 3), none⟩,
 ⟨some 15, .bin .add 3 (.tmp 14) (.const (.int .i64 1)), none⟩,
 ⟨some 3, .mov (.tmp 15), none⟩] [14, 15]))) [] []) [3, 13]))
 (.seq
 (.region false [
 ⟨some 60, .mov (.tmp 0), none⟩,
 ⟨some 2, .mov (.tmp 60), none⟩] [0, 60])
 .ret))))
abbrev v_q83 : List RV := [.tmp 2]
abbrev f_q83 : FuncId := 86
theorem k_q83 : closedOf Tryz.prog Tryz.f86 = (false, some true, some v_q83, some c_q83.plain, 61) := by kernel_rfl
theorem ac_q83 {args : List AV} {r : AV} (h : aw Tryz.prog c_q83 (env0 args) (endQ v_q83 r)) (hargs : args.length ≤ 61 := by decide) (hok : resOK r = true := by rfl) : AC Tryz.prog f_q83 args r :=
  AC_mk (by kernel_rfl) Tryz.func86 k_q83 hargs hok (by decide) h
theorem am_q83 {args : List AV} {c0 c1 : List (Nat × List AV)} {r : AV} (h : aw Tryz.prog c_q83 (env0M args c0) (endM v_q83 r (c0.map (·.1)) c1)) (hc0 : ∀ q ∈ c0, 100000 ≤ q.1) (hargs : args.length ≤ 61 := by decide) (hok : resOK r = true := by rfl) : AM Tryz.prog f_q83 args c0 r c1 :=
  AM_mk (by kernel_rfl) Tryz.func86 k_q83 hargs hok (by decide) hc0 h
def c_q85 : ACode :=
 (.seq
 (.region false [
 ⟨some 2, .mov (.const (.slice none 0 0)), none⟩] [2])
 (.seq
 (.seq
 (.region false [
 ⟨some 3, .mov (.tmp 0), none⟩,
 ⟨some 4, .eqs false (.tmp 3), none⟩] [3])
 (.cond (.tmp 4)
 (.seq
 (.region false [
 ⟨some 2, .mov (.const (.slice none 0 0)), none⟩] [0, 4])
 .ret)
 .skip))
 (.seq
 (.shift
 (.region false [
 ⟨some 5, .bsl0 1, none⟩,
 ⟨some 6, .mov (.tmp 0), none⟩,
 ⟨some 7, .app 1 4 [] (.tmp 5) (.tmp 6), none⟩,
 ⟨some 2, .mov (.tmp 7), none⟩] [0, 4, 5, 6, 7]))
 .ret)))
abbrev v_q85 : List RV := [.tmp 2]
abbrev f_q85 : FuncId := 88
theorem k_q85 : closedOf Tryz.prog Tryz.f88 = (false, some true, some v_q85, some c_q85.plain, 8) := by kernel_rfl
theorem ac_q85 {args : List AV} {r : AV} (h : aw Tryz.prog c_q85 (env0 args) (endQ v_q85 r)) (hargs : args.length ≤ 8 := by decide) (hok : resOK r = true := by rfl) : AC Tryz.prog f_q85 args r :=
  AC_mk (by kernel_rfl) Tryz.func88 k_q85 hargs hok (by decide) h
def c_q86 : ACode :=
 (.seq
 (.region false [
 ⟨some 2, .mov (.const (.int .u32 0)), none⟩] [2])
 (.seq
 (.region false [
 ⟨some 3, .mov (.tmp 0), none⟩,
 ⟨some 4, .cint .u32 (.tmp 3), none⟩,
 ⟨some 5, .bin .or 32 (.const (.int .u32 3758161920)) (.tmp 4), none⟩,
 ⟨some 2, .mov (.tmp 5), none⟩] [0, 3, 4, 5])
 .ret))
abbrev v_q86 : List RV := [.tmp 2]
abbrev f_q86 : FuncId := 89
theorem k_q86 : closedOf Tryz.prog Tryz.f89 = (false, some true, some v_q86, some c_q86.plain, 6) := by kernel_rfl
theorem ac_q86 {args : List AV} {r : AV} (h : aw Tryz.prog c_q86 (env0 args) (endQ v_q86 r)) (hargs : args.length ≤ 6 := by decide) (hok : resOK r = true := by rfl) : AC Tryz.prog f_q86 args r :=
  AC_mk (by kernel_rfl) Tryz.func89 k_q86 hargs hok (by decide) h
def c_q87 : ACode :=
 (.seq
 (.region false [
 ⟨some 2, .mov (.const (.pointer none)), none⟩] [2])
 (.seq
 (.region false [
 ⟨some 3, .mov (.tmp 0), none⟩,
 ⟨some 4, .nilchk (.tmp 3), none⟩,
 ⟨some 5, .faddr 0 7 (.tmp 4), none⟩,
 ⟨some 2, .mov (.tmp 5), none⟩] [0, 3, 4, 5])
 .ret))
abbrev v_q87 : List RV := [.tmp 2]
abbrev f_q87 : FuncId := 90
theorem k_q87 : closedOf Tryz.prog Tryz.f90 = (false, some true, some v_q87, some c_q87.plain, 6) := by kernel_rfl
theorem ac_q87 {args : List AV} {r : AV} (h : aw Tryz.prog c_q87 (env0 args) (endQ v_q87 r)) (hargs : args.length ≤ 6 := by decide) (hok : resOK r = true := by rfl) : AC Tryz.prog f_q87 args r :=
  AC_mk (by kernel_rfl) Tryz.func90 k_q87 hargs hok (by decide) h
def c_q88 : ACode :=
 (.seq
 (.region false [
 ⟨some 2, .mov (.const (.bool false)), none⟩] [2])
 (.seq
 (.region false [
 ⟨some 4, .mov (.tmp 0), none⟩,
 ⟨some 5, .callm 137 [.tmp 4], none⟩,
 ⟨some 3, .alloc [.lit (.int .u8 0), .lit (.int .u8 0), .lit (.int .u8 0), .lit (.int .u8 0)], none⟩,
 ⟨none, .store 4 (.tmp 3) (.tmp 5), none⟩] [0, 4, 5])
 (.seq
 (.region false [
 ⟨some 6, .iadra 4 1 (.tmp 3) (.const (.int .i64 0)), none⟩,
 ⟨some 7, .load false 1 (.tmp 6), none⟩,
 ⟨some 8, .bin .geq 5 (.tmp 7) (.const (.int .u8 224)), none⟩,
 ⟨some 9, .mov (.tmp 8), none⟩,
 ⟨some 10, .iadra 4 1 (.tmp 3) (.const (.int .i64 0)), (some (9, true))⟩,
 ⟨some 11, .load false 1 (.tmp 10), (some (9, true))⟩,
 ⟨some 12, .bin .leq 5 (.tmp 11) (.const (.int .u8 239)), (some (9, true))⟩,
 ⟨some 13, .pick (.tmp 9) (.tmp 12) (.const (.bool false)), none⟩,
 ⟨some 2, .mov (.tmp 13), none⟩] [3, 6, 7, 8, 9, 10, 11, 12, 13])
 .ret)))
abbrev v_q88 : List RV := [.tmp 2]
abbrev f_q88 : FuncId := 91
theorem k_q88 : closedOf Tryz.prog Tryz.f91 = (false, some true, some v_q88, some c_q88.plain, 14) := by kernel_rfl
theorem ac_q88 {args : List AV} {r : AV} (h : aw Tryz.prog c_q88 (env0 args) (endQ v_q88 r)) (hargs : args.length ≤ 14 := by decide) (hok : resOK r = true := by rfl) : AC Tryz.prog f_q88 args r :=
  AC_mk (by kernel_rfl) Tryz.func91 k_q88 hargs hok (by decide) h
def c_q89 : ACode :=
 (.seq
 (.region false [
 ⟨some 2, .box (.tmp 0), none⟩,
 ⟨some 4, .mov (.const (.bool false)), none⟩] [0, 4])
 (.seq
 (.region true [
 ⟨some 5, .load true 2 (.tmp 2), none⟩,
 ⟨some 6, .call 138 [.tmp 5], none⟩,
 ⟨some 7, .mov (.tmp 6), none⟩,
 ⟨some 8, .mov (.tmp 1), (some (7, true))⟩,
 ⟨some 9, .faddr 1 1 (.tmp 2), (some (7, true))⟩,
 ⟨some 10, .load false 1 (.tmp 9), (some (7, true))⟩,
 ⟨some 11, .call 139 [.tmp 10], (some (7, true))⟩,
 ⟨some 12, .bin .and 32 (.tmp 8) (.tmp 11), (some (7, true))⟩,
 ⟨some 13, .faddr 0 1 (.tmp 2), (some (7, true))⟩,
 ⟨some 14, .load false 1 (.tmp 13), (some (7, true))⟩,
 ⟨some 15, .bin .eql 32 (.tmp 12) (.tmp 14), (some (7, true))⟩,
 ⟨some 16, .pick (.tmp 7) (.tmp 15) (.const (.bool false)), none⟩,
 ⟨some 4, .mov (.tmp 16), none⟩] [1, 2, 5, 6, 7, 8, 9, 10, 11, 12, 13, 14, 15, 16])
 .ret))
abbrev v_q89 : List RV := [.tmp 4]
abbrev f_q89 : FuncId := 92
theorem k_q89 : closedOf Tryz.prog Tryz.f92 = (false, some true, some v_q89, some c_q89.plain, 17) := by kernel_rfl
theorem ac_q89 {args : List AV} {r : AV} (h : aw Tryz.prog c_q89 (env0 args) (endQ v_q89 r)) (hargs : args.length ≤ 17 := by decide) (hok : resOK r = true := by rfl) : AC Tryz.prog f_q89 args r :=
  AC_mk (by kernel_rfl) Tryz.func92 k_q89 hargs hok (by decide) h
def c_q90 : ACode :=
 (.seq
 (.region false [
 ⟨some 2, .box (.tmp 0), none⟩,
 ⟨some 4, .mov (.const (.bool false)), none⟩] [0, 4])
 (.seq
 (.region true [
 ⟨some 5, .load true 2 (.tmp 2), none⟩,
 ⟨some 6, .call 140 [.tmp 5], none⟩,
 ⟨some 7, .mov (.tmp 6), none⟩,
 ⟨some 8, .mov (.tmp 1), (some (7, true))⟩,
 ⟨some 9, .faddr 1 1 (.tmp 2), (some (7, true))⟩,
 ⟨some 10, .load false 1 (.tmp 9), (some (7, true))⟩,
 ⟨some 11, .call 141 [.tmp 10], (some (7, true))⟩,
 ⟨some 12, .bin .and 32 (.tmp 8) (.tmp 11), (some (7, true))⟩,
 ⟨some 13, .faddr 0 1 (.tmp 2), (some (7, true))⟩,
 ⟨some 14, .load false 1 (.tmp 13), (some (7, true))⟩,
 ⟨some 15, .bin .eql 32 (.tmp 12) (.tmp 14), (some (7, true))⟩,
 ⟨some 16, .pick (.tmp 7) (.tmp 15) (.const (.bool false)), none⟩,
 ⟨some 4, .mov (.tmp 16), none⟩] [1, 2, 5, 6, 7, 8, 9, 10, 11, 12, 13, 14, 15, 16])
 .ret))
abbrev v_q90 : List RV := [.tmp 4]
abbrev f_q90 : FuncId := 93
theorem k_q90 : closedOf Tryz.prog Tryz.f93 = (false, some true, some v_q90, some c_q90.plain, 17) := by kernel_rfl
theorem ac_q90 {args : List AV} {r : AV} (h : aw Tryz.prog c_q90 (env0 args) (endQ v_q90 r)) (hargs : args.length ≤ 17 := by decide) (hok : resOK r = true := by rfl) : AC Tryz.prog f_q90 args r :=
  AC_mk (by kernel_rfl) Tryz.func93 k_q90 hargs hok (by decide) h
def c_q91 : ACode :=
 (.seq
 (.region false [
 ⟨some 4, .mov (.const (.string ⟨#[]⟩)), none⟩] [4])
 (.seq
 (.seq
 (.region false [
 ⟨some 5, .mov (.tmp 1), none⟩,
 ⟨some 6, .bin .lss 3 (.tmp 5) (.const (.int .i64 10)), none⟩] [5])
 (.cond (.tmp 6)
 (.seq
 (.region false [
 ⟨some 7, .mov (.tmp 0), none⟩,
 ⟨some 8, .mov (.tmp 1), none⟩,
 ⟨some 9, .bin .add 3 (.const (.int .i64 48)) (.tmp 8), none⟩,
 ⟨some 10, .cint .i32 (.tmp 9), none⟩,
 ⟨some 11, .i2s (.tmp 10), none⟩,
 ⟨some 12, .bin .add 9 (.tmp 7) (.tmp 11), none⟩,
 ⟨some 4, .mov (.tmp 12), none⟩] [0, 1, 6, 7, 8, 9, 10, 11, 12])
 .ret)
 .skip))
 (.seq
 (.region false [
 ⟨some 13, .mov (.tmp 0), none⟩,
 ⟨some 14, .mov (.tmp 1), none⟩,
 ⟨some 15, .bin .quo 3 (.tmp 14) (.const (.int .i64 10)), none⟩,
 ⟨some 16, .bin .add 3 (.const (.int .i64 48)) (.tmp 15), none⟩,
 ⟨some 17, .cint .i32 (.tmp 16), none⟩,
 ⟨some 18, .i2s (.tmp 17), none⟩,
 ⟨some 19, .bin .add 9 (.tmp 13) (.tmp 18), none⟩,
 ⟨some 20, .mov (.tmp 1), none⟩,
 ⟨some 21, .bin .rem 3 (.tmp 20) (.const (.int .i64 10)), none⟩,
 ⟨some 22, .bin .add 3 (.const (.int .i64 48)) (.tmp 21), none⟩,
 ⟨some 23, .cint .i32 (.tmp 22), none⟩,
 ⟨some 24, .i2s (.tmp 23), none⟩,
 ⟨some 25, .bin .add 9 (.tmp 19) (.tmp 24), none⟩,
 ⟨some 4, .mov (.tmp 25), none⟩] [0, 1, 6, 13, 14, 15, 16, 17, 18, 19, 20, 21, 22, 23, 24, 25])
 .ret)))
abbrev v_q91 : List RV := [.tmp 4]
abbrev f_q91 : FuncId := 94
theorem k_q91 : closedOf Tryz.prog Tryz.f94 = (false, some true, some v_q91, some c_q91.plain, 26) := by kernel_rfl
theorem ac_q91 {args : List AV} {r : AV} (h : aw Tryz.prog c_q91 (env0 args) (endQ v_q91 r)) (hargs : args.length ≤ 26 := by decide) (hok : resOK r = true := by rfl) : AC Tryz.prog f_q91 args r :=
  AC_mk (by kernel_rfl) Tryz.func94 k_q91 hargs hok (by decide) h
def c_q92 : ACode :=
 (.seq
 (.region false [
 ⟨some 0, .alloc [.lit (.int .u32 0), .lit (.int .i64 0)], none⟩] [])
 (.seq
 (.region false [
 ⟨some 1, .build [.lit (.int .u32 0), .lit (.int .i64 0)] [(0, 1, .const (.int .u32 3758096384)), (1, 1, .const (.int .i64 4))], none⟩,
 ⟨none, .store 2 (.tmp 0) (.tmp 1), none⟩] [1])
 .ret))
abbrev v_q92 : List RV := [.cell true 2 0]
abbrev f_q92 : FuncId := 95
theorem k_q92 : closedOf Tryz.prog Tryz.f95 = (false, some true, some v_q92, some c_q92.plain, 2) := by kernel_rfl
theorem ac_q92 {args : List AV} {r : AV} (h : aw Tryz.prog c_q92 (env0 args) (endQ v_q92 r)) (hargs : args.length ≤ 2 := by decide) (hok : resOK r = true := by rfl) : AC Tryz.prog f_q92 args r :=
  AC_mk (by kernel_rfl) Tryz.func95 k_q92 hargs hok (by decide) h
def c_q93 : ACode :=
 (.seq
 (.region false [
 ⟨some 1, .box (.tmp 0), none⟩,
 ⟨some 2, .alloc [.lit (.int .i64 0), .lit (.int .i64 0), .lit (.int .i64 0), .lit (.int .i64 0), .lit (.int .i64 0), .lit (.int .i64 0), .lit (.int .i64 0)], none⟩,
 ⟨some 3, .alloc [.lit (.int .i64 0), .lit (.int .i64 0), .lit (.int .i64 0), .lit (.int .i64 0), .lit (.int .i64 0), .lit (.int .i64 0), .lit (.int .i64 0)], none⟩] [0])
 (.seq
 (.region false [
 ⟨some 4, .faddr 0 1 (.tmp 1), none⟩,
 ⟨some 5, .load false 1 (.tmp 4), none⟩,
 ⟨some 6, .lenl (.tmp 5), none⟩,
 ⟨some 7, .faddr 1 1 (.tmp 1), none⟩,
 ⟨some 8, .load false 1 (.tmp 7), none⟩,
 ⟨some 9, .lenl (.tmp 8), none⟩,
 ⟨some 10, .faddr 2 1 (.tmp 1), none⟩,
 ⟨some 11, .load false 1 (.tmp 10), none⟩,
 ⟨some 12, .lenl (.tmp 11), none⟩,
 ⟨some 13, .faddr 3 1 (.tmp 1), none⟩,
 ⟨some 14, .load false 1 (.tmp 13), none⟩,
 ⟨some 15, .lenl (.tmp 14), none⟩,
 ⟨some 16, .faddr 4 1 (.tmp 1), none⟩,
 ⟨some 17, .load false 1 (.tmp 16), none⟩,
 ⟨some 18, .lenl (.tmp 17), none⟩,
 ⟨some 19, .faddr 5 1 (.tmp 1), none⟩,
 ⟨some 20, .load false 1 (.tmp 19), none⟩,
 ⟨some 21, .lenl (.tmp 20), none⟩,
 ⟨some 22, .faddr 6 1 (.tmp 1), none⟩,
 ⟨some 23, .load false 1 (.tmp 22), none⟩,
 ⟨some 24, .lenl (.tmp 23), none⟩,
 ⟨some 25, .build [.lit (.int .i64 0), .lit (.int .i64 0), .lit (.int .i64 0), .lit (.int .i64 0), .lit (.int .i64 0), .lit (.int .i64 0), .lit (.int .i64 0)] [(0, 1, .tmp 6), (1, 1, .tmp 9), (2, 1, .tmp 12), (3, 1, .tmp 15), (4, 1, .tmp 18), (5, 1, .tmp 21), (6, 1, .tmp 24)], none⟩,
 ⟨some 26, .build [.lit (.int .i64 0), .lit (.int .i64 0), .lit (.int .i64 0), .lit (.int .i64 0), .lit (.int .i64 0), .lit (.int .i64 0), .lit (.int .i64 0)] [(0, 1, .const (.int .i64 16)), (1, 1, .const (.int .i64 24)), (2, 1, .const (.int .i64 64)), (3, 1, .const (.int .i64 96)), (4, 1, .const (.int .i64 8)), (5, 1, .const (.int .i64 8)), (6, 1, .const (.int .i64 24))], none⟩,
 ⟨none, .store 7 (.tmp 2) (.tmp 25), none⟩,
 ⟨none, .store 7 (.tmp 3) (.tmp 26), none⟩] [1, 4, 5, 6, 7, 8, 9, 10, 11, 12, 13, 14, 15, 16, 17, 18, 19, 20, 21, 22, 23, 24, 25, 26])
 .ret))
abbrev v_q93 : List RV := [.cell true 7 2, .cell true 7 3]
abbrev f_q93 : FuncId := 96
theorem k_q93 : closedOf Tryz.prog Tryz.f96 = (false, some true, some v_q93, some c_q93.plain, 27) := by kernel_rfl
theorem ac_q93 {args : List AV} {r : AV} (h : aw Tryz.prog c_q93 (env0 args) (endQ v_q93 r)) (hargs : args.length ≤ 27 := by decide) (hok : resOK r = true := by rfl) : AC Tryz.prog f_q93 args r :=
  AC_mk (by kernel_rfl) Tryz.func96 k_q93 hargs hok (by decide) h
def c_q94 : ACode :=
 (.seq
 (.region false [
 ⟨some 3, .box (.tmp 0), none⟩,
 ⟨some 6, .mov (.const (.int .i64 0)), none⟩] [0, 6])
 (.seq
 (.seq
 (.region false [
 ⟨some 7, .mov (.tmp 1), none⟩] [1])
 (.block 0
 (.seq
 (.region false [
 ⟨some 9, .bin .eql 3 (.tmp 7) (.const (.int .i64 0)), none⟩,
 ⟨some 8, .mov (.tmp 9), none⟩] [9])
 (.cond (.tmp 8)
 (.seq
 (.region false [
 ⟨some 10, .load true 7 (.tmp 3), none⟩,
 ⟨some 11, .mov (.tmp 2), none⟩,
 ⟨some 12, .callm 142 [.tmp 10, .tmp 11], none⟩,
 ⟨some 6, .mov (.tmp 12), none⟩] [2, 3, 7, 8, 10, 11, 12])
 .ret)
 (.seq
 (.region false [
 ⟨some 14, .bin .eql 3 (.tmp 7) (.const (.int .i64 1)), none⟩,
 ⟨some 13, .mov (.tmp 14), none⟩] [8, 14])
 (.cond (.tmp 13)
 (.seq
 (.region false [
 ⟨some 15, .load true 7 (.tmp 3), none⟩,
 ⟨some 16, .mov (.tmp 2), none⟩,
 ⟨some 17, .callm 143 [.tmp 15, .tmp 16], none⟩,
 ⟨some 6, .mov (.tmp 17), none⟩] [2, 3, 7, 13, 15, 16, 17])
 .ret)
 (.seq
 (.region false [
 ⟨some 19, .bin .eql 3 (.tmp 7) (.const (.int .i64 2)), none⟩,
 ⟨some 18, .mov (.tmp 19), none⟩] [13, 19])
 (.cond (.tmp 18)
 (.seq
 (.region false [
 ⟨some 20, .load true 7 (.tmp 3), none⟩,
 ⟨some 21, .mov (.tmp 2), none⟩,
 ⟨some 22, .callm 144 [.tmp 20, .tmp 21], none⟩,
 ⟨some 6, .mov (.tmp 22), none⟩] [2, 3, 7, 18, 20, 21, 22])
 .ret)
 (.seq
 (.region false [
 ⟨some 24, .bin .eql 3 (.tmp 7) (.const (.int .i64 3)), none⟩,
 ⟨some 23, .mov (.tmp 24), none⟩] [18, 24])
 (.cond (.tmp 23)
 (.seq
 (.region false [
 ⟨some 25, .load true 7 (.tmp 3), none⟩,
 ⟨some 26, .mov (.tmp 2), none⟩,
 ⟨some 27, .callm 145 [.tmp 25, .tmp 26], none⟩,
 ⟨some 6, .mov (.tmp 27), none⟩] [2, 3, 7, 23, 25, 26, 27])
 .ret)
 (.seq
 (.region false [
 ⟨some 29, .bin .eql 3 (.tmp 7) (.const (.int .i64 4)), none⟩,
 ⟨some 28, .mov (.tmp 29), none⟩] [23, 29])
 (.cond (.tmp 28)
 (.seq
 (.region false [
 ⟨some 30, .load true 7 (.tmp 3), none⟩,
 ⟨some 31, .mov (.tmp 2), none⟩,
 ⟨some 32, .callm 146 [.tmp 30, .tmp 31], none⟩,
 ⟨some 6, .mov (.tmp 32), none⟩] [2, 3, 7, 28, 30, 31, 32])
 .ret)
 (.seq
 (.region false [
 ⟨some 34, .bin .eql 3 (.tmp 7) (.const (.int .i64 5)), none⟩,
 ⟨some 33, .mov (.tmp 34), none⟩] [7, 28, 34])
 (.cond (.tmp 33)
 (.seq
 (.region false [
 ⟨some 35, .load true 7 (.tmp 3), none⟩,
 ⟨some 36, .mov (.tmp 2), none⟩,
 ⟨some 37, .callm 147 [.tmp 35, .tmp 36], none⟩,
 ⟨some 6, .mov (.tmp 37), none⟩] [2, 3, 33, 35, 36, 37])
 .ret)
 .skip)))))))))))) [33]))
 (.seq
 (.region false [
 ⟨some 38, .load true 7 (.tmp 3), none⟩,
 ⟨some 39, .mov (.tmp 2), none⟩,
 ⟨some 40, .callm 148 [.tmp 38, .tmp 39], none⟩,
 ⟨some 6, .mov (.tmp 40), none⟩] [2, 3, 38, 39, 40])
 .ret)))
abbrev v_q94 : List RV := [.tmp 6]
abbrev f_q94 : FuncId := 97
theorem k_q94 : closedOf Tryz.prog Tryz.f97 = (false, some true, some v_q94, some c_q94.plain, 41) := by kernel_rfl
theorem ac_q94 {args : List AV} {r : AV} (h : aw Tryz.prog c_q94 (env0 args) (endQ v_q94 r)) (hargs : args.length ≤ 41 := by decide) (hok : resOK r = true := by rfl) : AC Tryz.prog f_q94 args r :=
  AC_mk (by kernel_rfl) Tryz.func97 k_q94 hargs hok (by decide) h
def c_q110 : ACode :=
 (.seq
 (.region false [
 ⟨some 4, .mov (.const (.bool false)), none⟩] [4])
 (.seq
 (.region false [
 ⟨some 5, .mov (.tmp 0), none⟩,
 ⟨some 6, .mov (.tmp 1), none⟩,
 ⟨some 7, .callm 160 [.tmp 5, .tmp 6], none⟩,
 ⟨some 8, .bin .geq 3 (.tmp 7) (.const (.int .i64 0)), none⟩,
 ⟨some 4, .mov (.tmp 8), none⟩] [0, 1, 5, 6, 7, 8])
 .ret))
abbrev v_q110 : List RV := [.tmp 4]
abbrev f_q110 : FuncId := 113
theorem k_q110 : closedOf Tryz.prog Tryz.f113 = (false, some true, some v_q110, some c_q110.plain, 9) := by kernel_rfl
theorem ac_q110 {args : List AV} {r : AV} (h : aw Tryz.prog c_q110 (env0 args) (endQ v_q110 r)) (hargs : args.length ≤ 9 := by decide) (hok : resOK r = true := by rfl) : AC Tryz.prog f_q110 args r :=
  AC_mk (by kernel_rfl) Tryz.func113 k_q110 hargs hok (by decide) h
def c_q117 : ACode :=
 (.seq
 (.region false [
 ⟨some 2, .box (.tmp 0), none⟩,
 ⟨some 4, .mov (.const (.nilIface)), none⟩] [0, 4])
 (.seq
 (.region false [
 ⟨some 7, .faddr 0 7 (.tmp 2), none⟩,
 ⟨some 8, .faddr 0 1 (.tmp 7), none⟩,
 ⟨some 9, .load false 1 (.tmp 8), none⟩,
 ⟨some 10, .mov (.tmp 1), none⟩,
 ⟨some 11, .iaddr 2 (.tmp 9) (.tmp 10), none⟩,
 ⟨some 12, .load true 2 (.tmp 11), none⟩,
 ⟨some 5, .alloc [.lit (.string ⟨#[]⟩), .lit (.int .i64 0)], none⟩,
 ⟨none, .store 2 (.tmp 5) (.tmp 12), none⟩] [7, 8, 9, 10, 11, 12])
 (.seq
 (.seq
 (.region false [
 ⟨some 13, .faddr 0 1 (.tmp 5), none⟩,
 ⟨some 14, .load false 1 (.tmp 13), none⟩,
 ⟨some 15, .callm 163 [.tmp 14], none⟩,
 ⟨some 6, .mov (.tmp 15), none⟩] [13, 14, 15])
 (.seq
 (.region false [
 ⟨some 16, .mov (.tmp 6), none⟩,
 ⟨some 17, .eqn true (.tmp 16), none⟩] [16])
 (.cond (.tmp 17)
 (.seq
 (.region false [
 ⟨some 18, .mov (.tmp 6), none⟩,
 ⟨some 4, .mov (.tmp 18), none⟩] [1, 2, 5, 6, 17, 18])
 .ret)
 .skip)))
 (.seq
 (.block 0
 (.seq
 (.region false [
 ⟨some 20, .faddr 0 7 (.tmp 2), none⟩,
 ⟨some 21, .faddr 0 1 (.tmp 20), none⟩,
 ⟨some 22, .load false 1 (.tmp 21), none⟩,
 ⟨some 23, .mov (.tmp 1), none⟩,
 ⟨some 24, .slc 2 (.tmp 22) none (some (.tmp 23)), none⟩,
 ⟨some 25, .mkfn (.func 165) [] [.tmp 5], none⟩,
 ⟨some 26, .callm 164 [.tmp 24, .tmp 25], none⟩,
 ⟨some 19, .mov (.tmp 26), none⟩] [1, 2, 6, 17, 20, 21, 22, 23, 24, 25, 26])
 (.cond (.tmp 19)
 (.seq
 (.region false [
 ⟨some 27, .load false 1 (.global 1), none⟩,
 ⟨some 4, .mov (.tmp 27), none⟩] [5, 19, 27])
 .ret)
 (.seq
 (.region false [
 ⟨some 29, .faddr 1 1 (.tmp 5), none⟩,
 ⟨some 30, .load false 1 (.tmp 29), none⟩,
 ⟨some 31, .callm 166 [.tmp 30], none⟩,
 ⟨some 32, .un .not (.tmp 31), none⟩,
 ⟨some 28, .mov (.tmp 32), none⟩] [5, 19, 29, 30, 31, 32])
 (.cond (.tmp 28)
 (.seq
 (.region false [
 ⟨some 33, .load false 1 (.global 2), none⟩,
 ⟨some 4, .mov (.tmp 33), none⟩] [28, 33])
 .ret)
 .skip)))) [28])
 (.seq
 (.region false [
 ⟨some 4, .mov (.const (.nilIface)), none⟩] [])
 .ret)))))
abbrev v_q117 : List RV := [.tmp 4]
abbrev f_q117 : FuncId := 120
theorem k_q117 : closedOf Tryz.prog Tryz.f120 = (false, some true, some v_q117, some c_q117.plain, 34) := by kernel_rfl
theorem ac_q117 {args : List AV} {r : AV} (h : aw Tryz.prog c_q117 (env0 args) (endQ v_q117 r)) (hargs : args.length ≤ 34 := by decide) (hok : resOK r = true := by rfl) : AC Tryz.prog f_q117 args r :=
  AC_mk (by kernel_rfl) Tryz.func120 k_q117 hargs hok (by decide) h
def c_q118 : ACode :=
 (.seq
 (.region false [
 ⟨some 2, .box (.tmp 0), none⟩,
 ⟨some 4, .mov (.const (.nilIface)), none⟩] [0, 4])
 (.seq
 (.region false [
 ⟨some 7, .faddr 0 7 (.tmp 2), none⟩,
 ⟨some 8, .faddr 1 1 (.tmp 7), none⟩,
 ⟨some 9, .load false 1 (.tmp 8), none⟩,
 ⟨some 10, .mov (.tmp 1), none⟩,
 ⟨some 11, .iaddr 3 (.tmp 9) (.tmp 10), none⟩,
 ⟨some 12, .load true 3 (.tmp 11), none⟩,
 ⟨some 5, .alloc [.lit (.string ⟨#[]⟩), .lit (.int .u32 0), .lit (.int .i64 0)], none⟩,
 ⟨none, .store 3 (.tmp 5) (.tmp 12), none⟩] [7, 8, 9, 10, 11, 12])
 (.seq
 (.seq
 (.region false [
 ⟨some 13, .faddr 0 1 (.tmp 5), none⟩,
 ⟨some 14, .load false 1 (.tmp 13), none⟩,
 ⟨some 15, .callm 163 [.tmp 14], none⟩,
 ⟨some 6, .mov (.tmp 15), none⟩] [13, 14, 15])
 (.seq
 (.region false [
 ⟨some 16, .mov (.tmp 6), none⟩,
 ⟨some 17, .eqn true (.tmp 16), none⟩] [16])
 (.cond (.tmp 17)
 (.seq
 (.region false [
 ⟨some 18, .mov (.tmp 6), none⟩,
 ⟨some 4, .mov (.tmp 18), none⟩] [1, 2, 5, 6, 17, 18])
 .ret)
 .skip)))
 (.seq
 (.block 0
 (.seq
 (.region false [
 ⟨some 20, .faddr 0 7 (.tmp 2), none⟩,
 ⟨some 21, .faddr 1 1 (.tmp 20), none⟩,
 ⟨some 22, .load false 1 (.tmp 21), none⟩,
 ⟨some 23, .mov (.tmp 1), none⟩,
 ⟨some 24, .slc 3 (.tmp 22) none (some (.tmp 23)), none⟩,
 ⟨some 25, .mkfn (.func 168) [] [.tmp 5], none⟩,
 ⟨some 26, .callm 167 [.tmp 24, .tmp 25], none⟩,
 ⟨some 19, .mov (.tmp 26), none⟩] [1, 2, 6, 17, 20, 21, 22, 23, 24, 25, 26])
 (.cond (.tmp 19)
 (.seq
 (.region false [
 ⟨some 27, .load false 1 (.global 1), none⟩,
 ⟨some 4, .mov (.tmp 27), none⟩] [5, 19, 27])
 .ret)
 (.seq
 (.region false [
 ⟨some 29, .faddr 1 2 (.tmp 5), none⟩,
 ⟨some 30, .load true 2 (.tmp 29), none⟩,
 ⟨some 31, .callm 138 [.tmp 30], none⟩,
 ⟨some 32, .un .not (.tmp 31), none⟩,
 ⟨some 28, .mov (.tmp 32), none⟩] [19, 29, 30, 31, 32])
 (.cond (.tmp 28)
 (.seq
 (.region false [
 ⟨some 33, .load false 1 (.global 2), none⟩,
 ⟨some 4, .mov (.tmp 33), none⟩] [5, 28, 33])
 .ret)
 (.seq
 (.region true [
 ⟨some 35, .faddr 1 2 (.tmp 5), none⟩,
 ⟨some 36, .load true 2 (.tmp 35), none⟩,
 ⟨some 37, .call 170 [], none⟩,
 ⟨some 38, .call 169 [.tmp 36, .tmp 37], none⟩,
 ⟨some 39, .mov (.tmp 38), none⟩,
 ⟨some 40, .call 170 [], (some (39, false))⟩,
 ⟨some 41, .faddr 1 2 (.tmp 5), (some (39, false))⟩,
 ⟨some 42, .load true 2 (.tmp 41), (some (39, false))⟩,
 ⟨some 43, .call 169 [.tmp 40, .tmp 42], (some (39, false))⟩,
 ⟨some 44, .pick (.tmp 39) (.const (.bool true)) (.tmp 43), none⟩,
 ⟨some 34, .mov (.tmp 44), none⟩] [5, 28, 35, 36, 37, 38, 39, 40, 41, 42, 43, 44])
 (.cond (.tmp 34)
 (.seq
 (.region false [
 ⟨some 45, .load false 1 (.global 3), none⟩,
 ⟨some 4, .mov (.tmp 45), none⟩] [34, 45])
 .ret)
 .skip)))))) [34])
 (.seq
 (.region false [
 ⟨some 4, .mov (.const (.nilIface)), none⟩] [])
 .ret)))))
abbrev v_q118 : List RV := [.tmp 4]
abbrev f_q118 : FuncId := 121
theorem k_q118 : closedOf Tryz.prog Tryz.f121 = (false, some true, some v_q118, some c_q118.plain, 46) := by kernel_rfl
theorem ac_q118 {args : List AV} {r : AV} (h : aw Tryz.prog c_q118 (env0 args) (endQ v_q118 r)) (hargs : args.length ≤ 46 := by decide) (hok : resOK r = true := by rfl) : AC Tryz.prog f_q118 args r :=
  AC_mk (by kernel_rfl) Tryz.func121 k_q118 hargs hok (by decide) h
def c_q119 : ACode :=
 (.seq
 (.region false [
 ⟨some 2, .box (.tmp 0), none⟩,
 ⟨some 4, .mov (.const (.nilIface)), none⟩] [0, 4])
 (.seq
 (.region false [
 ⟨some 6, .faddr 0 7 (.tmp 2), none⟩,
 ⟨some 7, .faddr 2 1 (.tmp 6), none⟩,
 ⟨some 8, .load false 1 (.tmp 7), none⟩,
 ⟨some 9, .mov (.tmp 1), none⟩,
 ⟨some 10, .iaddr 3 (.tmp 8) (.tmp 9), none⟩,
 ⟨some 11, .load true 3 (.tmp 10), none⟩,
 ⟨some 5, .alloc [.lit (.int .i64 0), .lit (.int .i64 0), .lit (.int .u32 0)], none⟩,
 ⟨none, .store 3 (.tmp 5) (.tmp 11), none⟩] [6, 7, 8, 9, 10, 11])
 (.seq
 (.block 0
 (.seq
 (.region false [
 ⟨some 13, .faddr 0 1 (.tmp 5), none⟩,
 ⟨some 14, .load false 1 (.tmp 13), none⟩,
 ⟨some 15, .faddr 0 7 (.tmp 2), none⟩,
 ⟨some 16, .faddr 0 1 (.tmp 15), none⟩,
 ⟨some 17, .load false 1 (.tmp 16), none⟩,
 ⟨some 18, .lenl (.tmp 17), none⟩,
 ⟨some 19, .callm 171 [.tmp 14, .tmp 18], none⟩,
 ⟨some 20, .un .not (.tmp 19), none⟩,
 ⟨some 21, .mov (.tmp 20), none⟩,
 ⟨some 22, .faddr 1 1 (.tmp 5), (some (21, false))⟩,
 ⟨some 23, .load false 1 (.tmp 22), (some (21, false))⟩,
 ⟨some 24, .faddr 0 7 (.tmp 2), (some (21, false))⟩,
 ⟨some 25, .faddr 1 1 (.tmp 24), (some (21, false))⟩,
 ⟨some 26, .load false 1 (.tmp 25), (some (21, false))⟩,
 ⟨some 27, .lenl (.tmp 26), (some (21, false))⟩,
 ⟨some 28, .callm 171 [.tmp 23, .tmp 27], (some (21, false))⟩,
 ⟨some 29, .un .not (.tmp 28), (some (21, false))⟩,
 ⟨some 30, .pick (.tmp 21) (.const (.bool true)) (.tmp 29), none⟩,
 ⟨some 12, .mov (.tmp 30), none⟩] [13, 14, 15, 16, 17, 18, 19, 20, 21, 22, 23, 24, 25, 26, 27, 28, 29, 30])
 (.cond (.tmp 12)
 (.seq
 (.region false [
 ⟨some 31, .load false 1 (.global 4), none⟩,
 ⟨some 4, .mov (.tmp 31), none⟩] [1, 2, 5, 12, 31])
 .ret)
 (.seq
 (.region false [
 ⟨some 33, .load true 7 (.tmp 2), none⟩,
 ⟨some 34, .faddr 1 1 (.tmp 5), none⟩,
 ⟨some 35, .load false 1 (.tmp 34), none⟩,
 ⟨some 36, .faddr 2 1 (.tmp 5), none⟩,
 ⟨some 37, .load false 1 (.tmp 36), none⟩,
 ⟨some 38, .callm 172 [.tmp 33, .tmp 35, .tmp 37], none⟩,
 ⟨some 39, .un .not (.tmp 38), none⟩,
 ⟨some 32, .mov (.tmp 39), none⟩] [12, 33, 34, 35, 36, 37, 38, 39])
 (.cond (.tmp 32)
 (.seq
 (.region false [
 ⟨some 40, .load false 1 (.global 5), none⟩,
 ⟨some 4, .mov (.tmp 40), none⟩] [1, 2, 5, 32, 40])
 .ret)
 (.seq
 (.region false [
 ⟨some 42, .faddr 0 7 (.tmp 2), none⟩,
 ⟨some 43, .faddr 2 1 (.tmp 42), none⟩,
 ⟨some 44, .load false 1 (.tmp 43), none⟩,
 ⟨some 45, .mov (.tmp 1), none⟩,
 ⟨some 46, .slc 3 (.tmp 44) none (some (.tmp 45)), none⟩,
 ⟨some 47, .mkfn (.func 174) [] [.tmp 5], none⟩,
 ⟨some 48, .callm 173 [.tmp 46, .tmp 47], none⟩,
 ⟨some 41, .mov (.tmp 48), none⟩] [1, 2, 5, 32, 42, 43, 44, 45, 46, 47, 48])
 (.cond (.tmp 41)
 (.seq
 (.region false [
 ⟨some 49, .load false 1 (.global 1), none⟩,
 ⟨some 4, .mov (.tmp 49), none⟩] [41, 49])
 .ret)
 .skip)))))) [41])
 (.seq
 (.region false [
 ⟨some 4, .mov (.const (.nilIface)), none⟩] [])
 .ret))))
abbrev v_q119 : List RV := [.tmp 4]
abbrev f_q119 : FuncId := 122
theorem k_q119 : closedOf Tryz.prog Tryz.f122 = (false, some true, some v_q119, some c_q119.plain, 50) := by kernel_rfl
theorem ac_q119 {args : List AV} {r : AV} (h : aw Tryz.prog c_q119 (env0 args) (endQ v_q119 r)) (hargs : args.length ≤ 50 := by decide) (hok : resOK r = true := by rfl) : AC Tryz.prog f_q119 args r :=
  AC_mk (by kernel_rfl) Tryz.func122 k_q119 hargs hok (by decide) h
def c_q120 : ACode :=
 (.seq
 (.region false [
 ⟨some 2, .box (.tmp 0), none⟩,
 ⟨some 4, .mov (.const (.nilIface)), none⟩] [0, 4])
 (.seq
 (.region false [
 ⟨some 6, .faddr 0 7 (.tmp 2), none⟩,
 ⟨some 7, .faddr 3 1 (.tmp 6), none⟩,
 ⟨some 8, .load false 1 (.tmp 7), none⟩,
 ⟨some 9, .mov (.tmp 1), none⟩,
 ⟨some 10, .iaddr 5 (.tmp 8) (.tmp 9), none⟩,
 ⟨some 11, .load true 5 (.tmp 10), none⟩,
 ⟨some 5, .alloc [.lit (.int .i64 0), .lit (.int .u32 0), .lit (.int .i64 0), .lit (.int .u32 0), .lit (.int .i64 0)], none⟩,
 ⟨none, .store 5 (.tmp 5) (.tmp 11), none⟩] [1, 6, 7, 8, 9, 10, 11])
 (.seq
 (.block 0
 (.seq
 (.region false [
 ⟨some 13, .faddr 0 1 (.tmp 5), none⟩,
 ⟨some 14, .load false 1 (.tmp 13), none⟩,
 ⟨some 15, .faddr 0 7 (.tmp 2), none⟩,
 ⟨some 16, .faddr 0 1 (.tmp 15), none⟩,
 ⟨some 17, .load false 1 (.tmp 16), none⟩,
 ⟨some 18, .lenl (.tmp 17), none⟩,
 ⟨some 19, .callm 171 [.tmp 14, .tmp 18], none⟩,
 ⟨some 20, .un .not (.tmp 19), none⟩,
 ⟨some 12, .mov (.tmp 20), none⟩] [2, 13, 14, 15, 16, 17, 18, 19, 20])
 (.cond (.tmp 12)
 (.seq
 (.region false [
 ⟨some 21, .load false 1 (.global 4), none⟩,
 ⟨some 4, .mov (.tmp 21), none⟩] [5, 12, 21])
 .ret)
 (.seq
 (.region false [
 ⟨some 23, .faddr 1 2 (.tmp 5), none⟩,
 ⟨some 24, .load true 2 (.tmp 23), none⟩,
 ⟨some 25, .callm 138 [.tmp 24], none⟩,
 ⟨some 26, .un .not (.tmp 25), none⟩,
 ⟨some 27, .mov (.tmp 26), none⟩,
 ⟨some 28, .faddr 4 1 (.tmp 5), (some (27, false))⟩,
 ⟨some 29, .load false 1 (.tmp 28), (some (27, false))⟩,
 ⟨some 30, .callm 166 [.tmp 29], (some (27, false))⟩,
 ⟨some 31, .un .not (.tmp 30), (some (27, false))⟩,
 ⟨some 32, .pick (.tmp 27) (.const (.bool true)) (.tmp 31), none⟩,
 ⟨some 22, .mov (.tmp 32), none⟩] [12, 23, 24, 25, 26, 27, 28, 29, 30, 31, 32])
 (.cond (.tmp 22)
 (.seq
 (.region false [
 ⟨some 33, .load false 1 (.global 2), none⟩,
 ⟨some 4, .mov (.tmp 33), none⟩] [5, 22, 33])
 .ret)
 (.seq
 (.region false [
 ⟨some 35, .faddr 3 1 (.tmp 5), none⟩,
 ⟨some 36, .load false 1 (.tmp 35), none⟩,
 ⟨some 37, .callm 175 [.tmp 36], none⟩,
 ⟨some 38, .un .not (.tmp 37), none⟩,
 ⟨some 34, .mov (.tmp 38), none⟩] [5, 22, 35, 36, 37, 38])
 (.cond (.tmp 34)
 (.seq
 (.region false [
 ⟨some 39, .load false 1 (.global 3), none⟩,
 ⟨some 4, .mov (.tmp 39), none⟩] [34, 39])
 .ret)
 .skip)))))) [34])
 (.seq
 (.region false [
 ⟨some 4, .mov (.const (.nilIface)), none⟩] [])
 .ret))))
abbrev v_q120 : List RV := [.tmp 4]
abbrev f_q120 : FuncId := 123
theorem k_q120 : closedOf Tryz.prog Tryz.f123 = (false, some true, some v_q120, some c_q120.plain, 40) := by kernel_rfl
theorem ac_q120 {args : List AV} {r : AV} (h : aw Tryz.prog c_q120 (env0 args) (endQ v_q120 r)) (hargs : args.length ≤ 40 := by decide) (hok : resOK r = true := by rfl) : AC Tryz.prog f_q120 args r :=
  AC_mk (by kernel_rfl) Tryz.func123 k_q120 hargs hok (by decide) h
def c_q121 : ACode :=
 (.seq
 (.region false [
 ⟨some 2, .box (.tmp 0), none⟩,
 ⟨some 4, .mov (.const (.nilIface)), none⟩] [0, 4])
 (.seq
 (.region false [
 ⟨some 6, .faddr 0 7 (.tmp 2), none⟩,
 ⟨some 7, .faddr 4 1 (.tmp 6), none⟩,
 ⟨some 8, .load false 1 (.tmp 7), none⟩,
 ⟨some 9, .mov (.tmp 1), none⟩,
 ⟨some 10, .iaddr 3 (.tmp 8) (.tmp 9), none⟩,
 ⟨some 11, .load true 3 (.tmp 10), none⟩,
 ⟨some 5, .alloc [.lit (.int .u32 0), .lit (.int .i64 0), .lit (.int .u32 0)], none⟩,
 ⟨none, .store 3 (.tmp 5) (.tmp 11), none⟩] [6, 7, 8, 9, 10, 11])
 (.seq
 (.block 0
 (.seq
 (.region false [
 ⟨some 13, .faddr 0 2 (.tmp 5), none⟩,
 ⟨some 14, .load true 2 (.tmp 13), none⟩,
 ⟨some 15, .callm 138 [.tmp 14], none⟩,
 ⟨some 16, .un .not (.tmp 15), none⟩,
 ⟨some 12, .mov (.tmp 16), none⟩] [13, 14, 15, 16])
 (.cond (.tmp 12)
 (.seq
 (.region false [
 ⟨some 17, .load false 1 (.global 2), none⟩,
 ⟨some 4, .mov (.tmp 17), none⟩] [1, 2, 5, 12, 17])
 .ret)
 (.seq
 (.region true [
 ⟨some 19, .faddr 0 2 (.tmp 5), none⟩,
 ⟨some 20, .load true 2 (.tmp 19), none⟩,
 ⟨some 21, .call 170 [], none⟩,
 ⟨some 22, .call 169 [.tmp 20, .tmp 21], none⟩,
 ⟨some 23, .un .not (.tmp 22), none⟩,
 ⟨some 24, .mov (.tmp 23), none⟩,
 ⟨some 25, .faddr 2 1 (.tmp 5), (some (24, false))⟩,
 ⟨some 26, .load false 1 (.tmp 25), (some (24, false))⟩,
 ⟨some 27, .call 175 [.tmp 26], (some (24, false))⟩,
 ⟨some 28, .un .not (.tmp 27), (some (24, false))⟩,
 ⟨some 29, .pick (.tmp 24) (.const (.bool true)) (.tmp 28), none⟩,
 ⟨some 18, .mov (.tmp 29), none⟩] [12, 19, 20, 21, 22, 23, 24, 25, 26, 27, 28, 29])
 (.cond (.tmp 18)
 (.seq
 (.region false [
 ⟨some 30, .load false 1 (.global 3), none⟩,
 ⟨some 4, .mov (.tmp 30), none⟩] [1, 2, 5, 18, 30])
 .ret)
 (.seq
 (.region false [
 ⟨some 32, .faddr 0 7 (.tmp 2), none⟩,
 ⟨some 33, .faddr 4 1 (.tmp 32), none⟩,
 ⟨some 34, .load false 1 (.tmp 33), none⟩,
 ⟨some 35, .mov (.tmp 1), none⟩,
 ⟨some 36, .slc 3 (.tmp 34) none (some (.tmp 35)), none⟩,
 ⟨some 37, .mkfn (.func 177) [] [.tmp 5], none⟩,
 ⟨some 38, .callm 176 [.tmp 36, .tmp 37], none⟩,
 ⟨some 31, .mov (.tmp 38), none⟩] [1, 2, 5, 18, 32, 33, 34, 35, 36, 37, 38])
 (.cond (.tmp 31)
 (.seq
 (.region false [
 ⟨some 39, .load false 1 (.global 1), none⟩,
 ⟨some 4, .mov (.tmp 39), none⟩] [31, 39])
 .ret)
 .skip)))))) [31])
 (.seq
 (.region false [
 ⟨some 4, .mov (.const (.nilIface)), none⟩] [])
 .ret))))
abbrev v_q121 : List RV := [.tmp 4]
abbrev f_q121 : FuncId := 124
theorem k_q121 : closedOf Tryz.prog Tryz.f124 = (false, some true, some v_q121, some c_q121.plain, 40) := by kernel_rfl
theorem ac_q121 {args : List AV} {r : AV} (h : aw Tryz.prog c_q121 (env0 args) (endQ v_q121 r)) (hargs : args.length ≤ 40 := by decide) (hok : resOK r = true := by rfl) : AC Tryz.prog f_q121 args r :=
  AC_mk (by kernel_rfl) Tryz.func124 k_q121 hargs hok (by decide) h
def c_q122 : ACode :=
 (.seq
 (.region false [
 ⟨some 2, .box (.tmp 0), none⟩,
 ⟨some 4, .mov (.const (.nilIface)), none⟩] [0, 4])
 (.seq
 (.region false [
 ⟨some 6, .faddr 0 7 (.tmp 2), none⟩,
 ⟨some 7, .faddr 5 1 (.tmp 6), none⟩,
 ⟨some 8, .load false 1 (.tmp 7), none⟩,
 ⟨some 9, .mov (.tmp 1), none⟩,
 ⟨some 10, .iaddr 3 (.tmp 8) (.tmp 9), none⟩,
 ⟨some 11, .load true 3 (.tmp 10), none⟩,
 ⟨some 5, .alloc [.lit (.int .i64 0), .lit (.int .u32 0), .lit (.int .u32 0)], none⟩,
 ⟨none, .store 3 (.tmp 5) (.tmp 11), none⟩] [6, 7, 8, 9, 10, 11])
 (.seq
 (.block 0
 (.seq
 (.region false [
 ⟨some 13, .faddr 0 1 (.tmp 5), none⟩,
 ⟨some 14, .load false 1 (.tmp 13), none⟩,
 ⟨some 15, .faddr 0 7 (.tmp 2), none⟩,
 ⟨some 16, .faddr 1 1 (.tmp 15), none⟩,
 ⟨some 17, .load false 1 (.tmp 16), none⟩,
 ⟨some 18, .lenl (.tmp 17), none⟩,
 ⟨some 19, .callm 171 [.tmp 14, .tmp 18], none⟩,
 ⟨some 20, .un .not (.tmp 19), none⟩,
 ⟨some 12, .mov (.tmp 20), none⟩] [13, 14, 15, 16, 17, 18, 19, 20])
 (.cond (.tmp 12)
 (.seq
 (.region false [
 ⟨some 21, .load false 1 (.global 4), none⟩,
 ⟨some 4, .mov (.tmp 21), none⟩] [1, 2, 5, 12, 21])
 .ret)
 (.seq
 (.region false [
 ⟨some 23, .load true 7 (.tmp 2), none⟩,
 ⟨some 24, .faddr 0 1 (.tmp 5), none⟩,
 ⟨some 25, .load false 1 (.tmp 24), none⟩,
 ⟨some 26, .faddr 1 2 (.tmp 5), none⟩,
 ⟨some 27, .faddr 0 1 (.tmp 26), none⟩,
 ⟨some 28, .load false 1 (.tmp 27), none⟩,
 ⟨some 29, .callm 172 [.tmp 23, .tmp 25, .tmp 28], none⟩,
 ⟨some 30, .un .not (.tmp 29), none⟩,
 ⟨some 22, .mov (.tmp 30), none⟩] [12, 23, 24, 25, 26, 27, 28, 29, 30])
 (.cond (.tmp 22)
 (.seq
 (.region false [
 ⟨some 31, .load false 1 (.global 5), none⟩,
 ⟨some 4, .mov (.tmp 31), none⟩] [1, 2, 5, 22, 31])
 .ret)
 (.seq
 (.region false [
 ⟨some 33, .faddr 1 2 (.tmp 5), none⟩,
 ⟨some 34, .faddr 1 1 (.tmp 33), none⟩,
 ⟨some 35, .load false 1 (.tmp 34), none⟩,
 ⟨some 36, .callm 91 [.tmp 35], none⟩,
 ⟨some 37, .un .not (.tmp 36), none⟩,
 ⟨some 32, .mov (.tmp 37), none⟩] [22, 33, 34, 35, 36, 37])
 (.cond (.tmp 32)
 (.seq
 (.region false [
 ⟨some 38, .load false 1 (.global 3), none⟩,
 ⟨some 4, .mov (.tmp 38), none⟩] [1, 2, 5, 32, 38])
 .ret)
 (.seq
 (.seq
 (.region false [
 ⟨some 40, .faddr 0 7 (.tmp 2), none⟩,
 ⟨some 41, .faddr 5 1 (.tmp 40), none⟩,
 ⟨some 42, .load false 1 (.tmp 41), none⟩,
 ⟨some 43, .mov (.tmp 1), none⟩,
 ⟨some 44, .slc 3 (.tmp 42) none (some (.tmp 43)), none⟩,
 ⟨some 45, .mkfn (.func 179) [] [.tmp 5], none⟩,
 ⟨some 46, .callm 178 [.tmp 44, .tmp 45], none⟩,
 ⟨some 39, .mov (.tmp 46), none⟩] [1, 32, 40, 41, 42, 43, 44, 45, 46])
 (.cond (.tmp 39)
 .skip
 (.region false [
 ⟨some 47, .faddr 0 7 (.tmp 2), none⟩,
 ⟨some 48, .faddr 2 1 (.tmp 47), none⟩,
 ⟨some 49, .load false 1 (.tmp 48), none⟩,
 ⟨some 50, .mkfn (.func 180) [] [.tmp 5], none⟩,
 ⟨some 51, .callm 173 [.tmp 49, .tmp 50], none⟩,
 ⟨some 39, .mov (.tmp 51), none⟩] [2, 5, 47, 48, 49, 50, 51])))
 (.cond (.tmp 39)
 (.seq
 (.region false [
 ⟨some 52, .load false 1 (.global 1), none⟩,
 ⟨some 4, .mov (.tmp 52), none⟩] [2, 5, 39, 52])
 .ret)
 .skip)))))))) [2, 5, 39])
 (.seq
 (.region false [
 ⟨some 4, .mov (.const (.nilIface)), none⟩] [])
 .ret))))
abbrev v_q122 : List RV := [.tmp 4]
abbrev f_q122 : FuncId := 125
theorem k_q122 : closedOf Tryz.prog Tryz.f125 = (false, some true, some v_q122, some c_q122.plain, 53) := by kernel_rfl
theorem ac_q122 {args : List AV} {r : AV} (h : aw Tryz.prog c_q122 (env0 args) (endQ v_q122 r)) (hargs : args.length ≤ 53 := by decide) (hok : resOK r = true := by rfl) : AC Tryz.prog f_q122 args r :=
  AC_mk (by kernel_rfl) Tryz.func125 k_q122 hargs hok (by decide) h
def c_q123 : ACode :=
 (.seq
 (.region false [
 ⟨some 2, .box (.tmp 0), none⟩,
 ⟨some 4, .mov (.const (.nilIface)), none⟩] [0, 4])
 (.seq
 (.region false [
 ⟨some 7, .faddr 0 7 (.tmp 2), none⟩,
 ⟨some 8, .faddr 6 1 (.tmp 7), none⟩,
 ⟨some 9, .load false 1 (.tmp 8), none⟩,
 ⟨some 10, .mov (.tmp 1), none⟩,
 ⟨some 11, .iaddr 4 (.tmp 9) (.tmp 10), none⟩,
 ⟨some 12, .load true 4 (.tmp 11), none⟩,
 ⟨some 5, .alloc [.lit (.int .i64 0), .lit (.int .u32 0), .lit (.bool false), .sl .nil 0 []], none⟩,
 ⟨none, .store 4 (.tmp 5) (.tmp 12), none⟩] [1, 7, 8, 9, 10, 11, 12])
 (.seq
 (.block 0
 (.seq
 (.region false [
 ⟨some 14, .faddr 0 1 (.tmp 5), none⟩,
 ⟨some 15, .load false 1 (.tmp 14), none⟩,
 ⟨some 16, .faddr 0 7 (.tmp 2), none⟩,
 ⟨some 17, .faddr 1 1 (.tmp 16), none⟩,
 ⟨some 18, .load false 1 (.tmp 17), none⟩,
 ⟨some 19, .lenl (.tmp 18), none⟩,
 ⟨some 20, .callm 171 [.tmp 15, .tmp 19], none⟩,
 ⟨some 21, .un .not (.tmp 20), none⟩,
 ⟨some 13, .mov (.tmp 21), none⟩] [2, 14, 15, 16, 17, 18, 19, 20, 21])
 (.cond (.tmp 13)
 (.seq
 (.region false [
 ⟨some 22, .load false 1 (.global 4), none⟩,
 ⟨some 4, .mov (.tmp 22), none⟩] [5, 13, 22])
 .ret)
 (.seq
 (.region false [
 ⟨some 24, .faddr 1 1 (.tmp 5), none⟩,
 ⟨some 25, .load false 1 (.tmp 24), none⟩,
 ⟨some 26, .callm 91 [.tmp 25], none⟩,
 ⟨some 27, .un .not (.tmp 26), none⟩,
 ⟨some 28, .mov (.tmp 27), none⟩,
 ⟨some 29, .faddr 3 1 (.tmp 5), (some (28, false))⟩,
 ⟨some 30, .load false 1 (.tmp 29), (some (28, false))⟩,
 ⟨some 31, .callm 113 [.tmp 30, .func 181], (some (28, false))⟩,
 ⟨some 32, .pick (.tmp 28) (.const (.bool true)) (.tmp 31), none⟩,
 ⟨some 23, .mov (.tmp 32), none⟩] [13, 24, 25, 26, 27, 28, 29, 30, 31, 32])
 (.cond (.tmp 23)
 (.seq
 (.region false [
 ⟨some 33, .load false 1 (.global 3), none⟩,
 ⟨some 4, .mov (.tmp 33), none⟩] [5, 23, 33])
 .ret)
 (.seq
 (.region false [
 ⟨some 35, .faddr 3 1 (.tmp 5), none⟩,
 ⟨some 36, .load false 1 (.tmp 35), none⟩,
 ⟨some 37, .lenl (.tmp 36), none⟩,
 ⟨some 38, .bin .gtr 3 (.tmp 37) (.const (.int .i64 4)), none⟩,
 ⟨some 34, .mov (.tmp 38), none⟩] [23, 35, 36, 37, 38])
 (.cond (.tmp 34)
 (.seq
 (.region false [
 ⟨some 39, .load false 1 (.global 0), none⟩,
 ⟨some 4, .mov (.tmp 39), none⟩] [5, 34, 39])
 .ret)
 .skip)))))) [34])
 (.seq
 (.region false [
 ⟨some 40, .faddr 3 1 (.tmp 5), none⟩,
 ⟨some 41, .load false 1 (.tmp 40), none⟩,
 ⟨some 42, .callm 183 [.tmp 41], none⟩,
 ⟨some 43, .callm 182 [.tmp 42], none⟩,
 ⟨some 6, .mov (.tmp 43), none⟩] [40, 41, 42, 43])
 (.seq
 (.seq
 (.shift
 (.region true [
 ⟨some 44, .mov (.tmp 6), none⟩,
 ⟨some 45, .call 86 [.tmp 44], none⟩,
 ⟨some 46, .lenl (.tmp 45), none⟩,
 ⟨some 47, .faddr 3 1 (.tmp 5), none⟩,
 ⟨some 48, .load false 1 (.tmp 47), none⟩,
 ⟨some 49, .lenl (.tmp 48), none⟩,
 ⟨some 50, .bin .lss 3 (.tmp 46) (.tmp 49), none⟩] [5, 6, 44, 45, 46, 47, 48, 49]))
 (.cond (.tmp 50)
 (.seq
 (.region false [
 ⟨some 51, .load false 1 (.global 1), none⟩,
 ⟨some 4, .mov (.tmp 51), none⟩] [50, 51])
 .ret)
 .skip))
 (.seq
 (.region false [
 ⟨some 4, .mov (.const (.nilIface)), none⟩] [50])
 .ret))))))
abbrev v_q123 : List RV := [.tmp 4]
abbrev f_q123 : FuncId := 126
theorem k_q123 : closedOf Tryz.prog Tryz.f126 = (false, some true, some v_q123, some c_q123.plain, 52) := by kernel_rfl
theorem ac_q123 {args : List AV} {r : AV} (h : aw Tryz.prog c_q123 (env0 args) (endQ v_q123 r)) (hargs : args.length ≤ 52 := by decide) (hok : resOK r = true := by rfl) : AC Tryz.prog f_q123 args r :=
  AC_mk (by kernel_rfl) Tryz.func126 k_q123 hargs hok (by decide) h
def c_q124 : ACode :=
 (.seq
 (.region false [
 ⟨some 2, .mov (.const (.slice none 0 0)), none⟩] [2])
 (.seq
 (.seq
 (.region false [
 ⟨some 3, .mov (.tmp 0), none⟩,
 ⟨some 4, .eqs false (.tmp 3), none⟩] [3])
 (.cond (.tmp 4)
 (.seq
 (.region false [
 ⟨some 2, .mov (.const (.slice none 0 0)), none⟩] [0, 4])
 .ret)
 .skip))
 (.seq
 (.shift
 (.region false [
 ⟨some 5, .bsl0 2, none⟩,
 ⟨some 6, .mov (.tmp 0), none⟩,
 ⟨some 7, .app 2 24 [] (.tmp 5) (.tmp 6), none⟩,
 ⟨some 2, .mov (.tmp 7), none⟩] [0, 4, 5, 6, 7]))
 .ret)))
abbrev v_q124 : List RV := [.tmp 2]
abbrev f_q124 : FuncId := 127
theorem k_q124 : closedOf Tryz.prog Tryz.f127 = (false, some true, some v_q124, some c_q124.plain, 8) := by kernel_rfl
theorem ac_q124 {args : List AV} {r : AV} (h : aw Tryz.prog c_q124 (env0 args) (endQ v_q124 r)) (hargs : args.length ≤ 8 := by decide) (hok : resOK r = true := by rfl) : AC Tryz.prog f_q124 args r :=
  AC_mk (by kernel_rfl) Tryz.func127 k_q124 hargs hok (by decide) h
def c_q125 : ACode :=
 (.seq
 (.region false [
 ⟨some 2, .mov (.const (.slice none 0 0)), none⟩] [2])
 (.seq
 (.seq
 (.region false [
 ⟨some 3, .mov (.tmp 0), none⟩,
 ⟨some 4, .eqs false (.tmp 3), none⟩] [3])
 (.cond (.tmp 4)
 (.seq
 (.region false [
 ⟨some 2, .mov (.const (.slice none 0 0)), none⟩] [0, 4])
 .ret)
 .skip))
 (.seq
 (.shift
 (.region false [
 ⟨some 5, .bsl0 3, none⟩,
 ⟨some 6, .mov (.tmp 0), none⟩,
 ⟨some 7, .app 3 32 [] (.tmp 5) (.tmp 6), none⟩,
 ⟨some 2, .mov (.tmp 7), none⟩] [0, 4, 5, 6, 7]))
 .ret)))
abbrev v_q125 : List RV := [.tmp 2]
abbrev f_q125 : FuncId := 128
theorem k_q125 : closedOf Tryz.prog Tryz.f128 = (false, some true, some v_q125, some c_q125.plain, 8) := by kernel_rfl
theorem ac_q125 {args : List AV} {r : AV} (h : aw Tryz.prog c_q125 (env0 args) (endQ v_q125 r)) (hargs : args.length ≤ 8 := by decide) (hok : resOK r = true := by rfl) : AC Tryz.prog f_q125 args r :=
  AC_mk (by kernel_rfl) Tryz.func128 k_q125 hargs hok (by decide) h
def c_q126 : ACode :=
 (.seq
 (.region false [
 ⟨some 2, .mov (.const (.slice none 0 0)), none⟩] [2])
 (.seq
 (.seq
 (.region false [
 ⟨some 3, .mov (.tmp 0), none⟩,
 ⟨some 4, .eqs false (.tmp 3), none⟩] [3])
 (.cond (.tmp 4)
 (.seq
 (.region false [
 ⟨some 2, .mov (.const (.slice none 0 0)), none⟩] [0, 4])
 .ret)
 .skip))
 (.seq
 (.shift
 (.region false [
 ⟨some 5, .bsl0 3, none⟩,
 ⟨some 6, .mov (.tmp 0), none⟩,
 ⟨some 7, .app 3 24 [] (.tmp 5) (.tmp 6), none⟩,
 ⟨some 2, .mov (.tmp 7), none⟩] [0, 4, 5, 6, 7]))
 .ret)))
abbrev v_q126 : List RV := [.tmp 2]
abbrev f_q126 : FuncId := 129
theorem k_q126 : closedOf Tryz.prog Tryz.f129 = (false, some true, some v_q126, some c_q126.plain, 8) := by kernel_rfl
theorem ac_q126 {args : List AV} {r : AV} (h : aw Tryz.prog c_q126 (env0 args) (endQ v_q126 r)) (hargs : args.length ≤ 8 := by decide) (hok : resOK r = true := by rfl) : AC Tryz.prog f_q126 args r :=
  AC_mk (by kernel_rfl) Tryz.func129 k_q126 hargs hok (by decide) h
def c_q127 : ACode :=
 (.seq
 (.region false [
 ⟨some 2, .mov (.const (.slice none 0 0)), none⟩] [2])
 (.seq
 (.seq
 (.region false [
 ⟨some 3, .mov (.tmp 0), none⟩,
 ⟨some 4, .eqs false (.tmp 3), none⟩] [3])
 (.cond (.tmp 4)
 (.seq
 (.region false [
 ⟨some 2, .mov (.const (.slice none 0 0)), none⟩] [0, 4])
 .ret)
 .skip))
 (.seq
 (.shift
 (.region false [
 ⟨some 5, .bsl0 5, none⟩,
 ⟨some 6, .mov (.tmp 0), none⟩,
 ⟨some 7, .app 5 40 [] (.tmp 5) (.tmp 6), none⟩,
 ⟨some 2, .mov (.tmp 7), none⟩] [0, 4, 5, 6, 7]))
 .ret)))
abbrev v_q127 : List RV := [.tmp 2]
abbrev f_q127 : FuncId := 130
theorem k_q127 : closedOf Tryz.prog Tryz.f130 = (false, some true, some v_q127, some c_q127.plain, 8) := by kernel_rfl
theorem ac_q127 {args : List AV} {r : AV} (h : aw Tryz.prog c_q127 (env0 args) (endQ v_q127 r)) (hargs : args.length ≤ 8 := by decide) (hok : resOK r = true := by rfl) : AC Tryz.prog f_q127 args r :=
  AC_mk (by kernel_rfl) Tryz.func130 k_q127 hargs hok (by decide) h
def c_q128 : ACode :=
 (.seq
 (.region false [
 ⟨some 2, .mov (.const (.slice none 0 0)), none⟩] [2])
 (.seq
 (.seq
 (.region false [
 ⟨some 3, .mov (.tmp 0), none⟩,
 ⟨some 4, .eqs false (.tmp 3), none⟩] [3])
 (.cond (.tmp 4)
 (.seq
 (.region false [
 ⟨some 2, .mov (.const (.slice none 0 0)), none⟩] [0, 4])
 .ret)
 .skip))
 (.seq
 (.shift
 (.region false [
 ⟨some 5, .bsl0 3, none⟩,
 ⟨some 6, .mov (.tmp 0), none⟩,
 ⟨some 7, .app 3 24 [] (.tmp 5) (.tmp 6), none⟩,
 ⟨some 2, .mov (.tmp 7), none⟩] [0, 4, 5, 6, 7]))
 .ret)))
abbrev v_q128 : List RV := [.tmp 2]
abbrev f_q128 : FuncId := 131
theorem k_q128 : closedOf Tryz.prog Tryz.f131 = (false, some true, some v_q128, some c_q128.plain, 8) := by kernel_rfl
theorem ac_q128 {args : List AV} {r : AV} (h : aw Tryz.prog c_q128 (env0 args) (endQ v_q128 r)) (hargs : args.length ≤ 8 := by decide) (hok : resOK r = true := by rfl) : AC Tryz.prog f_q128 args r :=
  AC_mk (by kernel_rfl) Tryz.func131 k_q128 hargs hok (by decide) h
def c_q129 : ACode :=
 (.seq
 (.region false [
 ⟨some 2, .mov (.const (.slice none 0 0)), none⟩] [2])
 (.seq
 (.seq
 (.region false [
 ⟨some 3, .mov (.tmp 0), none⟩,
 ⟨some 4, .eqs false (.tmp 3), none⟩] [3])
 (.cond (.tmp 4)
 (.seq
 (.region false [
 ⟨some 2, .mov (.const (.slice none 0 0)), none⟩] [0, 4])
 .ret)
 .skip))
 (.seq
 (.shift
 (.region false [
 ⟨some 5, .bsl0 3, none⟩,
 ⟨some 6, .mov (.tmp 0), none⟩,
 ⟨some 7, .app 3 16 [] (.tmp 5) (.tmp 6), none⟩,
 ⟨some 2, .mov (.tmp 7), none⟩] [0, 4, 5, 6, 7]))
 .ret)))
abbrev v_q129 : List RV := [.tmp 2]
abbrev f_q129 : FuncId := 132
theorem k_q129 : closedOf Tryz.prog Tryz.f132 = (false, some true, some v_q129, some c_q129.plain, 8) := by kernel_rfl
theorem ac_q129 {args : List AV} {r : AV} (h : aw Tryz.prog c_q129 (env0 args) (endQ v_q129 r)) (hargs : args.length ≤ 8 := by decide) (hok : resOK r = true := by rfl) : AC Tryz.prog f_q129 args r :=
  AC_mk (by kernel_rfl) Tryz.func132 k_q129 hargs hok (by decide) h
def c_q130 : ACode :=
 (.seq
 (.region false [
 ⟨some 2, .mov (.const (.slice none 0 0)), none⟩] [2])
 (.seq
 (.seq
 (.region false [
 ⟨some 3, .mov (.tmp 0), none⟩,
 ⟨some 4, .eqs false (.tmp 3), none⟩] [3])
 (.cond (.tmp 4)
 (.seq
 (.region false [
 ⟨some 2, .mov (.const (.slice none 0 0)), none⟩] [0, 4])
 .ret)
 .skip))
 (.seq
 (.shift
 (.region false [
 ⟨some 5, .bsl0 4, none⟩,
 ⟨some 6, .mov (.tmp 0), none⟩,
 ⟨some 7, .app 4 40 [] (.tmp 5) (.tmp 6), none⟩,
 ⟨some 2, .mov (.tmp 7), none⟩] [0, 4, 5, 6, 7]))
 .ret)))
abbrev v_q130 : List RV := [.tmp 2]
abbrev f_q130 : FuncId := 133
theorem k_q130 : closedOf Tryz.prog Tryz.f133 = (false, some true, some v_q130, some c_q130.plain, 8) := by kernel_rfl
theorem ac_q130 {args : List AV} {r : AV} (h : aw Tryz.prog c_q130 (env0 args) (endQ v_q130 r)) (hargs : args.length ≤ 8 := by decide) (hok : resOK r = true := by rfl) : AC Tryz.prog f_q130 args r :=
  AC_mk (by kernel_rfl) Tryz.func133 k_q130 hargs hok (by decide) h
end Go.Proofs.YtobofhbklfallaaGreatDoor.VL
end

