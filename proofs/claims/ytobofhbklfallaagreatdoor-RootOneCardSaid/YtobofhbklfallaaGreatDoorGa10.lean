import Derived.Test.YtobofhbklfallaaGreatDoorProg
import Derived.Test.YtobofhbklfallaaGreatDoorGa9
set_option linter.unusedVariables false
set_option linter.unusedSimpArgs false
section
set_option maxRecDepth 100000
namespace Go.Proofs.YtobofhbklfallaaGreatDoor.VL
open Go.Proofs
def c_q131 : ACode :=
 (.seq
 (.region false [
 ⟨some 8, .mov (.const (.bool true)), none⟩] [])
 (.seq
 (.region false [
 ⟨some 9, .mov (.const (.bool true)), none⟩] [])
 (.block 0
 (.loop
 (.block 1
 (.seq
 (.region false [
 ⟨some 19, .mov (.tmp 2), none⟩,
 ⟨some 20, .mov (.tmp 1), none⟩,
 ⟨some 21, .bin .sub 3 (.tmp 19) (.tmp 20), none⟩,
 ⟨some 10, .mov (.tmp 21), none⟩] [19, 20, 21])
 (.seq
 (.seq
 (.region false [
 ⟨some 22, .mov (.tmp 10), none⟩,
 ⟨some 23, .bin .leq 3 (.tmp 22) (.const (.int .i64 12)), none⟩] [22])
 (.cond (.tmp 23)
 (.seq
 (.region false [
 ⟨some 24, .mov (.tmp 0), none⟩,
 ⟨some 25, .mov (.tmp 1), none⟩,
 ⟨some 26, .mov (.tmp 2), none⟩,
 ⟨some 27, .callm 184 [.tmp 24, .tmp 25, .tmp 26], none⟩] [0, 1, 2, 3, 8, 9, 10, 23, 24, 25, 26, 27])
 .ret)
 .skip))
 (.seq
 (.seq
 (.region false [
 ⟨some 28, .mov (.tmp 3), none⟩,
 ⟨some 29, .bin .eql 3 (.tmp 28) (.const (.int .i64 0)), none⟩] [23, 28])
 (.cond (.tmp 29)
 (.seq
 (.region false [
 ⟨some 30, .mov (.tmp 0), none⟩,
 ⟨some 31, .mov (.tmp 1), none⟩,
 ⟨some 32, .mov (.tmp 2), none⟩,
 ⟨some 33, .callm 185 [.tmp 30, .tmp 31, .tmp 32], none⟩] [0, 1, 2, 3, 8, 9, 10, 29, 30, 31, 32, 33])
 .ret)
 .skip))
 (.seq
 (.seq
 (.region false [
 ⟨some 34, .mov (.tmp 8), none⟩,
 ⟨some 35, .un .not (.tmp 34), none⟩] [29, 34])
 (.cond (.tmp 35)
 (.seq
 (.region false [
 ⟨some 36, .mov (.tmp 0), none⟩,
 ⟨some 37, .mov (.tmp 1), none⟩,
 ⟨some 38, .mov (.tmp 2), none⟩,
 ⟨some 39, .callm 186 [.tmp 36, .tmp 37, .tmp 38], none⟩] [35, 36, 37, 38, 39])
 (.region false [
 ⟨some 40, .mov (.tmp 3), none⟩,
 ⟨some 41, .bin .sub 3 (.tmp 40) (.const (.int .i64 1)), none⟩,
 ⟨some 3, .mov (.tmp 41), none⟩] [40, 41]))
 .skip))
 (.seq
 (.region false [
 ⟨some 43, .mov (.tmp 0), none⟩,
 ⟨some 44, .mov (.tmp 1), none⟩,
 ⟨some 45, .mov (.tmp 2), none⟩,
 ⟨some 46, .callm 187 [.tmp 43, .tmp 44, .tmp 45], none⟩,
 ⟨some 42, .mov (.tmp 46), none⟩,
 ⟨some 47, .ext (.tmp 42) 0, none⟩,
 ⟨some 48, .ext (.tmp 42) 1, none⟩,
 ⟨some 11, .mov (.tmp 47), none⟩,
 ⟨some 12, .mov (.tmp 48), none⟩] [35, 42, 43, 44, 45, 46, 47, 48])
 (.seq
 (.seq
 (.region false [
 ⟨some 49, .mov (.tmp 12), none⟩,
 ⟨some 50, .bin .eql 227 (.tmp 49) (.const (.int .i64 2)), none⟩] [49])
 (.cond (.tmp 50)
 (.seq
 (.region false [
 ⟨some 51, .mov (.tmp 0), none⟩,
 ⟨some 52, .mov (.tmp 1), none⟩,
 ⟨some 53, .mov (.tmp 2), none⟩,
 ⟨some 54, .callm 188 [.tmp 51, .tmp 52, .tmp 53], none⟩] [12, 50, 51, 52, 53, 54])
 (.seq
 (.region false [
 ⟨some 55, .mov (.tmp 2), none⟩,
 ⟨some 56, .bin .sub 3 (.tmp 55) (.const (.int .i64 1)), none⟩,
 ⟨some 57, .mov (.tmp 11), none⟩,
 ⟨some 58, .mov (.tmp 1), none⟩,
 ⟨some 59, .bin .sub 3 (.tmp 57) (.tmp 58), none⟩,
 ⟨some 60, .bin .sub 3 (.tmp 56) (.tmp 59), none⟩,
 ⟨some 11, .mov (.tmp 60), none⟩] [55, 56, 57, 58, 59, 60])
 (.region false [
 ⟨some 12, .mov (.const (.int .i64 1)), none⟩] [])))
 .skip))
 (.seq
 (.seq
 (.region false [
 ⟨some 61, .mov (.tmp 8), none⟩,
 ⟨some 62, .mov (.tmp 61), none⟩,
 ⟨some 63, .mov (.tmp 9), (some (62, true))⟩,
 ⟨some 64, .pick (.tmp 62) (.tmp 63) (.const (.bool false)), none⟩,
 ⟨some 65, .mov (.tmp 64), none⟩,
 ⟨some 66, .mov (.tmp 12), (some (65, true))⟩,
 ⟨some 67, .bin .eql 227 (.tmp 66) (.const (.int .i64 1)), (some (65, true))⟩,
 ⟨some 68, .pick (.tmp 65) (.tmp 67) (.const (.bool false)), none⟩] [12, 50, 61, 62, 63, 64, 65, 66, 67])
 (.cond (.tmp 68)
 (.seq
 (.region false [
 ⟨some 69, .mov (.tmp 0), none⟩,
 ⟨some 70, .mov (.tmp 1), none⟩,
 ⟨some 71, .mov (.tmp 2), none⟩,
 ⟨some 72, .callm 189 [.tmp 69, .tmp 70, .tmp 71], none⟩] [68, 69, 70, 71])
 (.cond (.tmp 72)
 .ret
 .skip))
 .skip))
 (.seq
 (.seq
 (.region true [
 ⟨some 73, .mov (.tmp 1), none⟩,
 ⟨some 74, .bin .gtr 3 (.tmp 73) (.const (.int .i64 0)), none⟩,
 ⟨some 75, .mov (.tmp 74), none⟩,
 ⟨some 76, .mov (.tmp 0), (some (75, true))⟩,
 ⟨some 77, .mov (.tmp 1), (some (75, true))⟩,
 ⟨some 78, .bin .sub 3 (.tmp 77) (.const (.int .i64 1)), (some (75, true))⟩,
 ⟨some 79, .iaddr 1 (.tmp 76) (.tmp 78), (some (75, true))⟩,
 ⟨some 80, .load false 1 (.tmp 79), (some (75, true))⟩,
 ⟨some 81, .mov (.tmp 0), (some (75, true))⟩,
 ⟨some 82, .mov (.tmp 11), (some (75, true))⟩,
 ⟨some 83, .iaddr 1 (.tmp 81) (.tmp 82), (some (75, true))⟩,
 ⟨some 84, .load false 1 (.tmp 83), (some (75, true))⟩,
 ⟨some 85, .call 190 [.tmp 80, .tmp 84], (some (75, true))⟩,
 ⟨some 86, .un .not (.tmp 85), (some (75, true))⟩,
 ⟨some 87, .pick (.tmp 75) (.tmp 86) (.const (.bool false)), none⟩] [68, 72, 73, 74, 75, 76, 77, 78, 79, 80, 81, 82, 83, 84, 85, 86])
 (.cond (.tmp 87)
 (.seq
 (.region false [
 ⟨some 88, .mov (.tmp 0), none⟩,
 ⟨some 89, .mov (.tmp 1), none⟩,
 ⟨some 90, .mov (.tmp 2), none⟩,
 ⟨some 91, .mov (.tmp 11), none⟩,
 ⟨some 92, .callm 191 [.tmp 88, .tmp 89, .tmp 90, .tmp 91], none⟩,
 ⟨some 13, .mov (.tmp 92), none⟩] [1, 10, 11, 87, 88, 89, 90, 91, 92])
 (.seq
 (.region false [
 ⟨some 93, .mov (.tmp 13), none⟩,
 ⟨some 1, .mov (.tmp 93), none⟩] [13, 93])
 (.exit 1)))
 .skip))
 (.seq
 (.region false [
 ⟨some 95, .mov (.tmp 0), none⟩,
 ⟨some 96, .mov (.tmp 1), none⟩,
 ⟨some 97, .mov (.tmp 2), none⟩,
 ⟨some 98, .mov (.tmp 11), none⟩,
 ⟨some 99, .callm 192 [.tmp 95, .tmp 96, .tmp 97, .tmp 98], none⟩,
 ⟨some 94, .mov (.tmp 99), none⟩,
 ⟨some 100, .ext (.tmp 94) 0, none⟩,
 ⟨some 101, .ext (.tmp 94) 1, none⟩,
 ⟨some 14, .mov (.tmp 100), none⟩,
 ⟨some 15, .mov (.tmp 101), none⟩] [8, 9, 11, 87, 94, 95, 96, 97, 98, 99, 100, 101])
 (.seq
 (.region false [
 ⟨some 102, .mov (.tmp 15), none⟩,
 ⟨some 9, .mov (.tmp 102), none⟩] [15, 102])
 (.seq
 (.region false [
 ⟨some 103, .mov (.tmp 14), none⟩,
 ⟨some 104, .mov (.tmp 1), none⟩,
 ⟨some 105, .bin .sub 3 (.tmp 103) (.tmp 104), none⟩,
 ⟨some 106, .mov (.tmp 2), none⟩,
 ⟨some 107, .mov (.tmp 14), none⟩,
 ⟨some 108, .bin .sub 3 (.tmp 106) (.tmp 107), none⟩,
 ⟨some 16, .mov (.tmp 105), none⟩,
 ⟨some 17, .mov (.tmp 108), none⟩] [103, 104, 105, 106, 107, 108])
 (.seq
 (.region false [
 ⟨some 109, .mov (.tmp 10), none⟩,
 ⟨some 110, .bin .quo 3 (.tmp 109) (.const (.int .i64 8)), none⟩,
 ⟨some 18, .mov (.tmp 110), none⟩] [10, 109, 110])
 (.seq
 (.region false [
 ⟨some 111, .mov (.tmp 16), none⟩,
 ⟨some 112, .mov (.tmp 17), none⟩,
 ⟨some 113, .bin .lss 3 (.tmp 111) (.tmp 112), none⟩] [111, 112])
 (.cond (.tmp 113)
 (.seq
 (.region false [
 ⟨some 114, .mov (.tmp 16), none⟩,
 ⟨some 115, .mov (.tmp 18), none⟩,
 ⟨some 116, .bin .geq 3 (.tmp 114) (.tmp 115), none⟩,
 ⟨some 8, .mov (.tmp 116), none⟩] [16, 17, 18, 113, 114, 115, 116])
 (.seq
 (.region false [
 ⟨some 117, .mov (.tmp 0), none⟩,
 ⟨some 118, .mov (.tmp 1), none⟩,
 ⟨some 119, .mov (.tmp 14), none⟩,
 ⟨some 120, .mov (.tmp 3), none⟩,
 ⟨some 121, .callm 134 [.tmp 117, .tmp 118, .tmp 119, .tmp 120], none⟩] [1, 117, 118, 119, 120, 121])
 (.region false [
 ⟨some 122, .mov (.tmp 14), none⟩,
 ⟨some 123, .bin .add 3 (.tmp 122) (.const (.int .i64 1)), none⟩,
 ⟨some 1, .mov (.tmp 123), none⟩] [14, 122, 123])))
 (.seq
 (.region false [
 ⟨some 124, .mov (.tmp 17), none⟩,
 ⟨some 125, .mov (.tmp 18), none⟩,
 ⟨some 126, .bin .geq 3 (.tmp 124) (.tmp 125), none⟩,
 ⟨some 8, .mov (.tmp 126), none⟩] [16, 17, 18, 113, 124, 125, 126])
 (.seq
 (.region false [
 ⟨some 127, .mov (.tmp 0), none⟩,
 ⟨some 128, .mov (.tmp 14), none⟩,
 ⟨some 129, .bin .add 3 (.tmp 128) (.const (.int .i64 1)), none⟩,
 ⟨some 130, .mov (.tmp 2), none⟩,
 ⟨some 131, .mov (.tmp 3), none⟩,
 ⟨some 132, .callm 134 [.tmp 127, .tmp 129, .tmp 130, .tmp 131], none⟩] [2, 127, 128, 129, 130, 131, 132])
 (.region false [
 ⟨some 133, .mov (.tmp 14), none⟩,
 ⟨some 2, .mov (.tmp 133), none⟩] [14, 133]))))))))))))))))) []) [] []) [])))
abbrev v_q131 : List RV := []
abbrev f_q131 : FuncId := 134
theorem k_q131 : closedOf Tryz.prog Tryz.f134 = (false, some true, some v_q131, some c_q131.plain, 134) := by kernel_rfl
theorem ac_q131 {args : List AV} {r : AV} (h : aw Tryz.prog c_q131 (env0 args) (endQ v_q131 r)) (hargs : args.length ≤ 134 := by decide) (hok : resOK r = true := by rfl) : AC Tryz.prog f_q131 args r :=
  AC_mk (by kernel_rfl) Tryz.func134 k_q131 hargs hok (by decide) h
theorem am_q131 {args : List AV} {c0 c1 : List (Nat × List AV)} {r : AV} (h : aw Tryz.prog c_q131 (env0M args c0) (endM v_q131 r (c0.map (·.1)) c1)) (hc0 : ∀ q ∈ c0, 100000 ≤ q.1) (hargs : args.length ≤ 134 := by decide) (hok : resOK r = true := by rfl) : AM Tryz.prog f_q131 args c0 r c1 :=
  AM_mk (by kernel_rfl) Tryz.func134 k_q131 hargs hok (by decide) hc0 h
def c_q132 : ACode :=
 (.seq
 (.region false [
 ⟨some 2, .mov (.const (.int .i64 0)), none⟩] [2])
 (.seq
 (.cond (.const (.bool false))
 (.seq
 (.region false [
 ⟨some 3, .mov (.tmp 0), none⟩,
 ⟨some 4, .cint .u32 (.tmp 3), none⟩,
 ⟨some 5, .callm 193 [.tmp 4], none⟩,
 ⟨some 2, .mov (.tmp 5), none⟩] [0, 3, 4, 5])
 .ret)
 .skip)
 (.seq
 (.region false [
 ⟨some 6, .mov (.tmp 0), none⟩,
 ⟨some 7, .callm 194 [.tmp 6], none⟩,
 ⟨some 2, .mov (.tmp 7), none⟩] [0, 6, 7])
 .ret)))
abbrev v_q132 : List RV := [.tmp 2]
abbrev f_q132 : FuncId := 135
theorem k_q132 : closedOf Tryz.prog Tryz.f135 = (false, some true, some v_q132, some c_q132.plain, 8) := by kernel_rfl
theorem ac_q132 {args : List AV} {r : AV} (h : aw Tryz.prog c_q132 (env0 args) (endQ v_q132 r)) (hargs : args.length ≤ 8 := by decide) (hok : resOK r = true := by rfl) : AC Tryz.prog f_q132 args r :=
  AC_mk (by kernel_rfl) Tryz.func135 k_q132 hargs hok (by decide) h
def c_q134 : ACode :=
 (.seq
 (.region false [
 ⟨some 2, .alloc [.lit (.int .u8 0), .lit (.int .u8 0), .lit (.int .u8 0), .lit (.int .u8 0)], none⟩] [])
 (.seq
 (.region false [
 ⟨some 3, .alloc [.lit (.int .u8 0), .lit (.int .u8 0), .lit (.int .u8 0), .lit (.int .u8 0)], none⟩] [])
 (.seq
 (.seq
 (.region false [
 ⟨some 5, .mov (.const (.int .i64 0)), none⟩] [])
 (.block 0
 (.loop
 (.seq
 (.region false [
 ⟨some 6, .bin .lss 3 (.tmp 5) (.const (.int .i64 4)), none⟩] [])
 (.seq
 (.cond (.tmp 6)
 .skip
 (.exit 0))
 (.seq
 (.block 1
 (.seq
 (.region false [
 ⟨some 7, .mov (.tmp 5), none⟩,
 ⟨some 4, .mov (.tmp 7), none⟩] [6, 7])
 (.region false [
 ⟨some 8, .mov (.tmp 4), none⟩,
 ⟨some 9, .mov (.tmp 0), none⟩,
 ⟨some 10, .mov (.tmp 4), none⟩,
 ⟨some 11, .bin .sub 3 (.const (.int .i64 3)) (.tmp 10), none⟩,
 ⟨some 12, .bin .mul 3 (.const (.int .i64 8)) (.tmp 11), none⟩,
 ⟨some 13, .bin .shr 32 (.tmp 9) (.tmp 12), none⟩,
 ⟨some 14, .cint .u8 (.tmp 13), none⟩,
 ⟨some 15, .iadra 4 1 (.tmp 3) (.tmp 8), none⟩,
 ⟨none, .store 1 (.tmp 15) (.tmp 14), none⟩] [4, 8, 9, 10, 11, 12, 13, 14, 15])) [])
 (.region false [
 ⟨some 16, .bin .add 3 (.tmp 5) (.const (.int .i64 1)), none⟩,
 ⟨some 5, .mov (.tmp 16), none⟩] [16])))) [] []) [0, 5, 6]))
 (.seq
 (.region false [
 ⟨some 17, .load true 4 (.tmp 3), none⟩,
 ⟨none, .store 4 (.tmp 2) (.tmp 17), none⟩] [3, 17])
 .ret))))
abbrev v_q134 : List RV := [.cell true 4 2]
abbrev f_q134 : FuncId := 137
theorem k_q134 : closedOf Tryz.prog Tryz.f137 = (false, some true, some v_q134, some c_q134.plain, 18) := by kernel_rfl
theorem ac_q134 {args : List AV} {r : AV} (h : aw Tryz.prog c_q134 (env0 args) (endQ v_q134 r)) (hargs : args.length ≤ 18 := by decide) (hok : resOK r = true := by rfl) : AC Tryz.prog f_q134 args r :=
  AC_mk (by kernel_rfl) Tryz.func137 k_q134 hargs hok (by decide) h
def c_q135 : ACode :=
 (.seq
 (.region false [
 ⟨some 1, .box (.tmp 0), none⟩,
 ⟨some 2, .mov (.const (.bool false)), none⟩] [0, 2])
 (.seq
 (.region true [
 ⟨some 3, .faddr 1 1 (.tmp 1), none⟩,
 ⟨some 4, .load false 1 (.tmp 3), none⟩,
 ⟨some 5, .bin .geq 3 (.tmp 4) (.const (.int .i64 0)), none⟩,
 ⟨some 6, .mov (.tmp 5), none⟩,
 ⟨some 7, .faddr 1 1 (.tmp 1), (some (6, true))⟩,
 ⟨some 8, .load false 1 (.tmp 7), (some (6, true))⟩,
 ⟨some 9, .bin .leq 3 (.tmp 8) (.const (.int .i64 32)), (some (6, true))⟩,
 ⟨some 10, .pick (.tmp 6) (.tmp 9) (.const (.bool false)), none⟩,
 ⟨some 11, .mov (.tmp 10), none⟩,
 ⟨some 12, .faddr 0 1 (.tmp 1), (some (11, true))⟩,
 ⟨some 13, .load false 1 (.tmp 12), (some (11, true))⟩,
 ⟨some 14, .faddr 1 1 (.tmp 1), (some (11, true))⟩,
 ⟨some 15, .load false 1 (.tmp 14), (some (11, true))⟩,
 ⟨some 16, .call 139 [.tmp 15], (some (11, true))⟩,
 ⟨some 17, .bin .andNot 32 (.tmp 13) (.tmp 16), (some (11, true))⟩,
 ⟨some 18, .bin .eql 32 (.tmp 17) (.const (.int .u32 0)), (some (11, true))⟩,
 ⟨some 19, .pick (.tmp 11) (.tmp 18) (.const (.bool false)), none⟩,
 ⟨some 2, .mov (.tmp 19), none⟩] [1, 3, 4, 5, 6, 7, 8, 9, 10, 11, 12, 13, 14, 15, 16, 17, 18, 19])
 .ret))
abbrev v_q135 : List RV := [.tmp 2]
abbrev f_q135 : FuncId := 138
theorem k_q135 : closedOf Tryz.prog Tryz.f138 = (false, some true, some v_q135, some c_q135.plain, 20) := by kernel_rfl
theorem ac_q135 {args : List AV} {r : AV} (h : aw Tryz.prog c_q135 (env0 args) (endQ v_q135 r)) (hargs : args.length ≤ 20 := by decide) (hok : resOK r = true := by rfl) : AC Tryz.prog f_q135 args r :=
  AC_mk (by kernel_rfl) Tryz.func138 k_q135 hargs hok (by decide) h
def c_q136 : ACode :=
 (.seq
 (.region false [
 ⟨some 2, .mov (.const (.int .u32 0)), none⟩] [2])
 (.seq
 (.region false [
 ⟨some 4, .mov (.tmp 0), none⟩,
 ⟨some 5, .mnmx true [.tmp 4, .const (.int .i64 0)], none⟩,
 ⟨some 6, .mnmx false [.tmp 5, .const (.int .i64 32)], none⟩,
 ⟨some 3, .mov (.tmp 6), none⟩] [0, 4, 5, 6])
 (.seq
 (.region false [
 ⟨some 7, .mov (.tmp 3), none⟩,
 ⟨some 8, .bin .shr 32 (.const (.int .u32 4294967295)) (.tmp 7), none⟩,
 ⟨some 9, .un .xor (.tmp 8), none⟩,
 ⟨some 2, .mov (.tmp 9), none⟩] [3, 7, 8, 9])
 .ret)))
abbrev v_q136 : List RV := [.tmp 2]
abbrev f_q136 : FuncId := 139
theorem k_q136 : closedOf Tryz.prog Tryz.f139 = (false, some true, some v_q136, some c_q136.plain, 10) := by kernel_rfl
theorem ac_q136 {args : List AV} {r : AV} (h : aw Tryz.prog c_q136 (env0 args) (endQ v_q136 r)) (hargs : args.length ≤ 10 := by decide) (hok : resOK r = true := by rfl) : AC Tryz.prog f_q136 args r :=
  AC_mk (by kernel_rfl) Tryz.func139 k_q136 hargs hok (by decide) h
def c_q137 : ACode :=
 (.seq
 (.region false [
 ⟨some 1, .box (.tmp 0), none⟩,
 ⟨some 2, .mov (.const (.bool false)), none⟩] [0, 2])
 (.seq
 (.region true [
 ⟨some 3, .faddr 1 1 (.tmp 1), none⟩,
 ⟨some 4, .load false 1 (.tmp 3), none⟩,
 ⟨some 5, .bin .geq 3 (.tmp 4) (.const (.int .i64 0)), none⟩,
 ⟨some 6, .mov (.tmp 5), none⟩,
 ⟨some 7, .faddr 1 1 (.tmp 1), (some (6, true))⟩,
 ⟨some 8, .load false 1 (.tmp 7), (some (6, true))⟩,
 ⟨some 9, .bin .leq 3 (.tmp 8) (.const (.int .i64 32)), (some (6, true))⟩,
 ⟨some 10, .pick (.tmp 6) (.tmp 9) (.const (.bool false)), none⟩,
 ⟨some 11, .mov (.tmp 10), none⟩,
 ⟨some 12, .faddr 0 1 (.tmp 1), (some (11, true))⟩,
 ⟨some 13, .load false 1 (.tmp 12), (some (11, true))⟩,
 ⟨some 14, .faddr 1 1 (.tmp 1), (some (11, true))⟩,
 ⟨some 15, .load false 1 (.tmp 14), (some (11, true))⟩,
 ⟨some 16, .call 141 [.tmp 15], (some (11, true))⟩,
 ⟨some 17, .bin .andNot 32 (.tmp 13) (.tmp 16), (some (11, true))⟩,
 ⟨some 18, .bin .eql 32 (.tmp 17) (.const (.int .u32 0)), (some (11, true))⟩,
 ⟨some 19, .pick (.tmp 11) (.tmp 18) (.const (.bool false)), none⟩,
 ⟨some 2, .mov (.tmp 19), none⟩] [1, 3, 4, 5, 6, 7, 8, 9, 10, 11, 12, 13, 14, 15, 16, 17, 18, 19])
 .ret))
abbrev v_q137 : List RV := [.tmp 2]
abbrev f_q137 : FuncId := 140
theorem k_q137 : closedOf Tryz.prog Tryz.f140 = (false, some true, some v_q137, some c_q137.plain, 20) := by kernel_rfl
theorem ac_q137 {args : List AV} {r : AV} (h : aw Tryz.prog c_q137 (env0 args) (endQ v_q137 r)) (hargs : args.length ≤ 20 := by decide) (hok : resOK r = true := by rfl) : AC Tryz.prog f_q137 args r :=
  AC_mk (by kernel_rfl) Tryz.func140 k_q137 hargs hok (by decide) h
def c_q138 : ACode :=
 (.seq
 (.region false [
 ⟨some 2, .mov (.const (.int .u32 0)), none⟩] [2])
 (.seq
 (.region false [
 ⟨some 3, .mov (.const (.int .u32 0)), none⟩] [])
 (.seq
 (.seq
 (.region false [
 ⟨some 4, .mov (.const (.int .i64 0)), none⟩] [])
 (.block 0
 (.loop
 (.seq
 (.seq
 (.region false [
 ⟨some 5, .mov (.tmp 4), none⟩,
 ⟨some 6, .mov (.tmp 0), none⟩,
 ⟨some 7, .bin .lss 3 (.tmp 5) (.tmp 6), none⟩,
 ⟨some 8, .mov (.tmp 7), none⟩,
 ⟨some 9, .mov (.tmp 4), (some (8, true))⟩,
 ⟨some 10, .bin .lss 3 (.tmp 9) (.const (.int .i64 32)), (some (8, true))⟩,
 ⟨some 11, .pick (.tmp 8) (.tmp 10) (.const (.bool false)), none⟩] [5, 6, 7, 8, 9, 10])
 (.cond (.tmp 11)
 .skip
 (.exit 0)))
 (.seq
 (.block 1
 (.region false [
 ⟨some 14, .mov (.tmp 3), none⟩,
 ⟨some 15, .mov (.tmp 4), none⟩,
 ⟨some 16, .bin .sub 3 (.const (.int .i64 31)) (.tmp 15), none⟩,
 ⟨some 17, .cint .u64 (.tmp 16), none⟩,
 ⟨some 18, .bin .shl 32 (.const (.int .u32 1)) (.tmp 17), none⟩,
 ⟨some 19, .bin .or 32 (.tmp 14) (.tmp 18), none⟩,
 ⟨some 3, .mov (.tmp 19), none⟩] [11, 14, 15, 16, 17, 18, 19]) [])
 (.region false [
 ⟨some 12, .mov (.tmp 4), none⟩,
 ⟨some 13, .bin .add 3 (.tmp 12) (.const (.int .i64 1)), none⟩,
 ⟨some 4, .mov (.tmp 13), none⟩] [12, 13]))) [] []) [0, 4, 11]))
 (.seq
 (.region false [
 ⟨some 20, .mov (.tmp 3), none⟩,
 ⟨some 2, .mov (.tmp 20), none⟩] [3, 20])
 .ret))))
abbrev v_q138 : List RV := [.tmp 2]
abbrev f_q138 : FuncId := 141
theorem k_q138 : closedOf Tryz.prog Tryz.f141 = (false, some true, some v_q138, some c_q138.plain, 21) := by kernel_rfl
theorem ac_q138 {args : List AV} {r : AV} (h : aw Tryz.prog c_q138 (env0 args) (endQ v_q138 r)) (hargs : args.length ≤ 21 := by decide) (hok : resOK r = true := by rfl) : AC Tryz.prog f_q138 args r :=
  AC_mk (by kernel_rfl) Tryz.func141 k_q138 hargs hok (by decide) h
def c_q139 : ACode :=
 (.seq
 (.region false [
 ⟨some 2, .box (.tmp 0), none⟩,
 ⟨some 4, .mov (.const (.int .i64 0)), none⟩] [0, 4])
 (.seq
 (.region false [
 ⟨some 7, .faddr 0 1 (.tmp 2), none⟩,
 ⟨some 8, .load false 1 (.tmp 7), none⟩,
 ⟨some 9, .mov (.tmp 1), none⟩,
 ⟨some 10, .iaddr 2 (.tmp 8) (.tmp 9), none⟩,
 ⟨some 11, .load true 2 (.tmp 10), none⟩,
 ⟨some 5, .alloc [.lit (.string ⟨#[]⟩), .lit (.int .i64 0)], none⟩,
 ⟨none, .store 2 (.tmp 5) (.tmp 11), none⟩] [7, 8, 9, 10, 11])
 (.seq
 (.seq
 (.region false [
 ⟨some 12, .faddr 0 1 (.tmp 5), none⟩,
 ⟨some 13, .load false 1 (.tmp 12), none⟩,
 ⟨some 14, .callm 195 [.tmp 13], none⟩,
 ⟨some 15, .bin .neq 3 (.tmp 14) (.const (.int .i64 0)), none⟩] [12, 13, 14])
 (.cond (.tmp 15)
 (.seq
 (.region false [
 ⟨some 4, .mov (.const (.int .i64 109)), none⟩] [1, 2, 5, 15])
 .ret)
 .skip))
 (.seq
 (.seq
 (.region false [
 ⟨some 6, .mov (.const (.int .i64 0)), none⟩] [15])
 (.block 0
 (.loop
 (.seq
 (.seq
 (.region false [
 ⟨some 16, .mov (.tmp 6), none⟩,
 ⟨some 17, .mov (.tmp 1), none⟩,
 ⟨some 18, .bin .lss 3 (.tmp 16) (.tmp 17), none⟩] [16, 17])
 (.cond (.tmp 18)
 .skip
 (.exit 0)))
 (.seq
 (.block 1
 (.seq
 (.region true [
 ⟨some 21, .faddr 0 1 (.tmp 2), none⟩,
 ⟨some 22, .load false 1 (.tmp 21), none⟩,
 ⟨some 23, .mov (.tmp 6), none⟩,
 ⟨some 24, .iaddr 2 (.tmp 22) (.tmp 23), none⟩,
 ⟨some 25, .faddr 0 1 (.tmp 24), none⟩,
 ⟨some 26, .load false 1 (.tmp 25), none⟩,
 ⟨some 27, .faddr 0 1 (.tmp 5), none⟩,
 ⟨some 28, .load false 1 (.tmp 27), none⟩,
 ⟨some 29, .bin .eql 9 (.tmp 26) (.tmp 28), none⟩] [18, 21, 22, 23, 24, 25, 26, 27, 28])
 (.cond (.tmp 29)
 (.seq
 (.region false [
 ⟨some 4, .mov (.const (.int .i64 110)), none⟩] [1, 2, 5, 6, 29])
 .ret)
 .skip)) [29])
 (.region false [
 ⟨some 19, .mov (.tmp 6), none⟩,
 ⟨some 20, .bin .add 3 (.tmp 19) (.const (.int .i64 1)), none⟩,
 ⟨some 6, .mov (.tmp 20), none⟩] [19, 20]))) [] []) [1, 2, 6, 18]))
 (.seq
 (.seq
 (.region false [
 ⟨some 30, .faddr 1 1 (.tmp 5), none⟩,
 ⟨some 31, .load false 1 (.tmp 30), none⟩,
 ⟨some 32, .bin .lss 3 (.tmp 31) (.const (.int .i64 0)), none⟩,
 ⟨some 33, .mov (.tmp 32), none⟩,
 ⟨some 34, .faddr 1 1 (.tmp 5), (some (33, false))⟩,
 ⟨some 35, .load false 1 (.tmp 34), (some (33, false))⟩,
 ⟨some 36, .bin .gtr 3 (.tmp 35) (.const (.int .i64 65535)), (some (33, false))⟩,
 ⟨some 37, .pick (.tmp 33) (.const (.bool true)) (.tmp 36), none⟩] [5, 30, 31, 32, 33, 34, 35, 36])
 (.cond (.tmp 37)
 (.seq
 (.region false [
 ⟨some 4, .mov (.const (.int .i64 103)), none⟩] [37])
 .ret)
 .skip))
 (.seq
 (.region false [
 ⟨some 4, .mov (.const (.int .i64 0)), none⟩] [37])
 .ret))))))
abbrev v_q139 : List RV := [.tmp 4]
abbrev f_q139 : FuncId := 142
theorem k_q139 : closedOf Tryz.prog Tryz.f142 = (false, some true, some v_q139, some c_q139.plain, 38) := by kernel_rfl
theorem ac_q139 {args : List AV} {r : AV} (h : aw Tryz.prog c_q139 (env0 args) (endQ v_q139 r)) (hargs : args.length ≤ 38 := by decide) (hok : resOK r = true := by rfl) : AC Tryz.prog f_q139 args r :=
  AC_mk (by kernel_rfl) Tryz.func142 k_q139 hargs hok (by decide) h
def c_q140 : ACode :=
 (.seq
 (.region false [
 ⟨some 2, .box (.tmp 0), none⟩,
 ⟨some 4, .mov (.const (.int .i64 0)), none⟩] [0, 4])
 (.seq
 (.region false [
 ⟨some 7, .faddr 1 1 (.tmp 2), none⟩,
 ⟨some 8, .load false 1 (.tmp 7), none⟩,
 ⟨some 9, .mov (.tmp 1), none⟩,
 ⟨some 10, .iaddr 3 (.tmp 8) (.tmp 9), none⟩,
 ⟨some 11, .load true 3 (.tmp 10), none⟩,
 ⟨some 5, .alloc [.lit (.string ⟨#[]⟩), .lit (.int .u32 0), .lit (.int .i64 0)], none⟩,
 ⟨none, .store 3 (.tmp 5) (.tmp 11), none⟩] [7, 8, 9, 10, 11])
 (.seq
 (.seq
 (.region false [
 ⟨some 12, .faddr 0 1 (.tmp 5), none⟩,
 ⟨some 13, .load false 1 (.tmp 12), none⟩,
 ⟨some 14, .callm 195 [.tmp 13], none⟩,
 ⟨some 15, .bin .neq 3 (.tmp 14) (.const (.int .i64 0)), none⟩] [12, 13, 14])
 (.cond (.tmp 15)
 (.seq
 (.region false [
 ⟨some 4, .mov (.const (.int .i64 109)), none⟩] [1, 2, 5, 15])
 .ret)
 .skip))
 (.seq
 (.seq
 (.region false [
 ⟨some 6, .mov (.const (.int .i64 0)), none⟩] [15])
 (.block 0
 (.loop
 (.seq
 (.seq
 (.region false [
 ⟨some 16, .mov (.tmp 6), none⟩,
 ⟨some 17, .mov (.tmp 1), none⟩,
 ⟨some 18, .bin .lss 3 (.tmp 16) (.tmp 17), none⟩] [16, 17])
 (.cond (.tmp 18)
 .skip
 (.exit 0)))
 (.seq
 (.block 1
 (.seq
 (.region true [
 ⟨some 21, .faddr 1 1 (.tmp 2), none⟩,
 ⟨some 22, .load false 1 (.tmp 21), none⟩,
 ⟨some 23, .mov (.tmp 6), none⟩,
 ⟨some 24, .iaddr 3 (.tmp 22) (.tmp 23), none⟩,
 ⟨some 25, .faddr 0 1 (.tmp 24), none⟩,
 ⟨some 26, .load false 1 (.tmp 25), none⟩,
 ⟨some 27, .faddr 0 1 (.tmp 5), none⟩,
 ⟨some 28, .load false 1 (.tmp 27), none⟩,
 ⟨some 29, .bin .eql 9 (.tmp 26) (.tmp 28), none⟩] [18, 21, 22, 23, 24, 25, 26, 27, 28])
 (.cond (.tmp 29)
 (.seq
 (.region false [
 ⟨some 4, .mov (.const (.int .i64 110)), none⟩] [1, 2, 5, 6, 29])
 .ret)
 .skip)) [29])
 (.region false [
 ⟨some 19, .mov (.tmp 6), none⟩,
 ⟨some 20, .bin .add 3 (.tmp 19) (.const (.int .i64 1)), none⟩,
 ⟨some 6, .mov (.tmp 20), none⟩] [19, 20]))) [] []) [1, 2, 6, 18]))
 (.seq
 (.seq
 (.region false [
 ⟨some 30, .faddr 1 2 (.tmp 5), none⟩,
 ⟨some 31, .load true 2 (.tmp 30), none⟩,
 ⟨some 32, .callm 140 [.tmp 31], none⟩,
 ⟨some 33, .un .not (.tmp 32), none⟩] [30, 31, 32])
 (.cond (.tmp 33)
 (.seq
 (.region false [
 ⟨some 4, .mov (.const (.int .i64 103)), none⟩] [5, 33])
 .ret)
 .skip))
 (.seq
 (.seq
 (.region true [
 ⟨some 34, .faddr 1 2 (.tmp 5), none⟩,
 ⟨some 35, .load true 2 (.tmp 34), none⟩,
 ⟨some 36, .call 95 [], none⟩,
 ⟨some 37, .call 196 [.tmp 35, .tmp 36], none⟩,
 ⟨some 38, .mov (.tmp 37), none⟩,
 ⟨some 39, .call 95 [], (some (38, false))⟩,
 ⟨some 40, .faddr 1 2 (.tmp 5), (some (38, false))⟩,
 ⟨some 41, .load true 2 (.tmp 40), (some (38, false))⟩,
 ⟨some 42, .call 196 [.tmp 39, .tmp 41], (some (38, false))⟩,
 ⟨some 43, .pick (.tmp 38) (.const (.bool true)) (.tmp 42), none⟩] [5, 33, 34, 35, 36, 37, 38, 39, 40, 41, 42])
 (.cond (.tmp 43)
 (.seq
 (.region false [
 ⟨some 4, .mov (.const (.int .i64 113)), none⟩] [43])
 .ret)
 .skip))
 (.seq
 (.region false [
 ⟨some 4, .mov (.const (.int .i64 0)), none⟩] [43])
 .ret)))))))
abbrev v_q140 : List RV := [.tmp 4]
abbrev f_q140 : FuncId := 143
theorem k_q140 : closedOf Tryz.prog Tryz.f143 = (false, some true, some v_q140, some c_q140.plain, 44) := by kernel_rfl
theorem ac_q140 {args : List AV} {r : AV} (h : aw Tryz.prog c_q140 (env0 args) (endQ v_q140 r)) (hargs : args.length ≤ 44 := by decide) (hok : resOK r = true := by rfl) : AC Tryz.prog f_q140 args r :=
  AC_mk (by kernel_rfl) Tryz.func143 k_q140 hargs hok (by decide) h
def c_q141 : ACode :=
 (.seq
 (.region false [
 ⟨some 2, .box (.tmp 0), none⟩,
 ⟨some 4, .mov (.const (.int .i64 0)), none⟩] [0, 4])
 (.seq
 (.region false [
 ⟨some 8, .faddr 2 1 (.tmp 2), none⟩,
 ⟨some 9, .load false 1 (.tmp 8), none⟩,
 ⟨some 10, .mov (.tmp 1), none⟩,
 ⟨some 11, .iaddr 3 (.tmp 9) (.tmp 10), none⟩,
 ⟨some 12, .load true 3 (.tmp 11), none⟩,
 ⟨some 5, .alloc [.lit (.int .i64 0), .lit (.int .i64 0), .lit (.int .u32 0)], none⟩,
 ⟨none, .store 3 (.tmp 5) (.tmp 12), none⟩] [8, 9, 10, 11, 12])
 (.seq
 (.seq
 (.region false [
 ⟨some 13, .faddr 0 1 (.tmp 5), none⟩,
 ⟨some 14, .load false 1 (.tmp 13), none⟩,
 ⟨some 15, .faddr 0 1 (.tmp 2), none⟩,
 ⟨some 16, .load false 1 (.tmp 15), none⟩,
 ⟨some 17, .lenl (.tmp 16), none⟩,
 ⟨some 18, .callm 197 [.tmp 14, .tmp 17], none⟩,
 ⟨some 19, .un .not (.tmp 18), none⟩,
 ⟨some 20, .mov (.tmp 19), none⟩,
 ⟨some 21, .faddr 1 1 (.tmp 5), (some (20, false))⟩,
 ⟨some 22, .load false 1 (.tmp 21), (some (20, false))⟩,
 ⟨some 23, .faddr 1 1 (.tmp 2), (some (20, false))⟩,
 ⟨some 24, .load false 1 (.tmp 23), (some (20, false))⟩,
 ⟨some 25, .lenl (.tmp 24), (some (20, false))⟩,
 ⟨some 26, .callm 197 [.tmp 22, .tmp 25], (some (20, false))⟩,
 ⟨some 27, .un .not (.tmp 26), (some (20, false))⟩,
 ⟨some 28, .pick (.tmp 20) (.const (.bool true)) (.tmp 27), none⟩] [13, 14, 15, 16, 17, 18, 19, 20, 21, 22, 23, 24, 25, 26, 27])
 (.cond (.tmp 28)
 (.seq
 (.region false [
 ⟨some 4, .mov (.const (.int .i64 111)), none⟩] [1, 2, 5, 28])
 .ret)
 .skip))
 (.seq
 (.seq
 (.region true [
 ⟨some 29, .faddr 2 1 (.tmp 5), none⟩,
 ⟨some 30, .load false 1 (.tmp 29), none⟩,
 ⟨some 31, .bin .eql 32 (.tmp 30) (.const (.int .u32 0)), none⟩,
 ⟨some 32, .mov (.tmp 31), none⟩,
 ⟨some 33, .faddr 1 1 (.tmp 2), (some (32, false))⟩,
 ⟨some 34, .load false 1 (.tmp 33), (some (32, false))⟩,
 ⟨some 35, .faddr 1 1 (.tmp 5), (some (32, false))⟩,
 ⟨some 36, .load false 1 (.tmp 35), (some (32, false))⟩,
 ⟨some 37, .iaddr 3 (.tmp 34) (.tmp 36), (some (32, false))⟩,
 ⟨some 38, .faddr 1 2 (.tmp 37), (some (32, false))⟩,
 ⟨some 39, .load true 2 (.tmp 38), (some (32, false))⟩,
 ⟨some 40, .faddr 2 1 (.tmp 5), (some (32, false))⟩,
 ⟨some 41, .load false 1 (.tmp 40), (some (32, false))⟩,
 ⟨some 42, .call 93 [.tmp 39, .tmp 41], (some (32, false))⟩,
 ⟨some 43, .un .not (.tmp 42), (some (32, false))⟩,
 ⟨some 44, .pick (.tmp 32) (.const (.bool true)) (.tmp 43), none⟩] [28, 29, 30, 31, 32, 33, 34, 35, 36, 37, 38, 39, 40, 41, 42, 43])
 (.cond (.tmp 44)
 (.seq
 (.region false [
 ⟨some 4, .mov (.const (.int .i64 112)), none⟩] [1, 2, 5, 44])
 .ret)
 .skip))
 (.seq
 (.seq
 (.region false [
 ⟨some 6, .mov (.const (.int .i64 0)), none⟩] [44])
 (.block 0
 (.loop
 (.seq
 (.seq
 (.region false [
 ⟨some 45, .mov (.tmp 6), none⟩,
 ⟨some 46, .mov (.tmp 1), none⟩,
 ⟨some 47, .bin .lss 3 (.tmp 45) (.tmp 46), none⟩] [45, 46])
 (.cond (.tmp 47)
 .skip
 (.exit 0)))
 (.seq
 (.block 1
 (.seq
 (.region false [
 ⟨some 50, .faddr 2 1 (.tmp 2), none⟩,
 ⟨some 51, .load false 1 (.tmp 50), none⟩,
 ⟨some 52, .mov (.tmp 6), none⟩,
 ⟨some 53, .iaddr 3 (.tmp 51) (.tmp 52), none⟩,
 ⟨some 54, .load true 3 (.tmp 53), none⟩,
 ⟨some 7, .alloc [.lit (.int .i64 0), .lit (.int .i64 0), .lit (.int .u32 0)], none⟩,
 ⟨none, .store 3 (.tmp 7) (.tmp 54), none⟩] [47, 50, 51, 52, 53, 54])
 (.seq
 (.region false [
 ⟨some 55, .faddr 2 1 (.tmp 7), none⟩,
 ⟨some 56, .load false 1 (.tmp 55), none⟩,
 ⟨some 57, .faddr 2 1 (.tmp 5), none⟩,
 ⟨some 58, .load false 1 (.tmp 57), none⟩,
 ⟨some 59, .bin .eql 32 (.tmp 56) (.tmp 58), none⟩,
 ⟨some 60, .mov (.tmp 59), none⟩,
 ⟨some 61, .faddr 0 1 (.tmp 7), (some (60, false))⟩,
 ⟨some 62, .load false 1 (.tmp 61), (some (60, false))⟩,
 ⟨some 63, .faddr 0 1 (.tmp 5), (some (60, false))⟩,
 ⟨some 64, .load false 1 (.tmp 63), (some (60, false))⟩,
 ⟨some 65, .bin .eql 3 (.tmp 62) (.tmp 64), (some (60, false))⟩,
 ⟨some 66, .mov (.tmp 65), (some (60, false))⟩,
 ⟨some 67, .faddr 1 1 (.tmp 7), (some (66, true))⟩,
 ⟨some 68, .load false 1 (.tmp 67), (some (66, true))⟩,
 ⟨some 69, .faddr 1 1 (.tmp 5), (some (66, true))⟩,
 ⟨some 70, .load false 1 (.tmp 69), (some (66, true))⟩,
 ⟨some 71, .bin .eql 3 (.tmp 68) (.tmp 70), (some (66, true))⟩,
 ⟨some 72, .pick (.tmp 66) (.tmp 71) (.const (.bool false)), (some (60, false))⟩,
 ⟨some 73, .pick (.tmp 60) (.const (.bool true)) (.tmp 72), none⟩] [7, 55, 56, 57, 58, 59, 60, 61, 62, 63, 64, 65, 66, 67, 68, 69, 70, 71, 72])
 (.cond (.tmp 73)
 (.seq
 (.region false [
 ⟨some 4, .mov (.const (.int .i64 110)), none⟩] [1, 2, 5, 6, 73])
 .ret)
 .skip))) [73])
 (.region false [
 ⟨some 48, .mov (.tmp 6), none⟩,
 ⟨some 49, .bin .add 3 (.tmp 48) (.const (.int .i64 1)), none⟩,
 ⟨some 6, .mov (.tmp 49), none⟩] [48, 49]))) [] [7]) [1, 2, 5, 6, 47]))
 (.seq
 (.region false [
 ⟨some 4, .mov (.const (.int .i64 0)), none⟩] [])
 .ret))))))
abbrev v_q141 : List RV := [.tmp 4]
abbrev f_q141 : FuncId := 144
theorem k_q141 : closedOf Tryz.prog Tryz.f144 = (false, some true, some v_q141, some c_q141.plain, 74) := by kernel_rfl
theorem ac_q141 {args : List AV} {r : AV} (h : aw Tryz.prog c_q141 (env0 args) (endQ v_q141 r)) (hargs : args.length ≤ 74 := by decide) (hok : resOK r = true := by rfl) : AC Tryz.prog f_q141 args r :=
  AC_mk (by kernel_rfl) Tryz.func144 k_q141 hargs hok (by decide) h
def c_q142 : ACode :=
 (.seq
 (.region false [
 ⟨some 2, .box (.tmp 0), none⟩,
 ⟨some 4, .mov (.const (.int .i64 0)), none⟩] [0, 4])
 (.seq
 (.region false [
 ⟨some 6, .faddr 3 1 (.tmp 2), none⟩,
 ⟨some 7, .load false 1 (.tmp 6), none⟩,
 ⟨some 8, .mov (.tmp 1), none⟩,
 ⟨some 9, .iaddr 5 (.tmp 7) (.tmp 8), none⟩,
 ⟨some 10, .load true 5 (.tmp 9), none⟩,
 ⟨some 5, .alloc [.lit (.int .i64 0), .lit (.int .u32 0), .lit (.int .i64 0), .lit (.int .u32 0), .lit (.int .i64 0)], none⟩,
 ⟨none, .store 5 (.tmp 5) (.tmp 10), none⟩] [1, 6, 7, 8, 9, 10])
 (.seq
 (.seq
 (.region false [
 ⟨some 11, .faddr 0 1 (.tmp 5), none⟩,
 ⟨some 12, .load false 1 (.tmp 11), none⟩,
 ⟨some 13, .faddr 0 1 (.tmp 2), none⟩,
 ⟨some 14, .load false 1 (.tmp 13), none⟩,
 ⟨some 15, .lenl (.tmp 14), none⟩,
 ⟨some 16, .callm 197 [.tmp 12, .tmp 15], none⟩,
 ⟨some 17, .un .not (.tmp 16), none⟩] [2, 11, 12, 13, 14, 15, 16])
 (.cond (.tmp 17)
 (.seq
 (.region false [
 ⟨some 4, .mov (.const (.int .i64 111)), none⟩] [5, 17])
 .ret)
 .skip))
 (.seq
 (.seq
 (.region false [
 ⟨some 18, .faddr 1 2 (.tmp 5), none⟩,
 ⟨some 19, .load true 2 (.tmp 18), none⟩,
 ⟨some 20, .callm 140 [.tmp 19], none⟩,
 ⟨some 21, .un .not (.tmp 20), none⟩,
 ⟨some 22, .mov (.tmp 21), none⟩,
 ⟨some 23, .faddr 4 1 (.tmp 5), (some (22, false))⟩,
 ⟨some 24, .load false 1 (.tmp 23), (some (22, false))⟩,
 ⟨some 25, .bin .lss 3 (.tmp 24) (.const (.int .i64 0)), (some (22, false))⟩,
 ⟨some 26, .pick (.tmp 22) (.const (.bool true)) (.tmp 25), none⟩,
 ⟨some 27, .mov (.tmp 26), none⟩,
 ⟨some 28, .faddr 4 1 (.tmp 5), (some (27, false))⟩,
 ⟨some 29, .load false 1 (.tmp 28), (some (27, false))⟩,
 ⟨some 30, .bin .gtr 3 (.tmp 29) (.const (.int .i64 65535)), (some (27, false))⟩,
 ⟨some 31, .pick (.tmp 27) (.const (.bool true)) (.tmp 30), none⟩] [17, 18, 19, 20, 21, 22, 23, 24, 25, 26, 27, 28, 29, 30])
 (.cond (.tmp 31)
 (.seq
 (.region false [
 ⟨some 4, .mov (.const (.int .i64 103)), none⟩] [5, 31])
 .ret)
 .skip))
 (.seq
 (.seq
 (.region false [
 ⟨some 32, .faddr 3 1 (.tmp 5), none⟩,
 ⟨some 33, .load false 1 (.tmp 32), none⟩,
 ⟨some 34, .callm 198 [.tmp 33], none⟩,
 ⟨some 35, .mov (.tmp 34), none⟩,
 ⟨some 36, .faddr 3 1 (.tmp 5), (some (35, false))⟩,
 ⟨some 37, .load false 1 (.tmp 36), (some (35, false))⟩,
 ⟨some 38, .bin .eql 32 (.tmp 37) (.const (.int .u32 0)), (some (35, false))⟩,
 ⟨some 39, .pick (.tmp 35) (.const (.bool true)) (.tmp 38), none⟩] [5, 31, 32, 33, 34, 35, 36, 37, 38])
 (.cond (.tmp 39)
 (.seq
 (.region false [
 ⟨some 4, .mov (.const (.int .i64 113)), none⟩] [39])
 .ret)
 .skip))
 (.seq
 (.region false [
 ⟨some 4, .mov (.const (.int .i64 0)), none⟩] [39])
 .ret))))))
abbrev v_q142 : List RV := [.tmp 4]
abbrev f_q142 : FuncId := 145
theorem k_q142 : closedOf Tryz.prog Tryz.f145 = (false, some true, some v_q142, some c_q142.plain, 40) := by kernel_rfl
theorem ac_q142 {args : List AV} {r : AV} (h : aw Tryz.prog c_q142 (env0 args) (endQ v_q142 r)) (hargs : args.length ≤ 40 := by decide) (hok : resOK r = true := by rfl) : AC Tryz.prog f_q142 args r :=
  AC_mk (by kernel_rfl) Tryz.func145 k_q142 hargs hok (by decide) h
def c_q143 : ACode :=
 (.seq
 (.region false [
 ⟨some 2, .box (.tmp 0), none⟩,
 ⟨some 4, .mov (.const (.int .i64 0)), none⟩] [0, 4])
 (.seq
 (.region false [
 ⟨some 7, .faddr 4 1 (.tmp 2), none⟩,
 ⟨some 8, .load false 1 (.tmp 7), none⟩,
 ⟨some 9, .mov (.tmp 1), none⟩,
 ⟨some 10, .iaddr 3 (.tmp 8) (.tmp 9), none⟩,
 ⟨some 11, .load true 3 (.tmp 10), none⟩,
 ⟨some 5, .alloc [.lit (.int .u32 0), .lit (.int .i64 0), .lit (.int .u32 0)], none⟩,
 ⟨none, .store 3 (.tmp 5) (.tmp 11), none⟩] [7, 8, 9, 10, 11])
 (.seq
 (.seq
 (.region false [
 ⟨some 12, .faddr 0 2 (.tmp 5), none⟩,
 ⟨some 13, .load true 2 (.tmp 12), none⟩,
 ⟨some 14, .callm 140 [.tmp 13], none⟩,
 ⟨some 15, .un .not (.tmp 14), none⟩] [12, 13, 14])
 (.cond (.tmp 15)
 (.seq
 (.region false [
 ⟨some 4, .mov (.const (.int .i64 103)), none⟩] [1, 2, 5, 15])
 .ret)
 .skip))
 (.seq
 (.seq
 (.region true [
 ⟨some 16, .faddr 0 2 (.tmp 5), none⟩,
 ⟨some 17, .load true 2 (.tmp 16), none⟩,
 ⟨some 18, .call 95 [], none⟩,
 ⟨some 19, .call 196 [.tmp 17, .tmp 18], none⟩,
 ⟨some 20, .un .not (.tmp 19), none⟩,
 ⟨some 21, .mov (.tmp 20), none⟩,
 ⟨some 22, .faddr 2 1 (.tmp 5), (some (21, false))⟩,
 ⟨some 23, .load false 1 (.tmp 22), (some (21, false))⟩,
 ⟨some 24, .call 198 [.tmp 23], (some (21, false))⟩,
 ⟨some 25, .pick (.tmp 21) (.const (.bool true)) (.tmp 24), none⟩,
 ⟨some 26, .mov (.tmp 25), none⟩,
 ⟨some 27, .faddr 2 1 (.tmp 5), (some (26, false))⟩,
 ⟨some 28, .load false 1 (.tmp 27), (some (26, false))⟩,
 ⟨some 29, .bin .eql 32 (.tmp 28) (.const (.int .u32 0)), (some (26, false))⟩,
 ⟨some 30, .pick (.tmp 26) (.const (.bool true)) (.tmp 29), none⟩] [15, 16, 17, 18, 19, 20, 21, 22, 23, 24, 25, 26, 27, 28, 29])
 (.cond (.tmp 30)
 (.seq
 (.region false [
 ⟨some 4, .mov (.const (.int .i64 113)), none⟩] [1, 2, 5, 30])
 .ret)
 .skip))
 (.seq
 (.seq
 (.region false [
 ⟨some 6, .mov (.const (.int .i64 0)), none⟩] [30])
 (.block 0
 (.loop
 (.seq
 (.seq
 (.region false [
 ⟨some 31, .mov (.tmp 6), none⟩,
 ⟨some 32, .mov (.tmp 1), none⟩,
 ⟨some 33, .bin .lss 3 (.tmp 31) (.tmp 32), none⟩] [31, 32])
 (.cond (.tmp 33)
 .skip
 (.exit 0)))
 (.seq
 (.block 1
 (.seq
 (.region true [
 ⟨some 36, .faddr 4 1 (.tmp 2), none⟩,
 ⟨some 37, .load false 1 (.tmp 36), none⟩,
 ⟨some 38, .mov (.tmp 6), none⟩,
 ⟨some 39, .iaddr 3 (.tmp 37) (.tmp 38), none⟩,
 ⟨some 40, .faddr 0 2 (.tmp 39), none⟩,
 ⟨some 41, .load true 2 (.tmp 40), none⟩,
 ⟨some 42, .faddr 0 2 (.tmp 5), none⟩,
 ⟨some 43, .load true 2 (.tmp 42), none⟩,
 ⟨some 44, .call 199 [.tmp 41, .tmp 43], none⟩] [33, 36, 37, 38, 39, 40, 41, 42, 43])
 (.cond (.tmp 44)
 (.seq
 (.region false [
 ⟨some 4, .mov (.const (.int .i64 110)), none⟩] [1, 2, 5, 6, 44])
 .ret)
 .skip)) [44])
 (.region false [
 ⟨some 34, .mov (.tmp 6), none⟩,
 ⟨some 35, .bin .add 3 (.tmp 34) (.const (.int .i64 1)), none⟩,
 ⟨some 6, .mov (.tmp 35), none⟩] [34, 35]))) [] []) [1, 2, 5, 6, 33]))
 (.seq
 (.region false [
 ⟨some 4, .mov (.const (.int .i64 0)), none⟩] [])
 .ret))))))
abbrev v_q143 : List RV := [.tmp 4]
abbrev f_q143 : FuncId := 146
theorem k_q143 : closedOf Tryz.prog Tryz.f146 = (false, some true, some v_q143, some c_q143.plain, 45) := by kernel_rfl
theorem ac_q143 {args : List AV} {r : AV} (h : aw Tryz.prog c_q143 (env0 args) (endQ v_q143 r)) (hargs : args.length ≤ 45 := by decide) (hok : resOK r = true := by rfl) : AC Tryz.prog f_q143 args r :=
  AC_mk (by kernel_rfl) Tryz.func146 k_q143 hargs hok (by decide) h
def c_q144 : ACode :=
 (.seq
 (.region false [
 ⟨some 2, .box (.tmp 0), none⟩,
 ⟨some 4, .mov (.const (.int .i64 0)), none⟩] [0, 4])
 (.seq
 (.region false [
 ⟨some 9, .faddr 5 1 (.tmp 2), none⟩,
 ⟨some 10, .load false 1 (.tmp 9), none⟩,
 ⟨some 11, .mov (.tmp 1), none⟩,
 ⟨some 12, .iaddr 3 (.tmp 10) (.tmp 11), none⟩,
 ⟨some 13, .load true 3 (.tmp 12), none⟩,
 ⟨some 5, .alloc [.lit (.int .i64 0), .lit (.int .u32 0), .lit (.int .u32 0)], none⟩,
 ⟨none, .store 3 (.tmp 5) (.tmp 13), none⟩] [9, 10, 11, 12, 13])
 (.seq
 (.seq
 (.region false [
 ⟨some 14, .faddr 0 1 (.tmp 5), none⟩,
 ⟨some 15, .load false 1 (.tmp 14), none⟩,
 ⟨some 16, .faddr 1 1 (.tmp 2), none⟩,
 ⟨some 17, .load false 1 (.tmp 16), none⟩,
 ⟨some 18, .lenl (.tmp 17), none⟩,
 ⟨some 19, .callm 197 [.tmp 15, .tmp 18], none⟩,
 ⟨some 20, .un .not (.tmp 19), none⟩] [14, 15, 16, 17, 18, 19])
 (.cond (.tmp 20)
 (.seq
 (.region false [
 ⟨some 4, .mov (.const (.int .i64 111)), none⟩] [1, 2, 5, 20])
 .ret)
 .skip))
 (.seq
 (.seq
 (.region true [
 ⟨some 21, .faddr 1 2 (.tmp 5), none⟩,
 ⟨some 22, .faddr 0 1 (.tmp 21), none⟩,
 ⟨some 23, .load false 1 (.tmp 22), none⟩,
 ⟨some 24, .bin .eql 32 (.tmp 23) (.const (.int .u32 0)), none⟩,
 ⟨some 25, .mov (.tmp 24), none⟩,
 ⟨some 26, .faddr 1 1 (.tmp 2), (some (25, false))⟩,
 ⟨some 27, .load false 1 (.tmp 26), (some (25, false))⟩,
 ⟨some 28, .faddr 0 1 (.tmp 5), (some (25, false))⟩,
 ⟨some 29, .load false 1 (.tmp 28), (some (25, false))⟩,
 ⟨some 30, .iaddr 3 (.tmp 27) (.tmp 29), (some (25, false))⟩,
 ⟨some 31, .faddr 1 2 (.tmp 30), (some (25, false))⟩,
 ⟨some 32, .load true 2 (.tmp 31), (some (25, false))⟩,
 ⟨some 33, .faddr 1 2 (.tmp 5), (some (25, false))⟩,
 ⟨some 34, .faddr 0 1 (.tmp 33), (some (25, false))⟩,
 ⟨some 35, .load false 1 (.tmp 34), (some (25, false))⟩,
 ⟨some 36, .call 93 [.tmp 32, .tmp 35], (some (25, false))⟩,
 ⟨some 37, .un .not (.tmp 36), (some (25, false))⟩,
 ⟨some 38, .pick (.tmp 25) (.const (.bool true)) (.tmp 37), none⟩] [20, 21, 22, 23, 24, 25, 26, 27, 28, 29, 30, 31, 32, 33, 34, 35, 36, 37])
 (.cond (.tmp 38)
 (.seq
 (.region false [
 ⟨some 4, .mov (.const (.int .i64 112)), none⟩] [1, 2, 5, 38])
 .ret)
 .skip))
 (.seq
 (.seq
 (.region false [
 ⟨some 39, .faddr 1 2 (.tmp 5), none⟩,
 ⟨some 40, .faddr 1 1 (.tmp 39), none⟩,
 ⟨some 41, .load false 1 (.tmp 40), none⟩,
 ⟨some 42, .callm 198 [.tmp 41], none⟩,
 ⟨some 43, .un .not (.tmp 42), none⟩] [38, 39, 40, 41, 42])
 (.cond (.tmp 43)
 (.seq
 (.region false [
 ⟨some 4, .mov (.const (.int .i64 113)), none⟩] [1, 2, 5, 43])
 .ret)
 .skip))
 (.seq
 (.seq
 (.region false [
 ⟨some 6, .mov (.const (.int .i64 0)), none⟩] [43])
 (.block 0
 (.loop
 (.seq
 (.seq
 (.region false [
 ⟨some 44, .mov (.tmp 6), none⟩,
 ⟨some 45, .mov (.tmp 1), none⟩,
 ⟨some 46, .bin .lss 3 (.tmp 44) (.tmp 45), none⟩] [44, 45])
 (.cond (.tmp 46)
 .skip
 (.exit 0)))
 (.seq
 (.block 1
 (.seq
 (.region false [
 ⟨some 49, .faddr 5 1 (.tmp 2), none⟩,
 ⟨some 50, .load false 1 (.tmp 49), none⟩,
 ⟨some 51, .mov (.tmp 6), none⟩,
 ⟨some 52, .iaddr 3 (.tmp 50) (.tmp 51), none⟩,
 ⟨some 53, .load true 3 (.tmp 52), none⟩,
 ⟨some 7, .alloc [.lit (.int .i64 0), .lit (.int .u32 0), .lit (.int .u32 0)], none⟩,
 ⟨none, .store 3 (.tmp 7) (.tmp 53), none⟩] [46, 49, 50, 51, 52, 53])
 (.seq
 (.region false [
 ⟨some 54, .faddr 1 2 (.tmp 7), none⟩,
 ⟨some 55, .load true 2 (.tmp 54), none⟩,
 ⟨some 56, .faddr 1 2 (.tmp 5), none⟩,
 ⟨some 57, .load true 2 (.tmp 56), none⟩,
 ⟨some 58, .callm 200 [.tmp 55, .tmp 57], none⟩,
 ⟨some 59, .mov (.tmp 58), none⟩,
 ⟨some 60, .faddr 1 2 (.tmp 7), (some (59, false))⟩,
 ⟨some 61, .faddr 0 1 (.tmp 60), (some (59, false))⟩,
 ⟨some 62, .load false 1 (.tmp 61), (some (59, false))⟩,
 ⟨some 63, .faddr 1 2 (.tmp 5), (some (59, false))⟩,
 ⟨some 64, .faddr 0 1 (.tmp 63), (some (59, false))⟩,
 ⟨some 65, .load false 1 (.tmp 64), (some (59, false))⟩,
 ⟨some 66, .bin .eql 32 (.tmp 62) (.tmp 65), (some (59, false))⟩,
 ⟨some 67, .mov (.tmp 66), (some (59, false))⟩,
 ⟨some 68, .faddr 0 1 (.tmp 7), (some (67, true))⟩,
 ⟨some 69, .load false 1 (.tmp 68), (some (67, true))⟩,
 ⟨some 70, .faddr 0 1 (.tmp 5), (some (67, true))⟩,
 ⟨some 71, .load false 1 (.tmp 70), (some (67, true))⟩,
 ⟨some 72, .bin .neq 3 (.tmp 69) (.tmp 71), (some (67, true))⟩,
 ⟨some 73, .pick (.tmp 67) (.tmp 72) (.const (.bool false)), (some (59, false))⟩,
 ⟨some 74, .pick (.tmp 59) (.const (.bool true)) (.tmp 73), none⟩] [7, 54, 55, 56, 57, 58, 59, 60, 61, 62, 63, 64, 65, 66, 67, 68, 69, 70, 71, 72, 73])
 (.cond (.tmp 74)
 (.seq
 (.region false [
 ⟨some 4, .mov (.const (.int .i64 110)), none⟩] [1, 2, 5, 6, 74])
 .ret)
 .skip))) [74])
 (.region false [
 ⟨some 47, .mov (.tmp 6), none⟩,
 ⟨some 48, .bin .add 3 (.tmp 47) (.const (.int .i64 1)), none⟩,
 ⟨some 6, .mov (.tmp 48), none⟩] [47, 48]))) [] [7]) [1, 6, 46]))
 (.seq
 (.seq
 (.region false [
 ⟨some 8, .mov (.const (.int .i64 0)), none⟩] [])
 (.block 2
 (.loop
 (.seq
 (.seq
 (.region false [
 ⟨some 75, .mov (.tmp 8), none⟩,
 ⟨some 76, .faddr 2 1 (.tmp 2), none⟩,
 ⟨some 77, .load false 1 (.tmp 76), none⟩,
 ⟨some 78, .lenl (.tmp 77), none⟩,
 ⟨some 79, .bin .lss 3 (.tmp 75) (.tmp 78), none⟩] [75, 76, 77, 78])
 (.cond (.tmp 79)
 .skip
 (.exit 2)))
 (.seq
 (.block 3
 (.seq
 (.region true [
 ⟨some 82, .faddr 2 1 (.tmp 2), none⟩,
 ⟨some 83, .load false 1 (.tmp 82), none⟩,
 ⟨some 84, .mov (.tmp 8), none⟩,
 ⟨some 85, .iaddr 3 (.tmp 83) (.tmp 84), none⟩,
 ⟨some 86, .faddr 2 1 (.tmp 85), none⟩,
 ⟨some 87, .load false 1 (.tmp 86), none⟩,
 ⟨some 88, .faddr 1 2 (.tmp 5), none⟩,
 ⟨some 89, .faddr 0 1 (.tmp 88), none⟩,
 ⟨some 90, .load false 1 (.tmp 89), none⟩,
 ⟨some 91, .bin .eql 32 (.tmp 87) (.tmp 90), none⟩] [79, 82, 83, 84, 85, 86, 87, 88, 89, 90])
 (.cond (.tmp 91)
 (.seq
 (.region false [
 ⟨some 4, .mov (.const (.int .i64 110)), none⟩] [2, 5, 8, 91])
 .ret)
 .skip)) [91])
 (.region false [
 ⟨some 80, .mov (.tmp 8), none⟩,
 ⟨some 81, .bin .add 3 (.tmp 80) (.const (.int .i64 1)), none⟩,
 ⟨some 8, .mov (.tmp 81), none⟩] [80, 81]))) [] []) [2, 5, 8, 79]))
 (.seq
 (.region false [
 ⟨some 4, .mov (.const (.int .i64 0)), none⟩] [])
 .ret))))))))
abbrev v_q144 : List RV := [.tmp 4]
abbrev f_q144 : FuncId := 147
theorem k_q144 : closedOf Tryz.prog Tryz.f147 = (false, some true, some v_q144, some c_q144.plain, 92) := by kernel_rfl
theorem ac_q144 {args : List AV} {r : AV} (h : aw Tryz.prog c_q144 (env0 args) (endQ v_q144 r)) (hargs : args.length ≤ 92 := by decide) (hok : resOK r = true := by rfl) : AC Tryz.prog f_q144 args r :=
  AC_mk (by kernel_rfl) Tryz.func147 k_q144 hargs hok (by decide) h
def c_q145 : ACode :=
 (.seq
 (.region false [
 ⟨some 2, .box (.tmp 0), none⟩,
 ⟨some 4, .mov (.const (.int .i64 0)), none⟩] [0, 4])
 (.seq
 (.region false [
 ⟨some 9, .faddr 6 1 (.tmp 2), none⟩,
 ⟨some 10, .load false 1 (.tmp 9), none⟩,
 ⟨some 11, .mov (.tmp 1), none⟩,
 ⟨some 12, .iaddr 4 (.tmp 10) (.tmp 11), none⟩,
 ⟨some 13, .load true 4 (.tmp 12), none⟩,
 ⟨some 5, .alloc [.lit (.int .i64 0), .lit (.int .u32 0), .lit (.bool false), .sl .nil 0 []], none⟩,
 ⟨none, .store 4 (.tmp 5) (.tmp 13), none⟩] [1, 9, 10, 11, 12, 13])
 (.seq
 (.seq
 (.region false [
 ⟨some 14, .faddr 0 1 (.tmp 5), none⟩,
 ⟨some 15, .load false 1 (.tmp 14), none⟩,
 ⟨some 16, .faddr 1 1 (.tmp 2), none⟩,
 ⟨some 17, .load false 1 (.tmp 16), none⟩,
 ⟨some 18, .lenl (.tmp 17), none⟩,
 ⟨some 19, .callm 197 [.tmp 15, .tmp 18], none⟩,
 ⟨some 20, .un .not (.tmp 19), none⟩] [2, 14, 15, 16, 17, 18, 19])
 (.cond (.tmp 20)
 (.seq
 (.region false [
 ⟨some 4, .mov (.const (.int .i64 111)), none⟩] [5, 20])
 .ret)
 .skip))
 (.seq
 (.region false [
 ⟨some 21, .faddr 1 1 (.tmp 5), none⟩,
 ⟨some 22, .load false 1 (.tmp 21), none⟩,
 ⟨some 23, .callm 198 [.tmp 22], none⟩,
 ⟨some 24, .un .not (.tmp 23), none⟩,
 ⟨some 6, .mov (.tmp 24), none⟩] [20, 21, 22, 23, 24])
 (.seq
 (.seq
 (.region false [
 ⟨some 7, .mov (.const (.int .i64 0)), none⟩] [])
 (.block 0
 (.loop
 (.seq
 (.seq
 (.region false [
 ⟨some 25, .mov (.tmp 7), none⟩,
 ⟨some 26, .faddr 3 1 (.tmp 5), none⟩,
 ⟨some 27, .load false 1 (.tmp 26), none⟩,
 ⟨some 28, .lenl (.tmp 27), none⟩,
 ⟨some 29, .bin .lss 3 (.tmp 25) (.tmp 28), none⟩] [25, 26, 27, 28])
 (.cond (.tmp 29)
 .skip
 (.exit 0)))
 (.seq
 (.block 1
 (.region false [
 ⟨some 32, .mov (.tmp 6), none⟩,
 ⟨some 33, .mov (.tmp 32), none⟩,
 ⟨some 34, .faddr 3 1 (.tmp 5), (some (33, false))⟩,
 ⟨some 35, .load false 1 (.tmp 34), (some (33, false))⟩,
 ⟨some 36, .mov (.tmp 7), (some (33, false))⟩,
 ⟨some 37, .iaddr 1 (.tmp 35) (.tmp 36), (some (33, false))⟩,
 ⟨some 38, .load false 1 (.tmp 37), (some (33, false))⟩,
 ⟨some 39, .callm 198 [.tmp 38], (some (33, false))⟩,
 ⟨some 40, .pick (.tmp 33) (.const (.bool true)) (.tmp 39), none⟩,
 ⟨some 41, .mov (.tmp 40), none⟩,
 ⟨some 42, .faddr 3 1 (.tmp 5), (some (41, false))⟩,
 ⟨some 43, .load false 1 (.tmp 42), (some (41, false))⟩,
 ⟨some 44, .mov (.tmp 7), (some (41, false))⟩,
 ⟨some 45, .iaddr 1 (.tmp 43) (.tmp 44), (some (41, false))⟩,
 ⟨some 46, .load false 1 (.tmp 45), (some (41, false))⟩,
 ⟨some 47, .bin .eql 32 (.tmp 46) (.const (.int .u32 0)), (some (41, false))⟩,
 ⟨some 48, .pick (.tmp 41) (.const (.bool true)) (.tmp 47), none⟩,
 ⟨some 6, .mov (.tmp 48), none⟩] [29, 32, 33, 34, 35, 36, 37, 38, 39, 40, 41, 42, 43, 44, 45, 46, 47, 48]) [])
 (.region false [
 ⟨some 30, .mov (.tmp 7), none⟩,
 ⟨some 31, .bin .add 3 (.tmp 30) (.const (.int .i64 1)), none⟩,
 ⟨some 7, .mov (.tmp 31), none⟩] [30, 31]))) [] []) [7, 29]))
 (.seq
 (.seq
 (.region false [
 ⟨some 49, .mov (.tmp 6), none⟩] [6])
 (.cond (.tmp 49)
 (.seq
 (.region false [
 ⟨some 4, .mov (.const (.int .i64 113)), none⟩] [5, 49])
 .ret)
 .skip))
 (.seq
 (.seq
 (.region false [
 ⟨some 50, .faddr 3 1 (.tmp 5), none⟩,
 ⟨some 51, .load false 1 (.tmp 50), none⟩,
 ⟨some 52, .lenl (.tmp 51), none⟩,
 ⟨some 53, .bin .gtr 3 (.tmp 52) (.const (.int .i64 4)), none⟩] [49, 50, 51, 52])
 (.cond (.tmp 53)
 (.seq
 (.region false [
 ⟨some 4, .mov (.const (.int .i64 104)), none⟩] [5, 53])
 .ret)
 .skip))
 (.seq
 (.seq
 (.region false [
 ⟨some 8, .mov (.const (.int .i64 0)), none⟩] [53])
 (.block 2
 (.loop
 (.seq
 (.seq
 (.region false [
 ⟨some 54, .mov (.tmp 8), none⟩,
 ⟨some 55, .faddr 3 1 (.tmp 5), none⟩,
 ⟨some 56, .load false 1 (.tmp 55), none⟩,
 ⟨some 57, .lenl (.tmp 56), none⟩,
 ⟨some 58, .bin .lss 3 (.tmp 54) (.tmp 57), none⟩] [54, 55, 56, 57])
 (.cond (.tmp 58)
 .skip
 (.exit 2)))
 (.seq
 (.block 3
 (.seq
 (.region true [
 ⟨some 61, .faddr 3 1 (.tmp 5), none⟩,
 ⟨some 62, .load false 1 (.tmp 61), none⟩,
 ⟨some 63, .mov (.tmp 8), none⟩,
 ⟨some 64, .slc 1 (.tmp 62) none (some (.tmp 63)), none⟩,
 ⟨some 65, .faddr 3 1 (.tmp 5), none⟩,
 ⟨some 66, .load false 1 (.tmp 65), none⟩,
 ⟨some 67, .mov (.tmp 8), none⟩,
 ⟨some 68, .iaddr 1 (.tmp 66) (.tmp 67), none⟩,
 ⟨some 69, .load false 1 (.tmp 68), none⟩,
 ⟨some 70, .call 25 [.tmp 64, .tmp 69], none⟩] [58, 61, 62, 63, 64, 65, 66, 67, 68, 69])
 (.cond (.tmp 70)
 (.seq
 (.region false [
 ⟨some 4, .mov (.const (.int .i64 110)), none⟩] [5, 8, 70])
 .ret)
 .skip)) [70])
 (.region false [
 ⟨some 59, .mov (.tmp 8), none⟩,
 ⟨some 60, .bin .add 3 (.tmp 59) (.const (.int .i64 1)), none⟩,
 ⟨some 8, .mov (.tmp 60), none⟩] [59, 60]))) [] []) [5, 8, 58]))
 (.seq
 (.region false [
 ⟨some 4, .mov (.const (.int .i64 0)), none⟩] [])
 .ret)))))))))
abbrev v_q145 : List RV := [.tmp 4]
abbrev f_q145 : FuncId := 148
theorem k_q145 : closedOf Tryz.prog Tryz.f148 = (false, some true, some v_q145, some c_q145.plain, 71) := by kernel_rfl
theorem ac_q145 {args : List AV} {r : AV} (h : aw Tryz.prog c_q145 (env0 args) (endQ v_q145 r)) (hargs : args.length ≤ 71 := by decide) (hok : resOK r = true := by rfl) : AC Tryz.prog f_q145 args r :=
  AC_mk (by kernel_rfl) Tryz.func148 k_q145 hargs hok (by decide) h
def c_q157 : ACode :=
 (.seq
 (.region false [
 ⟨some 4, .mov (.const (.int .i64 0)), none⟩] [4])
 (.seq
 (.seq
 (.region false [
 ⟨some 6, .mov (.tmp 0), none⟩,
 ⟨some 7, .lenl (.tmp 6), none⟩,
 ⟨some 8, .mov (.const (.int .i64 0)), none⟩] [6])
 (.block 0
 (.loop
 (.seq
 (.region false [
 ⟨some 9, .bin .lss 3 (.tmp 8) (.tmp 7), none⟩] [])
 (.seq
 (.cond (.tmp 9)
 .skip
 (.exit 0))
 (.seq
 (.block 1
 (.seq
 (.region false [
 ⟨some 10, .mov (.tmp 8), none⟩,
 ⟨some 5, .mov (.tmp 10), none⟩] [9, 10])
 (.seq
 (.region false [
 ⟨some 11, .mov (.tmp 1), none⟩,
 ⟨some 12, .mov (.tmp 0), none⟩,
 ⟨some 13, .mov (.tmp 5), none⟩,
 ⟨some 14, .iaddr 1 (.tmp 12) (.tmp 13), none⟩,
 ⟨some 15, .load false 1 (.tmp 14), none⟩,
 ⟨some 16, .callvm (.tmp 11) [.tmp 15], none⟩] [11, 12, 13, 14, 15])
 (.cond (.tmp 16)
 (.seq
 (.region false [
 ⟨some 17, .mov (.tmp 5), none⟩,
 ⟨some 4, .mov (.tmp 17), none⟩] [0, 1, 5, 7, 8, 16, 17])
 .ret)
 .skip))) [5, 16])
 (.region false [
 ⟨some 18, .bin .add 3 (.tmp 8) (.const (.int .i64 1)), none⟩,
 ⟨some 8, .mov (.tmp 18), none⟩] [18])))) [] []) [0, 1, 7, 8, 9]))
 (.seq
 (.region false [
 ⟨some 4, .mov (.const (.int .i64 (-1))), none⟩] [])
 .ret)))
abbrev v_q157 : List RV := [.tmp 4]
abbrev f_q157 : FuncId := 160
theorem k_q157 : closedOf Tryz.prog Tryz.f160 = (false, some true, some v_q157, some c_q157.plain, 19) := by kernel_rfl
theorem ac_q157 {args : List AV} {r : AV} (h : aw Tryz.prog c_q157 (env0 args) (endQ v_q157 r)) (hargs : args.length ≤ 19 := by decide) (hok : resOK r = true := by rfl) : AC Tryz.prog f_q157 args r :=
  AC_mk (by kernel_rfl) Tryz.func160 k_q157 hargs hok (by decide) h
def c_q160 : ACode :=
 (.seq
 (.region false [
 ⟨some 2, .mov (.const (.nilIface)), none⟩] [2])
 (.seq
 (.seq
 (.region false [
 ⟨some 5, .mov (.tmp 0), none⟩,
 ⟨some 6, .lens (.tmp 5), none⟩,
 ⟨some 7, .bin .lss 3 (.tmp 6) (.const (.int .i64 1)), none⟩,
 ⟨some 8, .mov (.tmp 7), none⟩,
 ⟨some 9, .mov (.tmp 0), (some (8, false))⟩,
 ⟨some 10, .lens (.tmp 9), (some (8, false))⟩,
 ⟨some 11, .bin .gtr 3 (.tmp 10) (.const (.int .i64 12)), (some (8, false))⟩,
 ⟨some 12, .pick (.tmp 8) (.const (.bool true)) (.tmp 11), none⟩,
 ⟨some 13, .mov (.tmp 12), none⟩,
 ⟨some 14, .mov (.tmp 0), (some (13, false))⟩,
 ⟨some 15, .idxs (.tmp 14) (.const (.int .i64 0)), (some (13, false))⟩,
 ⟨some 16, .callm 205 [.tmp 15], (some (13, false))⟩,
 ⟨some 17, .un .not (.tmp 16), (some (13, false))⟩,
 ⟨some 18, .pick (.tmp 13) (.const (.bool true)) (.tmp 17), none⟩] [5, 6, 7, 8, 9, 10, 11, 12, 13, 14, 15, 16, 17])
 (.cond (.tmp 18)
 (.seq
 (.region false [
 ⟨some 19, .load false 1 (.global 6), none⟩,
 ⟨some 2, .mov (.tmp 19), none⟩] [0, 18, 19])
 .ret)
 .skip))
 (.seq
 (.seq
 (.region false [
 ⟨some 20, .mov (.tmp 0), none⟩,
 ⟨some 21, .lens (.tmp 20), none⟩,
 ⟨some 22, .mov (.const (.int .i64 0)), none⟩] [18, 20])
 (.block 0
 (.loop
 (.seq
 (.region false [
 ⟨some 23, .bin .lss 3 (.tmp 22) (.tmp 21), none⟩] [])
 (.seq
 (.cond (.tmp 23)
 .skip
 (.exit 0))
 (.seq
 (.block 1
 (.seq
 (.region false [
 ⟨some 24, .mov (.tmp 22), none⟩,
 ⟨some 3, .mov (.tmp 24), none⟩] [23, 24])
 (.seq
 (.region false [
 ⟨some 25, .mov (.tmp 0), none⟩,
 ⟨some 26, .mov (.tmp 3), none⟩,
 ⟨some 27, .idxs (.tmp 25) (.tmp 26), none⟩,
 ⟨some 4, .mov (.tmp 27), none⟩] [3, 25, 26, 27])
 (.seq
 (.region false [
 ⟨some 28, .mov (.tmp 4), none⟩,
 ⟨some 29, .callm 205 [.tmp 28], none⟩,
 ⟨some 30, .un .not (.tmp 29), none⟩,
 ⟨some 31, .mov (.tmp 30), none⟩,
 ⟨some 32, .mov (.tmp 4), (some (31, true))⟩,
 ⟨some 33, .bin .neq 5 (.tmp 32) (.const (.int .u8 45)), (some (31, true))⟩,
 ⟨some 34, .pick (.tmp 31) (.tmp 33) (.const (.bool false)), none⟩,
 ⟨some 35, .mov (.tmp 34), none⟩,
 ⟨some 36, .mov (.tmp 4), (some (35, true))⟩,
 ⟨some 37, .bin .lss 5 (.tmp 36) (.const (.int .u8 48)), (some (35, true))⟩,
 ⟨some 38, .mov (.tmp 37), (some (35, true))⟩,
 ⟨some 39, .mov (.tmp 4), (some (38, false))⟩,
 ⟨some 40, .bin .gtr 5 (.tmp 39) (.const (.int .u8 57)), (some (38, false))⟩,
 ⟨some 41, .pick (.tmp 38) (.const (.bool true)) (.tmp 40), (some (35, true))⟩,
 ⟨some 42, .pick (.tmp 35) (.tmp 41) (.const (.bool false)), none⟩] [4, 28, 29, 30, 31, 32, 33, 34, 35, 36, 37, 38, 39, 40, 41])
 (.cond (.tmp 42)
 (.seq
 (.region false [
 ⟨some 43, .load false 1 (.global 6), none⟩,
 ⟨some 2, .mov (.tmp 43), none⟩] [0, 21, 22, 42, 43])
 .ret)
 .skip)))) [42])
 (.region false [
 ⟨some 44, .bin .add 3 (.tmp 22) (.const (.int .i64 1)), none⟩,
 ⟨some 22, .mov (.tmp 44), none⟩] [44])))) [] []) [0, 21, 22, 23]))
 (.seq
 (.region false [
 ⟨some 2, .mov (.const (.nilIface)), none⟩] [])
 .ret))))
abbrev v_q160 : List RV := [.tmp 2]
abbrev f_q160 : FuncId := 163
theorem k_q160 : closedOf Tryz.prog Tryz.f163 = (false, some true, some v_q160, some c_q160.plain, 45) := by kernel_rfl
theorem ac_q160 {args : List AV} {r : AV} (h : aw Tryz.prog c_q160 (env0 args) (endQ v_q160 r)) (hargs : args.length ≤ 45 := by decide) (hok : resOK r = true := by rfl) : AC Tryz.prog f_q160 args r :=
  AC_mk (by kernel_rfl) Tryz.func163 k_q160 hargs hok (by decide) h
def c_q161 : ACode :=
 (.seq
 (.region false [
 ⟨some 4, .mov (.const (.bool false)), none⟩] [4])
 (.seq
 (.region false [
 ⟨some 5, .mov (.tmp 0), none⟩,
 ⟨some 6, .mov (.tmp 1), none⟩,
 ⟨some 7, .callm 206 [.tmp 5, .tmp 6], none⟩,
 ⟨some 8, .bin .geq 3 (.tmp 7) (.const (.int .i64 0)), none⟩,
 ⟨some 4, .mov (.tmp 8), none⟩] [0, 1, 5, 6, 7, 8])
 .ret))
abbrev v_q161 : List RV := [.tmp 4]
abbrev f_q161 : FuncId := 164
theorem k_q161 : closedOf Tryz.prog Tryz.f164 = (false, some true, some v_q161, some c_q161.plain, 9) := by kernel_rfl
theorem ac_q161 {args : List AV} {r : AV} (h : aw Tryz.prog c_q161 (env0 args) (endQ v_q161 r)) (hargs : args.length ≤ 9 := by decide) (hok : resOK r = true := by rfl) : AC Tryz.prog f_q161 args r :=
  AC_mk (by kernel_rfl) Tryz.func164 k_q161 hargs hok (by decide) h
def c_q162 : ACode :=
 (.seq
 (.region false [
 ⟨some 2, .box (.tmp 0), none⟩,
 ⟨some 3, .mov (.const (.bool false)), none⟩] [0, 3])
 (.seq
 (.region false [
 ⟨some 4, .faddr 0 1 (.tmp 2), none⟩,
 ⟨some 5, .load false 1 (.tmp 4), none⟩,
 ⟨some 6, .faddr 0 1 (.tmp 1), none⟩,
 ⟨some 7, .load false 1 (.tmp 6), none⟩,
 ⟨some 8, .bin .eql 9 (.tmp 5) (.tmp 7), none⟩,
 ⟨some 3, .mov (.tmp 8), none⟩] [1, 2, 4, 5, 6, 7, 8])
 .ret))
abbrev v_q162 : List RV := [.tmp 3]
abbrev f_q162 : FuncId := 165
theorem k_q162 : closedOf Tryz.prog Tryz.f165 = (false, some true, some v_q162, some c_q162.plain, 9) := by kernel_rfl
theorem ac_q162 {args : List AV} {r : AV} (h : aw Tryz.prog c_q162 (env0 args) (endQ v_q162 r)) (hargs : args.length ≤ 9 := by decide) (hok : resOK r = true := by rfl) : AC Tryz.prog f_q162 args r :=
  AC_mk (by kernel_rfl) Tryz.func165 k_q162 hargs hok (by decide) h
def c_q163 : ACode :=
 (.seq
 (.region false [
 ⟨some 2, .mov (.const (.bool false)), none⟩] [2])
 (.seq
 (.region false [
 ⟨some 3, .mov (.tmp 0), none⟩,
 ⟨some 4, .bin .geq 3 (.tmp 3) (.const (.int .i64 0)), none⟩,
 ⟨some 5, .mov (.tmp 4), none⟩,
 ⟨some 6, .mov (.tmp 0), (some (5, true))⟩,
 ⟨some 7, .bin .leq 3 (.tmp 6) (.const (.int .i64 65535)), (some (5, true))⟩,
 ⟨some 8, .pick (.tmp 5) (.tmp 7) (.const (.bool false)), none⟩,
 ⟨some 2, .mov (.tmp 8), none⟩] [0, 3, 4, 5, 6, 7, 8])
 .ret))
abbrev v_q163 : List RV := [.tmp 2]
abbrev f_q163 : FuncId := 166
theorem k_q163 : closedOf Tryz.prog Tryz.f166 = (false, some true, some v_q163, some c_q163.plain, 9) := by kernel_rfl
theorem ac_q163 {args : List AV} {r : AV} (h : aw Tryz.prog c_q163 (env0 args) (endQ v_q163 r)) (hargs : args.length ≤ 9 := by decide) (hok : resOK r = true := by rfl) : AC Tryz.prog f_q163 args r :=
  AC_mk (by kernel_rfl) Tryz.func166 k_q163 hargs hok (by decide) h
def c_q164 : ACode :=
 (.seq
 (.region false [
 ⟨some 4, .mov (.const (.bool false)), none⟩] [4])
 (.seq
 (.region false [
 ⟨some 5, .mov (.tmp 0), none⟩,
 ⟨some 6, .mov (.tmp 1), none⟩,
 ⟨some 7, .callm 207 [.tmp 5, .tmp 6], none⟩,
 ⟨some 8, .bin .geq 3 (.tmp 7) (.const (.int .i64 0)), none⟩,
 ⟨some 4, .mov (.tmp 8), none⟩] [0, 1, 5, 6, 7, 8])
 .ret))
abbrev v_q164 : List RV := [.tmp 4]
abbrev f_q164 : FuncId := 167
theorem k_q164 : closedOf Tryz.prog Tryz.f167 = (false, some true, some v_q164, some c_q164.plain, 9) := by kernel_rfl
theorem ac_q164 {args : List AV} {r : AV} (h : aw Tryz.prog c_q164 (env0 args) (endQ v_q164 r)) (hargs : args.length ≤ 9 := by decide) (hok : resOK r = true := by rfl) : AC Tryz.prog f_q164 args r :=
  AC_mk (by kernel_rfl) Tryz.func167 k_q164 hargs hok (by decide) h
def c_q165 : ACode :=
 (.seq
 (.region false [
 ⟨some 2, .box (.tmp 0), none⟩,
 ⟨some 3, .mov (.const (.bool false)), none⟩] [0, 3])
 (.seq
 (.region false [
 ⟨some 4, .faddr 0 1 (.tmp 2), none⟩,
 ⟨some 5, .load false 1 (.tmp 4), none⟩,
 ⟨some 6, .faddr 0 1 (.tmp 1), none⟩,
 ⟨some 7, .load false 1 (.tmp 6), none⟩,
 ⟨some 8, .bin .eql 9 (.tmp 5) (.tmp 7), none⟩,
 ⟨some 3, .mov (.tmp 8), none⟩] [1, 2, 4, 5, 6, 7, 8])
 .ret))
abbrev v_q165 : List RV := [.tmp 3]
abbrev f_q165 : FuncId := 168
theorem k_q165 : closedOf Tryz.prog Tryz.f168 = (false, some true, some v_q165, some c_q165.plain, 9) := by kernel_rfl
theorem ac_q165 {args : List AV} {r : AV} (h : aw Tryz.prog c_q165 (env0 args) (endQ v_q165 r)) (hargs : args.length ≤ 9 := by decide) (hok : resOK r = true := by rfl) : AC Tryz.prog f_q165 args r :=
  AC_mk (by kernel_rfl) Tryz.func168 k_q165 hargs hok (by decide) h
def c_q166 : ACode :=
 (.seq
 (.region false [
 ⟨some 2, .box (.tmp 0), none⟩,
 ⟨some 3, .box (.tmp 1), none⟩,
 ⟨some 4, .mov (.const (.bool false)), none⟩] [0, 1, 4])
 (.seq
 (.region false [
 ⟨some 5, .load true 2 (.tmp 2), none⟩,
 ⟨some 6, .callm 138 [.tmp 5], none⟩,
 ⟨some 7, .mov (.tmp 6), none⟩,
 ⟨some 8, .faddr 1 1 (.tmp 2), (some (7, true))⟩,
 ⟨some 9, .load false 1 (.tmp 8), (some (7, true))⟩,
 ⟨some 10, .faddr 1 1 (.tmp 3), (some (7, true))⟩,
 ⟨some 11, .load false 1 (.tmp 10), (some (7, true))⟩,
 ⟨some 12, .bin .geq 3 (.tmp 9) (.tmp 11), (some (7, true))⟩,
 ⟨some 13, .pick (.tmp 7) (.tmp 12) (.const (.bool false)), none⟩,
 ⟨some 14, .mov (.tmp 13), none⟩,
 ⟨some 15, .load true 2 (.tmp 3), (some (14, true))⟩,
 ⟨some 16, .faddr 0 1 (.tmp 2), (some (14, true))⟩,
 ⟨some 17, .load false 1 (.tmp 16), (some (14, true))⟩,
 ⟨some 18, .callm 92 [.tmp 15, .tmp 17], (some (14, true))⟩,
 ⟨some 19, .pick (.tmp 14) (.tmp 18) (.const (.bool false)), none⟩,
 ⟨some 4, .mov (.tmp 19), none⟩] [2, 3, 5, 6, 7, 8, 9, 10, 11, 12, 13, 14, 15, 16, 17, 18, 19])
 .ret))
abbrev v_q166 : List RV := [.tmp 4]
abbrev f_q166 : FuncId := 169
theorem k_q166 : closedOf Tryz.prog Tryz.f169 = (false, some true, some v_q166, some c_q166.plain, 20) := by kernel_rfl
theorem ac_q166 {args : List AV} {r : AV} (h : aw Tryz.prog c_q166 (env0 args) (endQ v_q166 r)) (hargs : args.length ≤ 20 := by decide) (hok : resOK r = true := by rfl) : AC Tryz.prog f_q166 args r :=
  AC_mk (by kernel_rfl) Tryz.func169 k_q166 hargs hok (by decide) h
def c_q167 : ACode :=
 (.seq
 (.region false [
 ⟨some 0, .alloc [.lit (.int .u32 0), .lit (.int .i64 0)], none⟩] [])
 (.seq
 (.region false [
 ⟨some 1, .build [.lit (.int .u8 0), .lit (.int .u8 0), .lit (.int .u8 0), .lit (.int .u8 0)] [(0, 1, .const (.int .u8 224)), (1, 1, .const (.int .u8 0)), (2, 1, .const (.int .u8 0)), (3, 1, .const (.int .u8 0))], none⟩,
 ⟨some 2, .callm 208 [.tmp 1], none⟩,
 ⟨some 3, .build [.lit (.int .u32 0), .lit (.int .i64 0)] [(0, 1, .tmp 2), (1, 1, .const (.int .i64 4))], none⟩,
 ⟨none, .store 2 (.tmp 0) (.tmp 3), none⟩] [1, 2, 3])
 .ret))
abbrev v_q167 : List RV := [.cell true 2 0]
abbrev f_q167 : FuncId := 170
theorem k_q167 : closedOf Tryz.prog Tryz.f170 = (false, some true, some v_q167, some c_q167.plain, 4) := by kernel_rfl
theorem ac_q167 {args : List AV} {r : AV} (h : aw Tryz.prog c_q167 (env0 args) (endQ v_q167 r)) (hargs : args.length ≤ 4 := by decide) (hok : resOK r = true := by rfl) : AC Tryz.prog f_q167 args r :=
  AC_mk (by kernel_rfl) Tryz.func170 k_q167 hargs hok (by decide) h
def c_q168 : ACode :=
 (.seq
 (.region false [
 ⟨some 4, .mov (.const (.bool false)), none⟩] [4])
 (.seq
 (.region false [
 ⟨some 5, .mov (.tmp 0), none⟩,
 ⟨some 6, .bin .geq 3 (.tmp 5) (.const (.int .i64 0)), none⟩,
 ⟨some 7, .mov (.tmp 6), none⟩,
 ⟨some 8, .mov (.tmp 0), (some (7, true))⟩,
 ⟨some 9, .mov (.tmp 1), (some (7, true))⟩,
 ⟨some 10, .bin .lss 3 (.tmp 8) (.tmp 9), (some (7, true))⟩,
 ⟨some 11, .pick (.tmp 7) (.tmp 10) (.const (.bool false)), none⟩,
 ⟨some 4, .mov (.tmp 11), none⟩] [0, 1, 5, 6, 7, 8, 9, 10, 11])
 .ret))
abbrev v_q168 : List RV := [.tmp 4]
abbrev f_q168 : FuncId := 171
theorem k_q168 : closedOf Tryz.prog Tryz.f171 = (false, some true, some v_q168, some c_q168.plain, 12) := by kernel_rfl
theorem ac_q168 {args : List AV} {r : AV} (h : aw Tryz.prog c_q168 (env0 args) (endQ v_q168 r)) (hargs : args.length ≤ 12 := by decide) (hok : resOK r = true := by rfl) : AC Tryz.prog f_q168 args r :=
  AC_mk (by kernel_rfl) Tryz.func171 k_q168 hargs hok (by decide) h
def c_q169 : ACode :=
 (.seq
 (.region false [
 ⟨some 3, .box (.tmp 0), none⟩,
 ⟨some 6, .mov (.const (.bool false)), none⟩] [0, 6])
 (.seq
 (.region false [
 ⟨some 7, .mov (.tmp 2), none⟩,
 ⟨some 8, .bin .neq 32 (.tmp 7) (.const (.int .u32 0)), none⟩,
 ⟨some 9, .mov (.tmp 8), none⟩,
 ⟨some 10, .faddr 0 7 (.tmp 3), (some (9, true))⟩,
 ⟨some 11, .faddr 1 1 (.tmp 10), (some (9, true))⟩,
 ⟨some 12, .load false 1 (.tmp 11), (some (9, true))⟩,
 ⟨some 13, .mov (.tmp 1), (some (9, true))⟩,
 ⟨some 14, .iaddr 3 (.tmp 12) (.tmp 13), (some (9, true))⟩,
 ⟨some 15, .faddr 1 2 (.tmp 14), (some (9, true))⟩,
 ⟨some 16, .load true 2 (.tmp 15), (some (9, true))⟩,
 ⟨some 17, .mov (.tmp 2), (some (9, true))⟩,
 ⟨some 18, .callm 92 [.tmp 16, .tmp 17], (some (9, true))⟩,
 ⟨some 19, .pick (.tmp 9) (.tmp 18) (.const (.bool false)), none⟩,
 ⟨some 6, .mov (.tmp 19), none⟩] [1, 2, 3, 7, 8, 9, 10, 11, 12, 13, 14, 15, 16, 17, 18, 19])
 .ret))
abbrev v_q169 : List RV := [.tmp 6]
abbrev f_q169 : FuncId := 172
theorem k_q169 : closedOf Tryz.prog Tryz.f172 = (false, some true, some v_q169, some c_q169.plain, 20) := by kernel_rfl
theorem ac_q169 {args : List AV} {r : AV} (h : aw Tryz.prog c_q169 (env0 args) (endQ v_q169 r)) (hargs : args.length ≤ 20 := by decide) (hok : resOK r = true := by rfl) : AC Tryz.prog f_q169 args r :=
  AC_mk (by kernel_rfl) Tryz.func172 k_q169 hargs hok (by decide) h
def c_q170 : ACode :=
 (.seq
 (.region false [
 ⟨some 4, .mov (.const (.bool false)), none⟩] [4])
 (.seq
 (.region false [
 ⟨some 5, .mov (.tmp 0), none⟩,
 ⟨some 6, .mov (.tmp 1), none⟩,
 ⟨some 7, .callm 209 [.tmp 5, .tmp 6], none⟩,
 ⟨some 8, .bin .geq 3 (.tmp 7) (.const (.int .i64 0)), none⟩,
 ⟨some 4, .mov (.tmp 8), none⟩] [0, 1, 5, 6, 7, 8])
 .ret))
abbrev v_q170 : List RV := [.tmp 4]
abbrev f_q170 : FuncId := 173
theorem k_q170 : closedOf Tryz.prog Tryz.f173 = (false, some true, some v_q170, some c_q170.plain, 9) := by kernel_rfl
theorem ac_q170 {args : List AV} {r : AV} (h : aw Tryz.prog c_q170 (env0 args) (endQ v_q170 r)) (hargs : args.length ≤ 9 := by decide) (hok : resOK r = true := by rfl) : AC Tryz.prog f_q170 args r :=
  AC_mk (by kernel_rfl) Tryz.func173 k_q170 hargs hok (by decide) h
def c_q171 : ACode :=
 (.seq
 (.region false [
 ⟨some 2, .box (.tmp 0), none⟩,
 ⟨some 3, .mov (.const (.bool false)), none⟩] [0, 3])
 (.seq
 (.region false [
 ⟨some 4, .faddr 2 1 (.tmp 2), none⟩,
 ⟨some 5, .load false 1 (.tmp 4), none⟩,
 ⟨some 6, .faddr 2 1 (.tmp 1), none⟩,
 ⟨some 7, .load false 1 (.tmp 6), none⟩,
 ⟨some 8, .bin .eql 32 (.tmp 5) (.tmp 7), none⟩,
 ⟨some 9, .mov (.tmp 8), none⟩,
 ⟨some 10, .faddr 0 1 (.tmp 2), (some (9, false))⟩,
 ⟨some 11, .load false 1 (.tmp 10), (some (9, false))⟩,
 ⟨some 12, .faddr 0 1 (.tmp 1), (some (9, false))⟩,
 ⟨some 13, .load false 1 (.tmp 12), (some (9, false))⟩,
 ⟨some 14, .bin .eql 3 (.tmp 11) (.tmp 13), (some (9, false))⟩,
 ⟨some 15, .mov (.tmp 14), (some (9, false))⟩,
 ⟨some 16, .faddr 1 1 (.tmp 2), (some (15, true))⟩,
 ⟨some 17, .load false 1 (.tmp 16), (some (15, true))⟩,
 ⟨some 18, .faddr 1 1 (.tmp 1), (some (15, true))⟩,
 ⟨some 19, .load false 1 (.tmp 18), (some (15, true))⟩,
 ⟨some 20, .bin .eql 3 (.tmp 17) (.tmp 19), (some (15, true))⟩,
 ⟨some 21, .pick (.tmp 15) (.tmp 20) (.const (.bool false)), (some (9, false))⟩,
 ⟨some 22, .pick (.tmp 9) (.const (.bool true)) (.tmp 21), none⟩,
 ⟨some 3, .mov (.tmp 22), none⟩] [1, 2, 4, 5, 6, 7, 8, 9, 10, 11, 12, 13, 14, 15, 16, 17, 18, 19, 20, 21, 22])
 .ret))
abbrev v_q171 : List RV := [.tmp 3]
abbrev f_q171 : FuncId := 174
theorem k_q171 : closedOf Tryz.prog Tryz.f174 = (false, some true, some v_q171, some c_q171.plain, 23) := by kernel_rfl
theorem ac_q171 {args : List AV} {r : AV} (h : aw Tryz.prog c_q171 (env0 args) (endQ v_q171 r)) (hargs : args.length ≤ 23 := by decide) (hok : resOK r = true := by rfl) : AC Tryz.prog f_q171 args r :=
  AC_mk (by kernel_rfl) Tryz.func174 k_q171 hargs hok (by decide) h
def c_q172 : ACode :=
 (.seq
 (.region false [
 ⟨some 2, .mov (.const (.bool false)), none⟩] [2])
 (.seq
 (.region false [
 ⟨some 3, .mov (.tmp 0), none⟩,
 ⟨some 4, .bin .neq 32 (.tmp 3) (.const (.int .u32 0)), none⟩,
 ⟨some 5, .mov (.tmp 4), none⟩,
 ⟨some 6, .mov (.tmp 0), (some (5, true))⟩,
 ⟨some 7, .callm 91 [.tmp 6], (some (5, true))⟩,
 ⟨some 8, .un .not (.tmp 7), (some (5, true))⟩,
 ⟨some 9, .pick (.tmp 5) (.tmp 8) (.const (.bool false)), none⟩,
 ⟨some 2, .mov (.tmp 9), none⟩] [0, 3, 4, 5, 6, 7, 8, 9])
 .ret))
abbrev v_q172 : List RV := [.tmp 2]
abbrev f_q172 : FuncId := 175
theorem k_q172 : closedOf Tryz.prog Tryz.f175 = (false, some true, some v_q172, some c_q172.plain, 10) := by kernel_rfl
theorem ac_q172 {args : List AV} {r : AV} (h : aw Tryz.prog c_q172 (env0 args) (endQ v_q172 r)) (hargs : args.length ≤ 10 := by decide) (hok : resOK r = true := by rfl) : AC Tryz.prog f_q172 args r :=
  AC_mk (by kernel_rfl) Tryz.func175 k_q172 hargs hok (by decide) h
def c_q173 : ACode :=
 (.seq
 (.region false [
 ⟨some 4, .mov (.const (.bool false)), none⟩] [4])
 (.seq
 (.region false [
 ⟨some 5, .mov (.tmp 0), none⟩,
 ⟨some 6, .mov (.tmp 1), none⟩,
 ⟨some 7, .callm 210 [.tmp 5, .tmp 6], none⟩,
 ⟨some 8, .bin .geq 3 (.tmp 7) (.const (.int .i64 0)), none⟩,
 ⟨some 4, .mov (.tmp 8), none⟩] [0, 1, 5, 6, 7, 8])
 .ret))
abbrev v_q173 : List RV := [.tmp 4]
abbrev f_q173 : FuncId := 176
theorem k_q173 : closedOf Tryz.prog Tryz.f176 = (false, some true, some v_q173, some c_q173.plain, 9) := by kernel_rfl
theorem ac_q173 {args : List AV} {r : AV} (h : aw Tryz.prog c_q173 (env0 args) (endQ v_q173 r)) (hargs : args.length ≤ 9 := by decide) (hok : resOK r = true := by rfl) : AC Tryz.prog f_q173 args r :=
  AC_mk (by kernel_rfl) Tryz.func176 k_q173 hargs hok (by decide) h
def c_q174 : ACode :=
 (.seq
 (.region false [
 ⟨some 2, .box (.tmp 0), none⟩,
 ⟨some 3, .mov (.const (.bool false)), none⟩] [0, 3])
 (.seq
 (.region false [
 ⟨some 4, .faddr 0 2 (.tmp 2), none⟩,
 ⟨some 5, .load true 2 (.tmp 4), none⟩,
 ⟨some 6, .faddr 0 2 (.tmp 1), none⟩,
 ⟨some 7, .load true 2 (.tmp 6), none⟩,
 ⟨some 8, .eqa false [.int, .int] (.tmp 5) (.tmp 7), none⟩,
 ⟨some 3, .mov (.tmp 8), none⟩] [1, 2, 4, 5, 6, 7, 8])
 .ret))
abbrev v_q174 : List RV := [.tmp 3]
abbrev f_q174 : FuncId := 177
theorem k_q174 : closedOf Tryz.prog Tryz.f177 = (false, some true, some v_q174, some c_q174.plain, 9) := by kernel_rfl
theorem ac_q174 {args : List AV} {r : AV} (h : aw Tryz.prog c_q174 (env0 args) (endQ v_q174 r)) (hargs : args.length ≤ 9 := by decide) (hok : resOK r = true := by rfl) : AC Tryz.prog f_q174 args r :=
  AC_mk (by kernel_rfl) Tryz.func177 k_q174 hargs hok (by decide) h
def c_q175 : ACode :=
 (.seq
 (.region false [
 ⟨some 4, .mov (.const (.bool false)), none⟩] [4])
 (.seq
 (.region false [
 ⟨some 5, .mov (.tmp 0), none⟩,
 ⟨some 6, .mov (.tmp 1), none⟩,
 ⟨some 7, .callm 211 [.tmp 5, .tmp 6], none⟩,
 ⟨some 8, .bin .geq 3 (.tmp 7) (.const (.int .i64 0)), none⟩,
 ⟨some 4, .mov (.tmp 8), none⟩] [0, 1, 5, 6, 7, 8])
 .ret))
abbrev v_q175 : List RV := [.tmp 4]
abbrev f_q175 : FuncId := 178
theorem k_q175 : closedOf Tryz.prog Tryz.f178 = (false, some true, some v_q175, some c_q175.plain, 9) := by kernel_rfl
theorem ac_q175 {args : List AV} {r : AV} (h : aw Tryz.prog c_q175 (env0 args) (endQ v_q175 r)) (hargs : args.length ≤ 9 := by decide) (hok : resOK r = true := by rfl) : AC Tryz.prog f_q175 args r :=
  AC_mk (by kernel_rfl) Tryz.func178 k_q175 hargs hok (by decide) h
def c_q176 : ACode :=
 (.seq
 (.region false [
 ⟨some 2, .box (.tmp 0), none⟩,
 ⟨some 3, .mov (.const (.bool false)), none⟩] [0, 3])
 (.seq
 (.region false [
 ⟨some 4, .faddr 1 2 (.tmp 2), none⟩,
 ⟨some 5, .load true 2 (.tmp 4), none⟩,
 ⟨some 6, .faddr 1 2 (.tmp 1), none⟩,
 ⟨some 7, .load true 2 (.tmp 6), none⟩,
 ⟨some 8, .eqa false [.int, .int] (.tmp 5) (.tmp 7), none⟩,
 ⟨some 9, .mov (.tmp 8), none⟩,
 ⟨some 10, .faddr 1 2 (.tmp 2), (some (9, false))⟩,
 ⟨some 11, .faddr 0 1 (.tmp 10), (some (9, false))⟩,
 ⟨some 12, .load false 1 (.tmp 11), (some (9, false))⟩,
 ⟨some 13, .faddr 1 2 (.tmp 1), (some (9, false))⟩,
 ⟨some 14, .faddr 0 1 (.tmp 13), (some (9, false))⟩,
 ⟨some 15, .load false 1 (.tmp 14), (some (9, false))⟩,
 ⟨some 16, .bin .eql 32 (.tmp 12) (.tmp 15), (some (9, false))⟩,
 ⟨some 17, .mov (.tmp 16), (some (9, false))⟩,
 ⟨some 18, .faddr 0 1 (.tmp 2), (some (17, true))⟩,
 ⟨some 19, .load false 1 (.tmp 18), (some (17, true))⟩,
 ⟨some 20, .faddr 0 1 (.tmp 1), (some (17, true))⟩,
 ⟨some 21, .load false 1 (.tmp 20), (some (17, true))⟩,
 ⟨some 22, .bin .neq 3 (.tmp 19) (.tmp 21), (some (17, true))⟩,
 ⟨some 23, .pick (.tmp 17) (.tmp 22) (.const (.bool false)), (some (9, false))⟩,
 ⟨some 24, .pick (.tmp 9) (.const (.bool true)) (.tmp 23), none⟩,
 ⟨some 3, .mov (.tmp 24), none⟩] [1, 2, 4, 5, 6, 7, 8, 9, 10, 11, 12, 13, 14, 15, 16, 17, 18, 19, 20, 21, 22, 23, 24])
 .ret))
abbrev v_q176 : List RV := [.tmp 3]
abbrev f_q176 : FuncId := 179
theorem k_q176 : closedOf Tryz.prog Tryz.f179 = (false, some true, some v_q176, some c_q176.plain, 25) := by kernel_rfl
theorem ac_q176 {args : List AV} {r : AV} (h : aw Tryz.prog c_q176 (env0 args) (endQ v_q176 r)) (hargs : args.length ≤ 25 := by decide) (hok : resOK r = true := by rfl) : AC Tryz.prog f_q176 args r :=
  AC_mk (by kernel_rfl) Tryz.func179 k_q176 hargs hok (by decide) h
def c_q177 : ACode :=
 (.seq
 (.region false [
 ⟨some 2, .box (.tmp 0), none⟩,
 ⟨some 3, .mov (.const (.bool false)), none⟩] [0, 3])
 (.seq
 (.region false [
 ⟨some 4, .faddr 2 1 (.tmp 2), none⟩,
 ⟨some 5, .load false 1 (.tmp 4), none⟩,
 ⟨some 6, .faddr 1 2 (.tmp 1), none⟩,
 ⟨some 7, .faddr 0 1 (.tmp 6), none⟩,
 ⟨some 8, .load false 1 (.tmp 7), none⟩,
 ⟨some 9, .bin .eql 32 (.tmp 5) (.tmp 8), none⟩,
 ⟨some 3, .mov (.tmp 9), none⟩] [1, 2, 4, 5, 6, 7, 8, 9])
 .ret))
abbrev v_q177 : List RV := [.tmp 3]
abbrev f_q177 : FuncId := 180
theorem k_q177 : closedOf Tryz.prog Tryz.f180 = (false, some true, some v_q177, some c_q177.plain, 10) := by kernel_rfl
theorem ac_q177 {args : List AV} {r : AV} (h : aw Tryz.prog c_q177 (env0 args) (endQ v_q177 r)) (hargs : args.length ≤ 10 := by decide) (hok : resOK r = true := by rfl) : AC Tryz.prog f_q177 args r :=
  AC_mk (by kernel_rfl) Tryz.func180 k_q177 hargs hok (by decide) h
def c_q178 : ACode :=
 (.seq
 (.region false [
 ⟨some 2, .mov (.const (.bool false)), none⟩] [2])
 (.seq
 (.region false [
 ⟨some 3, .mov (.tmp 0), none⟩,
 ⟨some 4, .callm 175 [.tmp 3], none⟩,
 ⟨some 5, .un .not (.tmp 4), none⟩,
 ⟨some 2, .mov (.tmp 5), none⟩] [0, 3, 4, 5])
 .ret))
abbrev v_q178 : List RV := [.tmp 2]
abbrev f_q178 : FuncId := 181
theorem k_q178 : closedOf Tryz.prog Tryz.f181 = (false, some true, some v_q178, some c_q178.plain, 6) := by kernel_rfl
theorem ac_q178 {args : List AV} {r : AV} (h : aw Tryz.prog c_q178 (env0 args) (endQ v_q178 r)) (hargs : args.length ≤ 6 := by decide) (hok : resOK r = true := by rfl) : AC Tryz.prog f_q178 args r :=
  AC_mk (by kernel_rfl) Tryz.func181 k_q178 hargs hok (by decide) h
def c_q179 : ACode :=
 (.seq
 (.region false [
 ⟨some 2, .mov (.const (.slice none 0 0)), none⟩] [2])
 (.seq
 (.region false [
 ⟨some 4, .mov (.tmp 0), none⟩,
 ⟨some 5, .callm 212 [.tmp 4], none⟩,
 ⟨some 3, .mov (.tmp 5), none⟩] [0, 4, 5])
 (.seq
 (.shift
 (.region false [
 ⟨some 6, .mov (.tmp 3), none⟩,
 ⟨some 7, .callm 85 [.tmp 6], none⟩] [6, 7]))
 (.seq
 (.region false [
 ⟨some 8, .mov (.tmp 3), none⟩,
 ⟨some 2, .mov (.tmp 8), none⟩] [3, 8])
 .ret))))
abbrev v_q179 : List RV := [.tmp 2]
abbrev f_q179 : FuncId := 182
theorem k_q179 : closedOf Tryz.prog Tryz.f182 = (false, some true, some v_q179, some c_q179.plain, 9) := by kernel_rfl
theorem ac_q179 {args : List AV} {r : AV} (h : aw Tryz.prog c_q179 (env0 args) (endQ v_q179 r)) (hargs : args.length ≤ 9 := by decide) (hok : resOK r = true := by rfl) : AC Tryz.prog f_q179 args r :=
  AC_mk (by kernel_rfl) Tryz.func182 k_q179 hargs hok (by decide) h
def c_q180 : ACode :=
 (.seq
 (.region false [
 ⟨some 1, .box (.tmp 0), none⟩,
 ⟨some 2, .mov (.const (.nilFunc)), none⟩] [0, 2])
 (.seq
 (.region false [
 ⟨some 3, .mkfn (.func 213) [] [.tmp 1], none⟩,
 ⟨some 2, .mov (.tmp 3), none⟩] [1, 3])
 .ret))
abbrev v_q180 : List RV := [.tmp 2]
abbrev f_q180 : FuncId := 183
theorem k_q180 : closedOf Tryz.prog Tryz.f183 = (false, some true, some v_q180, some c_q180.plain, 4) := by kernel_rfl
theorem ac_q180 {args : List AV} {r : AV} (h : aw Tryz.prog c_q180 (env0 args) (endQ v_q180 r)) (hargs : args.length ≤ 4 := by decide) (hok : resOK r = true := by rfl) : AC Tryz.prog f_q180 args r :=
  AC_mk (by kernel_rfl) Tryz.func183 k_q180 hargs hok (by decide) h
def c_q181 : ACode :=
 (.seq
 (.region false [
 ⟨some 8, .mov (.tmp 1), none⟩,
 ⟨some 9, .bin .add 3 (.tmp 8) (.const (.int .i64 1)), none⟩,
 ⟨some 6, .mov (.tmp 9), none⟩] [8, 9])
 (.block 0
 (.loop
 (.seq
 (.seq
 (.region false [
 ⟨some 10, .mov (.tmp 6), none⟩,
 ⟨some 11, .mov (.tmp 2), none⟩,
 ⟨some 12, .bin .lss 3 (.tmp 10) (.tmp 11), none⟩] [10, 11])
 (.cond (.tmp 12)
 .skip
 (.exit 0)))
 (.seq
 (.block 1
 (.seq
 (.region false [
 ⟨some 15, .mov (.tmp 6), none⟩,
 ⟨some 7, .mov (.tmp 15), none⟩] [12, 15])
 (.block 2
 (.loop
 (.seq
 (.seq
 (.region true [
 ⟨some 16, .mov (.tmp 7), none⟩,
 ⟨some 17, .mov (.tmp 1), none⟩,
 ⟨some 18, .bin .gtr 3 (.tmp 16) (.tmp 17), none⟩,
 ⟨some 19, .mov (.tmp 18), none⟩,
 ⟨some 20, .mov (.tmp 0), (some (19, true))⟩,
 ⟨some 21, .mov (.tmp 7), (some (19, true))⟩,
 ⟨some 22, .iaddr 1 (.tmp 20) (.tmp 21), (some (19, true))⟩,
 ⟨some 23, .load false 1 (.tmp 22), (some (19, true))⟩,
 ⟨some 24, .mov (.tmp 0), (some (19, true))⟩,
 ⟨some 25, .mov (.tmp 7), (some (19, true))⟩,
 ⟨some 26, .bin .sub 3 (.tmp 25) (.const (.int .i64 1)), (some (19, true))⟩,
 ⟨some 27, .iaddr 1 (.tmp 24) (.tmp 26), (some (19, true))⟩,
 ⟨some 28, .load false 1 (.tmp 27), (some (19, true))⟩,
 ⟨some 29, .call 190 [.tmp 23, .tmp 28], (some (19, true))⟩,
 ⟨some 30, .pick (.tmp 19) (.tmp 29) (.const (.bool false)), none⟩] [16, 17, 18, 19, 20, 21, 22, 23, 24, 25, 26, 27, 28, 29])
 (.cond (.tmp 30)
 .skip
 (.exit 2)))
 (.seq
 (.block 3
 (.region true [
 ⟨some 33, .mov (.tmp 0), none⟩,
 ⟨some 34, .mov (.tmp 7), none⟩,
 ⟨some 35, .mov (.tmp 0), none⟩,
 ⟨some 36, .mov (.tmp 7), none⟩,
 ⟨some 37, .bin .sub 3 (.tmp 36) (.const (.int .i64 1)), none⟩,
 ⟨some 38, .mov (.tmp 0), none⟩,
 ⟨some 39, .mov (.tmp 7), none⟩,
 ⟨some 40, .bin .sub 3 (.tmp 39) (.const (.int .i64 1)), none⟩,
 ⟨some 41, .iaddr 1 (.tmp 38) (.tmp 40), none⟩,
 ⟨some 42, .load false 1 (.tmp 41), none⟩,
 ⟨some 43, .mov (.tmp 0), none⟩,
 ⟨some 44, .mov (.tmp 7), none⟩,
 ⟨some 45, .iaddr 1 (.tmp 43) (.tmp 44), none⟩,
 ⟨some 46, .load false 1 (.tmp 45), none⟩,
 ⟨some 47, .iaddr 1 (.tmp 33) (.tmp 34), none⟩,
 ⟨none, .store 1 (.tmp 47) (.tmp 42), none⟩,
 ⟨some 48, .iaddr 1 (.tmp 35) (.tmp 37), none⟩,
 ⟨none, .store 1 (.tmp 48) (.tmp 46), none⟩] [30, 33, 34, 35, 36, 37, 38, 39, 40, 41, 42, 43, 44, 45, 46, 47, 48]) [])
 (.region false [
 ⟨some 31, .mov (.tmp 7), none⟩,
 ⟨some 32, .bin .sub 3 (.tmp 31) (.const (.int .i64 1)), none⟩,
 ⟨some 7, .mov (.tmp 32), none⟩] [31, 32]))) [] []) [7, 30])) [])
 (.region false [
 ⟨some 13, .mov (.tmp 6), none⟩,
 ⟨some 14, .bin .add 3 (.tmp 13) (.const (.int .i64 1)), none⟩,
 ⟨some 6, .mov (.tmp 14), none⟩] [13, 14]))) [] []) [0, 1, 2, 6, 12]))
abbrev v_q181 : List RV := []
abbrev f_q181 : FuncId := 184
theorem k_q181 : closedOf Tryz.prog Tryz.f184 = (false, some true, some v_q181, some c_q181.plain, 49) := by kernel_rfl
theorem ac_q181 {args : List AV} {r : AV} (h : aw Tryz.prog c_q181 (env0 args) (endQ v_q181 r)) (hargs : args.length ≤ 49 := by decide) (hok : resOK r = true := by rfl) : AC Tryz.prog f_q181 args r :=
  AC_mk (by kernel_rfl) Tryz.func184 k_q181 hargs hok (by decide) h
theorem am_q181 {args : List AV} {c0 c1 : List (Nat × List AV)} {r : AV} (h : aw Tryz.prog c_q181 (env0M args c0) (endM v_q181 r (c0.map (·.1)) c1)) (hc0 : ∀ q ∈ c0, 100000 ≤ q.1) (hargs : args.length ≤ 49 := by decide) (hok : resOK r = true := by rfl) : AM Tryz.prog f_q181 args c0 r c1 :=
  AM_mk (by kernel_rfl) Tryz.func184 k_q181 hargs hok (by decide) hc0 h
def c_q182 : ACode :=
 (.seq
 (.region false [
 ⟨some 11, .mov (.tmp 1), none⟩,
 ⟨some 6, .mov (.tmp 11), none⟩] [11])
 (.seq
 (.region false [
 ⟨some 7, .mov (.const (.int .i64 0)), none⟩] [])
 (.seq
 (.region false [
 ⟨some 12, .mov (.tmp 2), none⟩,
 ⟨some 13, .mov (.tmp 1), none⟩,
 ⟨some 14, .bin .sub 3 (.tmp 12) (.tmp 13), none⟩,
 ⟨some 8, .mov (.tmp 14), none⟩] [1, 2, 12, 13, 14])
 (.seq
 (.seq
 (.region false [
 ⟨some 15, .mov (.tmp 8), none⟩,
 ⟨some 16, .bin .sub 3 (.tmp 15) (.const (.int .i64 1)), none⟩,
 ⟨some 17, .bin .quo 3 (.tmp 16) (.const (.int .i64 2)), none⟩,
 ⟨some 9, .mov (.tmp 17), none⟩] [15, 16, 17])
 (.block 0
 (.loop
 (.seq
 (.seq
 (.region false [
 ⟨some 18, .mov (.tmp 9), none⟩,
 ⟨some 19, .bin .geq 3 (.tmp 18) (.const (.int .i64 0)), none⟩] [18])
 (.cond (.tmp 19)
 .skip
 (.exit 0)))
 (.seq
 (.block 1
 (.region false [
 ⟨some 22, .mov (.tmp 0), none⟩,
 ⟨some 23, .mov (.tmp 9), none⟩,
 ⟨some 24, .mov (.tmp 8), none⟩,
 ⟨some 25, .mov (.tmp 6), none⟩,
 ⟨some 26, .callm 214 [.tmp 22, .tmp 23, .tmp 24, .tmp 25], none⟩] [19, 22, 23, 24, 25, 26]) [])
 (.region false [
 ⟨some 20, .mov (.tmp 9), none⟩,
 ⟨some 21, .bin .sub 3 (.tmp 20) (.const (.int .i64 1)), none⟩,
 ⟨some 9, .mov (.tmp 21), none⟩] [20, 21]))) [] []) [9, 19]))
 (.seq
 (.region false [
 ⟨some 27, .mov (.tmp 8), none⟩,
 ⟨some 28, .bin .sub 3 (.tmp 27) (.const (.int .i64 1)), none⟩,
 ⟨some 10, .mov (.tmp 28), none⟩] [8, 27, 28])
 (.block 2
 (.loop
 (.seq
 (.seq
 (.region false [
 ⟨some 29, .mov (.tmp 10), none⟩,
 ⟨some 30, .bin .geq 3 (.tmp 29) (.const (.int .i64 0)), none⟩] [29])
 (.cond (.tmp 30)
 .skip
 (.exit 2)))
 (.seq
 (.block 3
 (.seq
 (.region true [
 ⟨some 33, .mov (.tmp 0), none⟩,
 ⟨some 34, .mov (.tmp 6), none⟩,
 ⟨some 35, .mov (.tmp 0), none⟩,
 ⟨some 36, .mov (.tmp 6), none⟩,
 ⟨some 37, .mov (.tmp 10), none⟩,
 ⟨some 38, .bin .add 3 (.tmp 36) (.tmp 37), none⟩,
 ⟨some 39, .mov (.tmp 0), none⟩,
 ⟨some 40, .mov (.tmp 6), none⟩,
 ⟨some 41, .mov (.tmp 10), none⟩,
 ⟨some 42, .bin .add 3 (.tmp 40) (.tmp 41), none⟩,
 ⟨some 43, .iaddr 1 (.tmp 39) (.tmp 42), none⟩,
 ⟨some 44, .load false 1 (.tmp 43), none⟩,
 ⟨some 45, .mov (.tmp 0), none⟩,
 ⟨some 46, .mov (.tmp 6), none⟩,
 ⟨some 47, .iaddr 1 (.tmp 45) (.tmp 46), none⟩,
 ⟨some 48, .load false 1 (.tmp 47), none⟩,
 ⟨some 49, .iaddr 1 (.tmp 33) (.tmp 34), none⟩,
 ⟨none, .store 1 (.tmp 49) (.tmp 44), none⟩,
 ⟨some 50, .iaddr 1 (.tmp 35) (.tmp 38), none⟩,
 ⟨none, .store 1 (.tmp 50) (.tmp 48), none⟩] [30, 33, 34, 35, 36, 37, 38, 39, 40, 41, 42, 43, 44, 45, 46, 47, 48, 49, 50])
 (.region false [
 ⟨some 51, .mov (.tmp 0), none⟩,
 ⟨some 52, .mov (.tmp 7), none⟩,
 ⟨some 53, .mov (.tmp 10), none⟩,
 ⟨some 54, .mov (.tmp 6), none⟩,
 ⟨some 55, .callm 214 [.tmp 51, .tmp 52, .tmp 53, .tmp 54], none⟩] [51, 52, 53, 54, 55])) [])
 (.region false [
 ⟨some 31, .mov (.tmp 10), none⟩,
 ⟨some 32, .bin .sub 3 (.tmp 31) (.const (.int .i64 1)), none⟩,
 ⟨some 10, .mov (.tmp 32), none⟩] [31, 32]))) [] []) [0, 6, 7, 10, 30]))))))
abbrev v_q182 : List RV := []
abbrev f_q182 : FuncId := 185
theorem k_q182 : closedOf Tryz.prog Tryz.f185 = (false, some true, some v_q182, some c_q182.plain, 56) := by kernel_rfl
theorem am_q182 {args : List AV} {c0 c1 : List (Nat × List AV)} {r : AV} (h : aw Tryz.prog c_q182 (env0M args c0) (endM v_q182 r (c0.map (·.1)) c1)) (hc0 : ∀ q ∈ c0, 100000 ≤ q.1) (hargs : args.length ≤ 56 := by decide) (hok : resOK r = true := by rfl) : AM Tryz.prog f_q182 args c0 r c1 :=
  AM_mk (by kernel_rfl) Tryz.func185 k_q182 hargs hok (by decide) hc0 h
def c_q183 : ACode :=
 (.seq
 (.region false [
 ⟨some 11, .mov (.tmp 2), none⟩,
 ⟨some 12, .mov (.tmp 1), none⟩,
 ⟨some 13, .bin .sub 3 (.tmp 11) (.tmp 12), none⟩,
 ⟨some 6, .mov (.tmp 13), none⟩] [2, 11, 12, 13])
 (.seq
 (.region false [
 ⟨some 14, .mov (.tmp 6), none⟩,
 ⟨some 15, .bin .geq 3 (.tmp 14) (.const (.int .i64 8)), none⟩] [14])
 (.cond (.tmp 15)
 (.seq
 (.region false [
 ⟨some 16, .mov (.tmp 6), none⟩,
 ⟨some 17, .cint .u64 (.tmp 16), none⟩,
 ⟨some 7, .alloc [.lit (.int .u64 0)], none⟩,
 ⟨none, .store 1 (.tmp 7) (.tmp 17), none⟩] [15, 16, 17])
 (.seq
 (.region false [
 ⟨some 18, .mov (.tmp 6), none⟩,
 ⟨some 19, .callm 215 [.tmp 18], none⟩,
 ⟨some 8, .mov (.tmp 19), none⟩] [18, 19])
 (.seq
 (.region false [
 ⟨some 20, .mov (.tmp 1), none⟩,
 ⟨some 21, .mov (.tmp 6), none⟩,
 ⟨some 22, .bin .quo 3 (.tmp 21) (.const (.int .i64 4)), none⟩,
 ⟨some 23, .bin .mul 3 (.tmp 22) (.const (.int .i64 2)), none⟩,
 ⟨some 24, .bin .add 3 (.tmp 20) (.tmp 23), none⟩,
 ⟨some 25, .bin .sub 3 (.tmp 24) (.const (.int .i64 1)), none⟩,
 ⟨some 9, .mov (.tmp 25), none⟩] [20, 21, 22, 23, 24, 25])
 (.block 0
 (.loop
 (.seq
 (.seq
 (.region false [
 ⟨some 26, .mov (.tmp 9), none⟩,
 ⟨some 27, .mov (.tmp 1), none⟩,
 ⟨some 28, .mov (.tmp 6), none⟩,
 ⟨some 29, .bin .quo 3 (.tmp 28) (.const (.int .i64 4)), none⟩,
 ⟨some 30, .bin .mul 3 (.tmp 29) (.const (.int .i64 2)), none⟩,
 ⟨some 31, .bin .add 3 (.tmp 27) (.tmp 30), none⟩,
 ⟨some 32, .bin .add 3 (.tmp 31) (.const (.int .i64 1)), none⟩,
 ⟨some 33, .bin .leq 3 (.tmp 26) (.tmp 32), none⟩] [26, 27, 28, 29, 30, 31, 32])
 (.cond (.tmp 33)
 .skip
 (.exit 0)))
 (.seq
 (.block 1
 (.seq
 (.region false [
 ⟨some 36, .callm 216 [.tmp 7], none⟩,
 ⟨some 37, .mov (.tmp 8), none⟩,
 ⟨some 38, .bin .sub 72 (.tmp 37) (.const (.int .u64 1)), none⟩,
 ⟨some 39, .bin .and 72 (.tmp 36) (.tmp 38), none⟩,
 ⟨some 40, .cint .i64 (.tmp 39), none⟩,
 ⟨some 10, .mov (.tmp 40), none⟩] [33, 36, 37, 38, 39, 40])
 (.seq
 (.seq
 (.region false [
 ⟨some 41, .mov (.tmp 10), none⟩,
 ⟨some 42, .mov (.tmp 6), none⟩,
 ⟨some 43, .bin .geq 3 (.tmp 41) (.tmp 42), none⟩] [41, 42])
 (.cond (.tmp 43)
 (.region false [
 ⟨some 44, .mov (.tmp 10), none⟩,
 ⟨some 45, .mov (.tmp 6), none⟩,
 ⟨some 46, .bin .sub 3 (.tmp 44) (.tmp 45), none⟩,
 ⟨some 10, .mov (.tmp 46), none⟩] [43, 44, 45, 46])
 .skip))
 (.region true [
 ⟨some 47, .mov (.tmp 0), none⟩,
 ⟨some 48, .mov (.tmp 9), none⟩,
 ⟨some 49, .mov (.tmp 0), none⟩,
 ⟨some 50, .mov (.tmp 1), none⟩,
 ⟨some 51, .mov (.tmp 10), none⟩,
 ⟨some 52, .bin .add 3 (.tmp 50) (.tmp 51), none⟩,
 ⟨some 53, .mov (.tmp 0), none⟩,
 ⟨some 54, .mov (.tmp 1), none⟩,
 ⟨some 55, .mov (.tmp 10), none⟩,
 ⟨some 56, .bin .add 3 (.tmp 54) (.tmp 55), none⟩,
 ⟨some 57, .iaddr 1 (.tmp 53) (.tmp 56), none⟩,
 ⟨some 58, .load false 1 (.tmp 57), none⟩,
 ⟨some 59, .mov (.tmp 0), none⟩,
 ⟨some 60, .mov (.tmp 9), none⟩,
 ⟨some 61, .iaddr 1 (.tmp 59) (.tmp 60), none⟩,
 ⟨some 62, .load false 1 (.tmp 61), none⟩,
 ⟨some 63, .iaddr 1 (.tmp 47) (.tmp 48), none⟩,
 ⟨none, .store 1 (.tmp 63) (.tmp 58), none⟩,
 ⟨some 64, .iaddr 1 (.tmp 49) (.tmp 52), none⟩,
 ⟨none, .store 1 (.tmp 64) (.tmp 62), none⟩] [10, 43, 47, 48, 49, 50, 51, 52, 53, 54, 55, 56, 57, 58, 59, 60, 61, 62, 63, 64]))) [])
 (.region false [
 ⟨some 34, .mov (.tmp 9), none⟩,
 ⟨some 35, .bin .add 3 (.tmp 34) (.const (.int .i64 1)), none⟩,
 ⟨some 9, .mov (.tmp 35), none⟩] [34, 35]))) [] []) [0, 1, 6, 7, 8, 9, 33]))))
 .skip)))
abbrev v_q183 : List RV := []
abbrev f_q183 : FuncId := 186
theorem k_q183 : closedOf Tryz.prog Tryz.f186 = (false, some true, some v_q183, some c_q183.plain, 65) := by kernel_rfl
theorem am_q183 {args : List AV} {c0 c1 : List (Nat × List AV)} {r : AV} (h : aw Tryz.prog c_q183 (env0M args c0) (endM v_q183 r (c0.map (·.1)) c1)) (hc0 : ∀ q ∈ c0, 100000 ≤ q.1) (hargs : args.length ≤ 65 := by decide) (hok : resOK r = true := by rfl) : AM Tryz.prog f_q183 args c0 r c1 :=
  AM_mk (by kernel_rfl) Tryz.func186 k_q183 hargs hok (by decide) hc0 h
def c_q184 : ACode :=
 (.seq
 (.region false [
 ⟨some 6, .mov (.const (.int .i64 0)), none⟩,
 ⟨some 7, .mov (.const (.int .i64 0)), none⟩] [6, 7])
 (.seq
 (.region false [
 ⟨some 13, .mov (.tmp 2), none⟩,
 ⟨some 14, .mov (.tmp 1), none⟩,
 ⟨some 15, .bin .sub 3 (.tmp 13) (.tmp 14), none⟩,
 ⟨some 8, .mov (.tmp 15), none⟩] [2, 13, 14, 15])
 (.seq
 (.region false [
 ⟨some 9, .alloc [.lit (.int .i64 0)], none⟩] [])
 (.seq
 (.region false [
 ⟨some 16, .mov (.tmp 1), none⟩,
 ⟨some 17, .mov (.tmp 8), none⟩,
 ⟨some 18, .bin .quo 3 (.tmp 17) (.const (.int .i64 4)), none⟩,
 ⟨some 19, .bin .mul 3 (.tmp 18) (.const (.int .i64 1)), none⟩,
 ⟨some 20, .bin .add 3 (.tmp 16) (.tmp 19), none⟩,
 ⟨some 10, .mov (.tmp 20), none⟩] [16, 17, 18, 19, 20])
 (.seq
 (.region false [
 ⟨some 21, .mov (.tmp 1), none⟩,
 ⟨some 22, .mov (.tmp 8), none⟩,
 ⟨some 23, .bin .quo 3 (.tmp 22) (.const (.int .i64 4)), none⟩,
 ⟨some 24, .bin .mul 3 (.tmp 23) (.const (.int .i64 2)), none⟩,
 ⟨some 25, .bin .add 3 (.tmp 21) (.tmp 24), none⟩,
 ⟨some 11, .mov (.tmp 25), none⟩] [21, 22, 23, 24, 25])
 (.seq
 (.region false [
 ⟨some 26, .mov (.tmp 1), none⟩,
 ⟨some 27, .mov (.tmp 8), none⟩,
 ⟨some 28, .bin .quo 3 (.tmp 27) (.const (.int .i64 4)), none⟩,
 ⟨some 29, .bin .mul 3 (.tmp 28) (.const (.int .i64 3)), none⟩,
 ⟨some 30, .bin .add 3 (.tmp 26) (.tmp 29), none⟩,
 ⟨some 12, .mov (.tmp 30), none⟩] [1, 26, 27, 28, 29, 30])
 (.seq
 (.seq
 (.region false [
 ⟨some 31, .mov (.tmp 8), none⟩,
 ⟨some 32, .bin .geq 3 (.tmp 31) (.const (.int .i64 8)), none⟩] [31])
 (.cond (.tmp 32)
 (.seq
 (.seq
 (.region false [
 ⟨some 33, .mov (.tmp 8), none⟩,
 ⟨some 34, .bin .geq 3 (.tmp 33) (.const (.int .i64 50)), none⟩] [8, 32, 33])
 (.cond (.tmp 34)
 (.seq
 (.region false [
 ⟨some 35, .mov (.tmp 0), none⟩,
 ⟨some 36, .mov (.tmp 10), none⟩,
 ⟨some 37, .callm 217 [.tmp 35, .tmp 36, .tmp 9], none⟩,
 ⟨some 10, .mov (.tmp 37), none⟩] [34, 35, 36, 37])
 (.seq
 (.region false [
 ⟨some 38, .mov (.tmp 0), none⟩,
 ⟨some 39, .mov (.tmp 11), none⟩,
 ⟨some 40, .callm 217 [.tmp 38, .tmp 39, .tmp 9], none⟩,
 ⟨some 11, .mov (.tmp 40), none⟩] [38, 39, 40])
 (.region false [
 ⟨some 41, .mov (.tmp 0), none⟩,
 ⟨some 42, .mov (.tmp 12), none⟩,
 ⟨some 43, .callm 217 [.tmp 41, .tmp 42, .tmp 9], none⟩,
 ⟨some 12, .mov (.tmp 43), none⟩] [41, 42, 43])))
 .skip))
 (.region false [
 ⟨some 44, .mov (.tmp 0), none⟩,
 ⟨some 45, .mov (.tmp 10), none⟩,
 ⟨some 46, .mov (.tmp 11), none⟩,
 ⟨some 47, .mov (.tmp 12), none⟩,
 ⟨some 48, .callm 218 [.tmp 44, .tmp 45, .tmp 46, .tmp 47, .tmp 9], none⟩,
 ⟨some 11, .mov (.tmp 48), none⟩] [0, 10, 12, 34, 44, 45, 46, 47, 48]))
 .skip))
 (.seq
 (.region false [
 ⟨some 49, .load false 1 (.tmp 9), none⟩] [0, 8, 9, 10, 12, 32])
 (.block 0
 (.seq
 (.region false [
 ⟨some 52, .bin .eql 3 (.tmp 49) (.const (.int .i64 0)), none⟩,
 ⟨some 51, .mov (.tmp 52), none⟩] [52])
 (.cond (.tmp 51)
 (.seq
 (.region false [
 ⟨some 53, .mov (.tmp 11), none⟩,
 ⟨some 6, .mov (.tmp 53), none⟩,
 ⟨some 7, .mov (.const (.int .i64 1)), none⟩] [11, 49, 51, 53])
 .ret)
 (.seq
 (.region false [
 ⟨some 55, .bin .eql 3 (.tmp 49) (.const (.int .i64 12)), none⟩,
 ⟨some 54, .mov (.tmp 55), none⟩] [49, 51, 55])
 (.cond (.tmp 54)
 (.seq
 (.region false [
 ⟨some 56, .mov (.tmp 11), none⟩,
 ⟨some 6, .mov (.tmp 56), none⟩,
 ⟨some 7, .mov (.const (.int .i64 2)), none⟩] [11, 54, 56])
 .ret)
 (.seq
 (.region false [
 ⟨some 50, .mov (.tmp 11), none⟩,
 ⟨some 6, .mov (.tmp 50), none⟩,
 ⟨some 7, .mov (.const (.int .i64 0)), none⟩] [11, 50, 54])
 .ret))))) [])))))))))
abbrev v_q184 : List RV := [.tmp 6, .tmp 7]
abbrev f_q184 : FuncId := 187
theorem k_q184 : closedOf Tryz.prog Tryz.f187 = (false, some true, some v_q184, some c_q184.plain, 57) := by kernel_rfl
theorem am_q184 {args : List AV} {c0 c1 : List (Nat × List AV)} {r : AV} (h : aw Tryz.prog c_q184 (env0M args c0) (endM v_q184 r (c0.map (·.1)) c1)) (hc0 : ∀ q ∈ c0, 100000 ≤ q.1) (hargs : args.length ≤ 57 := by decide) (hok : resOK r = true := by rfl) : AM Tryz.prog f_q184 args c0 r c1 :=
  AM_mk (by kernel_rfl) Tryz.func187 k_q184 hargs hok (by decide) hc0 h
def c_q185 : ACode :=
 (.seq
 (.region false [
 ⟨some 8, .mov (.tmp 1), none⟩,
 ⟨some 6, .mov (.tmp 8), none⟩] [1, 8])
 (.seq
 (.region false [
 ⟨some 9, .mov (.tmp 2), none⟩,
 ⟨some 10, .bin .sub 3 (.tmp 9) (.const (.int .i64 1)), none⟩,
 ⟨some 7, .mov (.tmp 10), none⟩] [2, 9, 10])
 (.block 0
 (.loop
 (.seq
 (.seq
 (.region false [
 ⟨some 11, .mov (.tmp 6), none⟩,
 ⟨some 12, .mov (.tmp 7), none⟩,
 ⟨some 13, .bin .lss 3 (.tmp 11) (.tmp 12), none⟩] [11, 12])
 (.cond (.tmp 13)
 .skip
 (.exit 0)))
 (.block 1
 (.seq
 (.region true [
 ⟨some 14, .mov (.tmp 0), none⟩,
 ⟨some 15, .mov (.tmp 6), none⟩,
 ⟨some 16, .mov (.tmp 0), none⟩,
 ⟨some 17, .mov (.tmp 7), none⟩,
 ⟨some 18, .mov (.tmp 0), none⟩,
 ⟨some 19, .mov (.tmp 7), none⟩,
 ⟨some 20, .iaddr 1 (.tmp 18) (.tmp 19), none⟩,
 ⟨some 21, .load false 1 (.tmp 20), none⟩,
 ⟨some 22, .mov (.tmp 0), none⟩,
 ⟨some 23, .mov (.tmp 6), none⟩,
 ⟨some 24, .iaddr 1 (.tmp 22) (.tmp 23), none⟩,
 ⟨some 25, .load false 1 (.tmp 24), none⟩,
 ⟨some 26, .iaddr 1 (.tmp 14) (.tmp 15), none⟩,
 ⟨none, .store 1 (.tmp 26) (.tmp 21), none⟩,
 ⟨some 27, .iaddr 1 (.tmp 16) (.tmp 17), none⟩,
 ⟨none, .store 1 (.tmp 27) (.tmp 25), none⟩] [13, 14, 15, 16, 17, 18, 19, 20, 21, 22, 23, 24, 25, 26, 27])
 (.seq
 (.region false [
 ⟨some 28, .mov (.tmp 6), none⟩,
 ⟨some 29, .bin .add 3 (.tmp 28) (.const (.int .i64 1)), none⟩,
 ⟨some 6, .mov (.tmp 29), none⟩] [28, 29])
 (.region false [
 ⟨some 30, .mov (.tmp 7), none⟩,
 ⟨some 31, .bin .sub 3 (.tmp 30) (.const (.int .i64 1)), none⟩,
 ⟨some 7, .mov (.tmp 31), none⟩] [30, 31]))) [])) [] []) [0, 6, 7, 13])))
abbrev v_q185 : List RV := []
abbrev f_q185 : FuncId := 188
theorem k_q185 : closedOf Tryz.prog Tryz.f188 = (false, some true, some v_q185, some c_q185.plain, 32) := by kernel_rfl
theorem am_q185 {args : List AV} {c0 c1 : List (Nat × List AV)} {r : AV} (h : aw Tryz.prog c_q185 (env0M args c0) (endM v_q185 r (c0.map (·.1)) c1)) (hc0 : ∀ q ∈ c0, 100000 ≤ q.1) (hargs : args.length ≤ 32 := by decide) (hok : resOK r = true := by rfl) : AM Tryz.prog f_q185 args c0 r c1 :=
  AM_mk (by kernel_rfl) Tryz.func188 k_q185 hargs hok (by decide) hc0 h
def c_q186 : ACode :=
 (.seq
 (.region false [
 ⟨some 6, .mov (.const (.bool false)), none⟩] [6])
 (.seq
 (.region false [
 ⟨some 11, .mov (.tmp 1), none⟩,
 ⟨some 12, .bin .add 3 (.tmp 11) (.const (.int .i64 1)), none⟩,
 ⟨some 7, .mov (.tmp 12), none⟩] [11, 12])
 (.seq
 (.seq
 (.region false [
 ⟨some 8, .mov (.const (.int .i64 0)), none⟩] [])
 (.block 0
 (.loop
 (.seq
 (.seq
 (.region false [
 ⟨some 13, .mov (.tmp 8), none⟩,
 ⟨some 14, .bin .lss 3 (.tmp 13) (.const (.int .i64 5)), none⟩] [13])
 (.cond (.tmp 14)
 .skip
 (.exit 0)))
 (.seq
 (.block 1
 (.seq
 (.block 2
 (.loop
 (.seq
 (.seq
 (.region true [
 ⟨some 17, .mov (.tmp 7), none⟩,
 ⟨some 18, .mov (.tmp 2), none⟩,
 ⟨some 19, .bin .lss 3 (.tmp 17) (.tmp 18), none⟩,
 ⟨some 20, .mov (.tmp 19), none⟩,
 ⟨some 21, .mov (.tmp 0), (some (20, true))⟩,
 ⟨some 22, .mov (.tmp 7), (some (20, true))⟩,
 ⟨some 23, .iaddr 1 (.tmp 21) (.tmp 22), (some (20, true))⟩,
 ⟨some 24, .load false 1 (.tmp 23), (some (20, true))⟩,
 ⟨some 25, .mov (.tmp 0), (some (20, true))⟩,
 ⟨some 26, .mov (.tmp 7), (some (20, true))⟩,
 ⟨some 27, .bin .sub 3 (.tmp 26) (.const (.int .i64 1)), (some (20, true))⟩,
 ⟨some 28, .iaddr 1 (.tmp 25) (.tmp 27), (some (20, true))⟩,
 ⟨some 29, .load false 1 (.tmp 28), (some (20, true))⟩,
 ⟨some 30, .call 190 [.tmp 24, .tmp 29], (some (20, true))⟩,
 ⟨some 31, .un .not (.tmp 30), (some (20, true))⟩,
 ⟨some 32, .pick (.tmp 20) (.tmp 31) (.const (.bool false)), none⟩] [17, 18, 19, 20, 21, 22, 23, 24, 25, 26, 27, 28, 29, 30, 31])
 (.cond (.tmp 32)
 .skip
 (.exit 2)))
 (.block 3
 (.region false [
 ⟨some 33, .mov (.tmp 7), none⟩,
 ⟨some 34, .bin .add 3 (.tmp 33) (.const (.int .i64 1)), none⟩,
 ⟨some 7, .mov (.tmp 34), none⟩] [32, 33, 34]) [])) [14] []) [32])
 (.seq
 (.seq
 (.region false [
 ⟨some 35, .mov (.tmp 7), none⟩,
 ⟨some 36, .mov (.tmp 2), none⟩,
 ⟨some 37, .bin .eql 3 (.tmp 35) (.tmp 36), none⟩] [35, 36])
 (.cond (.tmp 37)
 (.seq
 (.region false [
 ⟨some 6, .mov (.const (.bool true)), none⟩] [0, 1, 2, 7, 8, 37])
 .ret)
 .skip))
 (.seq
 (.seq
 (.region false [
 ⟨some 38, .mov (.tmp 2), none⟩,
 ⟨some 39, .mov (.tmp 1), none⟩,
 ⟨some 40, .bin .sub 3 (.tmp 38) (.tmp 39), none⟩,
 ⟨some 41, .bin .lss 3 (.tmp 40) (.const (.int .i64 50)), none⟩] [37, 38, 39, 40])
 (.cond (.tmp 41)
 (.seq
 (.region false [
 ⟨some 6, .mov (.const (.bool false)), none⟩] [0, 1, 2, 7, 8, 41])
 .ret)
 .skip))
 (.seq
 (.region true [
 ⟨some 42, .mov (.tmp 0), none⟩,
 ⟨some 43, .mov (.tmp 7), none⟩,
 ⟨some 44, .mov (.tmp 0), none⟩,
 ⟨some 45, .mov (.tmp 7), none⟩,
 ⟨some 46, .bin .sub 3 (.tmp 45) (.const (.int .i64 1)), none⟩,
 ⟨some 47, .mov (.tmp 0), none⟩,
 ⟨some 48, .mov (.tmp 7), none⟩,
 ⟨some 49, .bin .sub 3 (.tmp 48) (.const (.int .i64 1)), none⟩,
 ⟨some 50, .iaddr 1 (.tmp 47) (.tmp 49), none⟩,
 ⟨some 51, .load false 1 (.tmp 50), none⟩,
 ⟨some 52, .mov (.tmp 0), none⟩,
 ⟨some 53, .mov (.tmp 7), none⟩,
 ⟨some 54, .iaddr 1 (.tmp 52) (.tmp 53), none⟩,
 ⟨some 55, .load false 1 (.tmp 54), none⟩,
 ⟨some 56, .iaddr 1 (.tmp 42) (.tmp 43), none⟩,
 ⟨none, .store 1 (.tmp 56) (.tmp 51), none⟩,
 ⟨some 57, .iaddr 1 (.tmp 44) (.tmp 46), none⟩,
 ⟨none, .store 1 (.tmp 57) (.tmp 55), none⟩] [41, 42, 43, 44, 45, 46, 47, 48, 49, 50, 51, 52, 53, 54, 55, 56, 57])
 (.seq
 (.seq
 (.region false [
 ⟨some 58, .mov (.tmp 7), none⟩,
 ⟨some 59, .mov (.tmp 1), none⟩,
 ⟨some 60, .bin .sub 3 (.tmp 58) (.tmp 59), none⟩,
 ⟨some 61, .bin .geq 3 (.tmp 60) (.const (.int .i64 2)), none⟩] [58, 59, 60])
 (.cond (.tmp 61)
 (.seq
 (.region false [
 ⟨some 62, .mov (.tmp 7), none⟩,
 ⟨some 63, .bin .sub 3 (.tmp 62) (.const (.int .i64 1)), none⟩,
 ⟨some 9, .mov (.tmp 63), none⟩] [61, 62, 63])
 (.block 4
 (.loop
 (.seq
 (.seq
 (.region false [
 ⟨some 64, .mov (.tmp 9), none⟩,
 ⟨some 65, .bin .geq 3 (.tmp 64) (.const (.int .i64 1)), none⟩] [64])
 (.cond (.tmp 65)
 .skip
 (.exit 4)))
 (.seq
 (.block 5
 (.seq
 (.seq
 (.region true [
 ⟨some 68, .mov (.tmp 0), none⟩,
 ⟨some 69, .mov (.tmp 9), none⟩,
 ⟨some 70, .iaddr 1 (.tmp 68) (.tmp 69), none⟩,
 ⟨some 71, .load false 1 (.tmp 70), none⟩,
 ⟨some 72, .mov (.tmp 0), none⟩,
 ⟨some 73, .mov (.tmp 9), none⟩,
 ⟨some 74, .bin .sub 3 (.tmp 73) (.const (.int .i64 1)), none⟩,
 ⟨some 75, .iaddr 1 (.tmp 72) (.tmp 74), none⟩,
 ⟨some 76, .load false 1 (.tmp 75), none⟩,
 ⟨some 77, .call 190 [.tmp 71, .tmp 76], none⟩,
 ⟨some 78, .un .not (.tmp 77), none⟩] [65, 68, 69, 70, 71, 72, 73, 74, 75, 76, 77])
 (.cond (.tmp 78)
 (.exit 4)
 .skip))
 (.region true [
 ⟨some 79, .mov (.tmp 0), none⟩,
 ⟨some 80, .mov (.tmp 9), none⟩,
 ⟨some 81, .mov (.tmp 0), none⟩,
 ⟨some 82, .mov (.tmp 9), none⟩,
 ⟨some 83, .bin .sub 3 (.tmp 82) (.const (.int .i64 1)), none⟩,
 ⟨some 84, .mov (.tmp 0), none⟩,
 ⟨some 85, .mov (.tmp 9), none⟩,
 ⟨some 86, .bin .sub 3 (.tmp 85) (.const (.int .i64 1)), none⟩,
 ⟨some 87, .iaddr 1 (.tmp 84) (.tmp 86), none⟩,
 ⟨some 88, .load false 1 (.tmp 87), none⟩,
 ⟨some 89, .mov (.tmp 0), none⟩,
 ⟨some 90, .mov (.tmp 9), none⟩,
 ⟨some 91, .iaddr 1 (.tmp 89) (.tmp 90), none⟩,
 ⟨some 92, .load false 1 (.tmp 91), none⟩,
 ⟨some 93, .iaddr 1 (.tmp 79) (.tmp 80), none⟩,
 ⟨none, .store 1 (.tmp 93) (.tmp 88), none⟩,
 ⟨some 94, .iaddr 1 (.tmp 81) (.tmp 83), none⟩,
 ⟨none, .store 1 (.tmp 94) (.tmp 92), none⟩] [78, 79, 80, 81, 82, 83, 84, 85, 86, 87, 88, 89, 90, 91, 92, 93, 94])) [])
 (.region false [
 ⟨some 66, .mov (.tmp 9), none⟩,
 ⟨some 67, .bin .sub 3 (.tmp 66) (.const (.int .i64 1)), none⟩,
 ⟨some 9, .mov (.tmp 67), none⟩] [66, 67]))) [] []) [9, 65, 78]))
 .skip))
 (.seq
 (.region false [
 ⟨some 95, .mov (.tmp 2), none⟩,
 ⟨some 96, .mov (.tmp 7), none⟩,
 ⟨some 97, .bin .sub 3 (.tmp 95) (.tmp 96), none⟩,
 ⟨some 98, .bin .geq 3 (.tmp 97) (.const (.int .i64 2)), none⟩] [61, 95, 96, 97])
 (.cond (.tmp 98)
 (.seq
 (.region false [
 ⟨some 99, .mov (.tmp 7), none⟩,
 ⟨some 100, .bin .add 3 (.tmp 99) (.const (.int .i64 1)), none⟩,
 ⟨some 10, .mov (.tmp 100), none⟩] [98, 99, 100])
 (.block 6
 (.loop
 (.seq
 (.seq
 (.region false [
 ⟨some 101, .mov (.tmp 10), none⟩,
 ⟨some 102, .mov (.tmp 2), none⟩,
 ⟨some 103, .bin .lss 3 (.tmp 101) (.tmp 102), none⟩] [101, 102])
 (.cond (.tmp 103)
 .skip
 (.exit 6)))
 (.seq
 (.block 7
 (.seq
 (.seq
 (.region true [
 ⟨some 106, .mov (.tmp 0), none⟩,
 ⟨some 107, .mov (.tmp 10), none⟩,
 ⟨some 108, .iaddr 1 (.tmp 106) (.tmp 107), none⟩,
 ⟨some 109, .load false 1 (.tmp 108), none⟩,
 ⟨some 110, .mov (.tmp 0), none⟩,
 ⟨some 111, .mov (.tmp 10), none⟩,
 ⟨some 112, .bin .sub 3 (.tmp 111) (.const (.int .i64 1)), none⟩,
 ⟨some 113, .iaddr 1 (.tmp 110) (.tmp 112), none⟩,
 ⟨some 114, .load false 1 (.tmp 113), none⟩,
 ⟨some 115, .call 190 [.tmp 109, .tmp 114], none⟩,
 ⟨some 116, .un .not (.tmp 115), none⟩] [103, 106, 107, 108, 109, 110, 111, 112, 113, 114, 115])
 (.cond (.tmp 116)
 (.exit 6)
 .skip))
 (.region true [
 ⟨some 117, .mov (.tmp 0), none⟩,
 ⟨some 118, .mov (.tmp 10), none⟩,
 ⟨some 119, .mov (.tmp 0), none⟩,
 ⟨some 120, .mov (.tmp 10), none⟩,
 ⟨some 121, .bin .sub 3 (.tmp 120) (.const (.int .i64 1)), none⟩,
 ⟨some 122, .mov (.tmp 0), none⟩,
 ⟨some 123, .mov (.tmp 10), none⟩,
 ⟨some 124, .bin .sub 3 (.tmp 123) (.const (.int .i64 1)), none⟩,
 ⟨some 125, .iaddr 1 (.tmp 122) (.tmp 124), none⟩,
 ⟨some 126, .load false 1 (.tmp 125), none⟩,
 ⟨some 127, .mov (.tmp 0), none⟩,
 ⟨some 128, .mov (.tmp 10), none⟩,
 ⟨some 129, .iaddr 1 (.tmp 127) (.tmp 128), none⟩,
 ⟨some 130, .load false 1 (.tmp 129), none⟩,
 ⟨some 131, .iaddr 1 (.tmp 117) (.tmp 118), none⟩,
 ⟨none, .store 1 (.tmp 131) (.tmp 126), none⟩,
 ⟨some 132, .iaddr 1 (.tmp 119) (.tmp 121), none⟩,
 ⟨none, .store 1 (.tmp 132) (.tmp 130), none⟩] [116, 117, 118, 119, 120, 121, 122, 123, 124, 125, 126, 127, 128, 129, 130, 131, 132])) [])
 (.region false [
 ⟨some 104, .mov (.tmp 10), none⟩,
 ⟨some 105, .bin .add 3 (.tmp 104) (.const (.int .i64 1)), none⟩,
 ⟨some 10, .mov (.tmp 105), none⟩] [104, 105]))) [] []) [10, 103, 116]))
 .skip))))))) [98])
 (.region false [
 ⟨some 15, .mov (.tmp 8), none⟩,
 ⟨some 16, .bin .add 3 (.tmp 15) (.const (.int .i64 1)), none⟩,
 ⟨some 8, .mov (.tmp 16), none⟩] [15, 16]))) [] []) [0, 1, 2, 7, 8, 14]))
 (.seq
 (.region false [
 ⟨some 6, .mov (.const (.bool false)), none⟩] [])
 .ret))))
abbrev v_q186 : List RV := [.tmp 6]
abbrev f_q186 : FuncId := 189
theorem k_q186 : closedOf Tryz.prog Tryz.f189 = (false, some true, some v_q186, some c_q186.plain, 133) := by kernel_rfl
theorem am_q186 {args : List AV} {c0 c1 : List (Nat × List AV)} {r : AV} (h : aw Tryz.prog c_q186 (env0M args c0) (endM v_q186 r (c0.map (·.1)) c1)) (hc0 : ∀ q ∈ c0, 100000 ≤ q.1) (hargs : args.length ≤ 133 := by decide) (hok : resOK r = true := by rfl) : AM Tryz.prog f_q186 args c0 r c1 :=
  AM_mk (by kernel_rfl) Tryz.func189 k_q186 hargs hok (by decide) hc0 h
def c_q187 : ACode :=
 (.seq
 (.region false [
 ⟨some 4, .mov (.const (.bool false)), none⟩] [4])
 (.seq
 (.region false [
 ⟨some 5, .mov (.tmp 0), none⟩,
 ⟨some 6, .callm 219 [.tmp 5], none⟩,
 ⟨some 7, .mov (.tmp 6), none⟩,
 ⟨some 8, .mov (.tmp 1), (some (7, true))⟩,
 ⟨some 9, .callm 219 [.tmp 8], (some (7, true))⟩,
 ⟨some 10, .un .not (.tmp 9), (some (7, true))⟩,
 ⟨some 11, .pick (.tmp 7) (.tmp 10) (.const (.bool false)), none⟩,
 ⟨some 12, .mov (.tmp 11), none⟩,
 ⟨some 13, .mov (.tmp 0), (some (12, false))⟩,
 ⟨some 14, .mov (.tmp 1), (some (12, false))⟩,
 ⟨some 15, .bin .lss 32 (.tmp 13) (.tmp 14), (some (12, false))⟩,
 ⟨some 16, .pick (.tmp 12) (.const (.bool true)) (.tmp 15), none⟩,
 ⟨some 4, .mov (.tmp 16), none⟩] [0, 1, 5, 6, 7, 8, 9, 10, 11, 12, 13, 14, 15, 16])
 .ret))
abbrev v_q187 : List RV := [.tmp 4]
abbrev f_q187 : FuncId := 190
theorem k_q187 : closedOf Tryz.prog Tryz.f190 = (false, some true, some v_q187, some c_q187.plain, 17) := by kernel_rfl
theorem ac_q187 {args : List AV} {r : AV} (h : aw Tryz.prog c_q187 (env0 args) (endQ v_q187 r)) (hargs : args.length ≤ 17 := by decide) (hok : resOK r = true := by rfl) : AC Tryz.prog f_q187 args r :=
  AC_mk (by kernel_rfl) Tryz.func190 k_q187 hargs hok (by decide) h
def c_q188 : ACode :=
 (.seq
 (.region false [
 ⟨some 8, .mov (.const (.int .i64 0)), none⟩] [8])
 (.seq
 (.region true [
 ⟨some 11, .mov (.tmp 0), none⟩,
 ⟨some 12, .mov (.tmp 1), none⟩,
 ⟨some 13, .mov (.tmp 0), none⟩,
 ⟨some 14, .mov (.tmp 3), none⟩,
 ⟨some 15, .mov (.tmp 0), none⟩,
 ⟨some 16, .mov (.tmp 3), none⟩,
 ⟨some 17, .iaddr 1 (.tmp 15) (.tmp 16), none⟩,
 ⟨some 18, .load false 1 (.tmp 17), none⟩,
 ⟨some 19, .mov (.tmp 0), none⟩,
 ⟨some 20, .mov (.tmp 1), none⟩,
 ⟨some 21, .iaddr 1 (.tmp 19) (.tmp 20), none⟩,
 ⟨some 22, .load false 1 (.tmp 21), none⟩,
 ⟨some 23, .iaddr 1 (.tmp 11) (.tmp 12), none⟩,
 ⟨none, .store 1 (.tmp 23) (.tmp 18), none⟩,
 ⟨some 24, .iaddr 1 (.tmp 13) (.tmp 14), none⟩,
 ⟨none, .store 1 (.tmp 24) (.tmp 22), none⟩] [3, 11, 12, 13, 14, 15, 16, 17, 18, 19, 20, 21, 22, 23, 24])
 (.seq
 (.region false [
 ⟨some 25, .mov (.tmp 1), none⟩,
 ⟨some 26, .bin .add 3 (.tmp 25) (.const (.int .i64 1)), none⟩,
 ⟨some 27, .mov (.tmp 2), none⟩,
 ⟨some 28, .bin .sub 3 (.tmp 27) (.const (.int .i64 1)), none⟩,
 ⟨some 9, .mov (.tmp 26), none⟩,
 ⟨some 10, .mov (.tmp 28), none⟩] [2, 25, 26, 27, 28])
 (.seq
 (.block 0
 (.loop
 (.block 1
 (.seq
 (.block 2
 (.loop
 (.seq
 (.seq
 (.region true [
 ⟨some 29, .mov (.tmp 9), none⟩,
 ⟨some 30, .mov (.tmp 10), none⟩,
 ⟨some 31, .bin .leq 3 (.tmp 29) (.tmp 30), none⟩,
 ⟨some 32, .mov (.tmp 31), none⟩,
 ⟨some 33, .mov (.tmp 0), (some (32, true))⟩,
 ⟨some 34, .mov (.tmp 1), (some (32, true))⟩,
 ⟨some 35, .iaddr 1 (.tmp 33) (.tmp 34), (some (32, true))⟩,
 ⟨some 36, .load false 1 (.tmp 35), (some (32, true))⟩,
 ⟨some 37, .mov (.tmp 0), (some (32, true))⟩,
 ⟨some 38, .mov (.tmp 9), (some (32, true))⟩,
 ⟨some 39, .iaddr 1 (.tmp 37) (.tmp 38), (some (32, true))⟩,
 ⟨some 40, .load false 1 (.tmp 39), (some (32, true))⟩,
 ⟨some 41, .call 190 [.tmp 36, .tmp 40], (some (32, true))⟩,
 ⟨some 42, .un .not (.tmp 41), (some (32, true))⟩,
 ⟨some 43, .pick (.tmp 32) (.tmp 42) (.const (.bool false)), none⟩] [29, 30, 31, 32, 33, 34, 35, 36, 37, 38, 39, 40, 41, 42])
 (.cond (.tmp 43)
 .skip
 (.exit 2)))
 (.block 3
 (.region false [
 ⟨some 44, .mov (.tmp 9), none⟩,
 ⟨some 45, .bin .add 3 (.tmp 44) (.const (.int .i64 1)), none⟩,
 ⟨some 9, .mov (.tmp 45), none⟩] [43, 44, 45]) [])) [] []) [43])
 (.seq
 (.block 4
 (.loop
 (.seq
 (.seq
 (.region true [
 ⟨some 46, .mov (.tmp 9), none⟩,
 ⟨some 47, .mov (.tmp 10), none⟩,
 ⟨some 48, .bin .leq 3 (.tmp 46) (.tmp 47), none⟩,
 ⟨some 49, .mov (.tmp 48), none⟩,
 ⟨some 50, .mov (.tmp 0), (some (49, true))⟩,
 ⟨some 51, .mov (.tmp 1), (some (49, true))⟩,
 ⟨some 52, .iaddr 1 (.tmp 50) (.tmp 51), (some (49, true))⟩,
 ⟨some 53, .load false 1 (.tmp 52), (some (49, true))⟩,
 ⟨some 54, .mov (.tmp 0), (some (49, true))⟩,
 ⟨some 55, .mov (.tmp 10), (some (49, true))⟩,
 ⟨some 56, .iaddr 1 (.tmp 54) (.tmp 55), (some (49, true))⟩,
 ⟨some 57, .load false 1 (.tmp 56), (some (49, true))⟩,
 ⟨some 58, .call 190 [.tmp 53, .tmp 57], (some (49, true))⟩,
 ⟨some 59, .pick (.tmp 49) (.tmp 58) (.const (.bool false)), none⟩] [46, 47, 48, 49, 50, 51, 52, 53, 54, 55, 56, 57, 58])
 (.cond (.tmp 59)
 .skip
 (.exit 4)))
 (.block 5
 (.region false [
 ⟨some 60, .mov (.tmp 10), none⟩,
 ⟨some 61, .bin .sub 3 (.tmp 60) (.const (.int .i64 1)), none⟩,
 ⟨some 10, .mov (.tmp 61), none⟩] [59, 60, 61]) [])) [] []) [59])
 (.seq
 (.seq
 (.region false [
 ⟨some 62, .mov (.tmp 9), none⟩,
 ⟨some 63, .mov (.tmp 10), none⟩,
 ⟨some 64, .bin .gtr 3 (.tmp 62) (.tmp 63), none⟩] [62, 63])
 (.cond (.tmp 64)
 (.exit 0)
 .skip))
 (.seq
 (.region true [
 ⟨some 65, .mov (.tmp 0), none⟩,
 ⟨some 66, .mov (.tmp 9), none⟩,
 ⟨some 67, .mov (.tmp 0), none⟩,
 ⟨some 68, .mov (.tmp 10), none⟩,
 ⟨some 69, .mov (.tmp 0), none⟩,
 ⟨some 70, .mov (.tmp 10), none⟩,
 ⟨some 71, .iaddr 1 (.tmp 69) (.tmp 70), none⟩,
 ⟨some 72, .load false 1 (.tmp 71), none⟩,
 ⟨some 73, .mov (.tmp 0), none⟩,
 ⟨some 74, .mov (.tmp 9), none⟩,
 ⟨some 75, .iaddr 1 (.tmp 73) (.tmp 74), none⟩,
 ⟨some 76, .load false 1 (.tmp 75), none⟩,
 ⟨some 77, .iaddr 1 (.tmp 65) (.tmp 66), none⟩,
 ⟨none, .store 1 (.tmp 77) (.tmp 72), none⟩,
 ⟨some 78, .iaddr 1 (.tmp 67) (.tmp 68), none⟩,
 ⟨none, .store 1 (.tmp 78) (.tmp 76), none⟩] [64, 65, 66, 67, 68, 69, 70, 71, 72, 73, 74, 75, 76, 77, 78])
 (.seq
 (.region false [
 ⟨some 79, .mov (.tmp 9), none⟩,
 ⟨some 80, .bin .add 3 (.tmp 79) (.const (.int .i64 1)), none⟩,
 ⟨some 9, .mov (.tmp 80), none⟩] [79, 80])
 (.region false [
 ⟨some 81, .mov (.tmp 10), none⟩,
 ⟨some 82, .bin .sub 3 (.tmp 81) (.const (.int .i64 1)), none⟩,
 ⟨some 10, .mov (.tmp 82), none⟩] [81, 82])))))) []) [] []) [0, 1, 10, 64])
 (.seq
 (.region false [
 ⟨some 83, .mov (.tmp 9), none⟩,
 ⟨some 8, .mov (.tmp 83), none⟩] [9, 83])
 .ret)))))
abbrev v_q188 : List RV := [.tmp 8]
abbrev f_q188 : FuncId := 191
theorem k_q188 : closedOf Tryz.prog Tryz.f191 = (false, some true, some v_q188, some c_q188.plain, 84) := by kernel_rfl
theorem am_q188 {args : List AV} {c0 c1 : List (Nat × List AV)} {r : AV} (h : aw Tryz.prog c_q188 (env0M args c0) (endM v_q188 r (c0.map (·.1)) c1)) (hc0 : ∀ q ∈ c0, 100000 ≤ q.1) (hargs : args.length ≤ 84 := by decide) (hok : resOK r = true := by rfl) : AM Tryz.prog f_q188 args c0 r c1 :=
  AM_mk (by kernel_rfl) Tryz.func191 k_q188 hargs hok (by decide) hc0 h
def c_q189 : ACode :=
 (.seq
 (.region false [
 ⟨some 8, .mov (.const (.int .i64 0)), none⟩,
 ⟨some 9, .mov (.const (.bool false)), none⟩] [8, 9])
 (.seq
 (.region true [
 ⟨some 12, .mov (.tmp 0), none⟩,
 ⟨some 13, .mov (.tmp 1), none⟩,
 ⟨some 14, .mov (.tmp 0), none⟩,
 ⟨some 15, .mov (.tmp 3), none⟩,
 ⟨some 16, .mov (.tmp 0), none⟩,
 ⟨some 17, .mov (.tmp 3), none⟩,
 ⟨some 18, .iaddr 1 (.tmp 16) (.tmp 17), none⟩,
 ⟨some 19, .load false 1 (.tmp 18), none⟩,
 ⟨some 20, .mov (.tmp 0), none⟩,
 ⟨some 21, .mov (.tmp 1), none⟩,
 ⟨some 22, .iaddr 1 (.tmp 20) (.tmp 21), none⟩,
 ⟨some 23, .load false 1 (.tmp 22), none⟩,
 ⟨some 24, .iaddr 1 (.tmp 12) (.tmp 13), none⟩,
 ⟨none, .store 1 (.tmp 24) (.tmp 19), none⟩,
 ⟨some 25, .iaddr 1 (.tmp 14) (.tmp 15), none⟩,
 ⟨none, .store 1 (.tmp 25) (.tmp 23), none⟩] [3, 12, 13, 14, 15, 16, 17, 18, 19, 20, 21, 22, 23, 24, 25])
 (.seq
 (.region false [
 ⟨some 26, .mov (.tmp 1), none⟩,
 ⟨some 27, .bin .add 3 (.tmp 26) (.const (.int .i64 1)), none⟩,
 ⟨some 28, .mov (.tmp 2), none⟩,
 ⟨some 29, .bin .sub 3 (.tmp 28) (.const (.int .i64 1)), none⟩,
 ⟨some 10, .mov (.tmp 27), none⟩,
 ⟨some 11, .mov (.tmp 29), none⟩] [2, 26, 27, 28, 29])
 (.seq
 (.block 0
 (.loop
 (.seq
 (.seq
 (.region true [
 ⟨some 30, .mov (.tmp 10), none⟩,
 ⟨some 31, .mov (.tmp 11), none⟩,
 ⟨some 32, .bin .leq 3 (.tmp 30) (.tmp 31), none⟩,
 ⟨some 33, .mov (.tmp 32), none⟩,
 ⟨some 34, .mov (.tmp 0), (some (33, true))⟩,
 ⟨some 35, .mov (.tmp 10), (some (33, true))⟩,
 ⟨some 36, .iaddr 1 (.tmp 34) (.tmp 35), (some (33, true))⟩,
 ⟨some 37, .load false 1 (.tmp 36), (some (33, true))⟩,
 ⟨some 38, .mov (.tmp 0), (some (33, true))⟩,
 ⟨some 39, .mov (.tmp 1), (some (33, true))⟩,
 ⟨some 40, .iaddr 1 (.tmp 38) (.tmp 39), (some (33, true))⟩,
 ⟨some 41, .load false 1 (.tmp 40), (some (33, true))⟩,
 ⟨some 42, .call 190 [.tmp 37, .tmp 41], (some (33, true))⟩,
 ⟨some 43, .pick (.tmp 33) (.tmp 42) (.const (.bool false)), none⟩] [30, 31, 32, 33, 34, 35, 36, 37, 38, 39, 40, 41, 42])
 (.cond (.tmp 43)
 .skip
 (.exit 0)))
 (.block 1
 (.region false [
 ⟨some 44, .mov (.tmp 10), none⟩,
 ⟨some 45, .bin .add 3 (.tmp 44) (.const (.int .i64 1)), none⟩,
 ⟨some 10, .mov (.tmp 45), none⟩] [43, 44, 45]) [])) [] []) [43])
 (.seq
 (.block 2
 (.loop
 (.seq
 (.seq
 (.region true [
 ⟨some 46, .mov (.tmp 10), none⟩,
 ⟨some 47, .mov (.tmp 11), none⟩,
 ⟨some 48, .bin .leq 3 (.tmp 46) (.tmp 47), none⟩,
 ⟨some 49, .mov (.tmp 48), none⟩,
 ⟨some 50, .mov (.tmp 0), (some (49, true))⟩,
 ⟨some 51, .mov (.tmp 11), (some (49, true))⟩,
 ⟨some 52, .iaddr 1 (.tmp 50) (.tmp 51), (some (49, true))⟩,
 ⟨some 53, .load false 1 (.tmp 52), (some (49, true))⟩,
 ⟨some 54, .mov (.tmp 0), (some (49, true))⟩,
 ⟨some 55, .mov (.tmp 1), (some (49, true))⟩,
 ⟨some 56, .iaddr 1 (.tmp 54) (.tmp 55), (some (49, true))⟩,
 ⟨some 57, .load false 1 (.tmp 56), (some (49, true))⟩,
 ⟨some 58, .call 190 [.tmp 53, .tmp 57], (some (49, true))⟩,
 ⟨some 59, .un .not (.tmp 58), (some (49, true))⟩,
 ⟨some 60, .pick (.tmp 49) (.tmp 59) (.const (.bool false)), none⟩] [46, 47, 48, 49, 50, 51, 52, 53, 54, 55, 56, 57, 58, 59])
 (.cond (.tmp 60)
 .skip
 (.exit 2)))
 (.block 3
 (.region false [
 ⟨some 61, .mov (.tmp 11), none⟩,
 ⟨some 62, .bin .sub 3 (.tmp 61) (.const (.int .i64 1)), none⟩,
 ⟨some 11, .mov (.tmp 62), none⟩] [60, 61, 62]) [])) [] []) [60])
 (.seq
 (.seq
 (.region false [
 ⟨some 63, .mov (.tmp 10), none⟩,
 ⟨some 64, .mov (.tmp 11), none⟩,
 ⟨some 65, .bin .gtr 3 (.tmp 63) (.tmp 64), none⟩] [63, 64])
 (.cond (.tmp 65)
 (.seq
 (.region true [
 ⟨some 66, .mov (.tmp 0), none⟩,
 ⟨some 67, .mov (.tmp 11), none⟩,
 ⟨some 68, .mov (.tmp 0), none⟩,
 ⟨some 69, .mov (.tmp 1), none⟩,
 ⟨some 70, .mov (.tmp 0), none⟩,
 ⟨some 71, .mov (.tmp 1), none⟩,
 ⟨some 72, .iaddr 1 (.tmp 70) (.tmp 71), none⟩,
 ⟨some 73, .load false 1 (.tmp 72), none⟩,
 ⟨some 74, .mov (.tmp 0), none⟩,
 ⟨some 75, .mov (.tmp 11), none⟩,
 ⟨some 76, .iaddr 1 (.tmp 74) (.tmp 75), none⟩,
 ⟨some 77, .load false 1 (.tmp 76), none⟩,
 ⟨some 78, .iaddr 1 (.tmp 66) (.tmp 67), none⟩,
 ⟨none, .store 1 (.tmp 78) (.tmp 73), none⟩,
 ⟨some 79, .iaddr 1 (.tmp 68) (.tmp 69), none⟩,
 ⟨none, .store 1 (.tmp 79) (.tmp 77), none⟩] [0, 1, 10, 65, 66, 67, 68, 69, 70, 71, 72, 73, 74, 75, 76, 77, 78, 79])
 (.seq
 (.region false [
 ⟨some 80, .mov (.tmp 11), none⟩,
 ⟨some 8, .mov (.tmp 80), none⟩,
 ⟨some 9, .mov (.const (.bool true)), none⟩] [11, 80])
 .ret))
 .skip))
 (.seq
 (.region true [
 ⟨some 81, .mov (.tmp 0), none⟩,
 ⟨some 82, .mov (.tmp 10), none⟩,
 ⟨some 83, .mov (.tmp 0), none⟩,
 ⟨some 84, .mov (.tmp 11), none⟩,
 ⟨some 85, .mov (.tmp 0), none⟩,
 ⟨some 86, .mov (.tmp 11), none⟩,
 ⟨some 87, .iaddr 1 (.tmp 85) (.tmp 86), none⟩,
 ⟨some 88, .load false 1 (.tmp 87), none⟩,
 ⟨some 89, .mov (.tmp 0), none⟩,
 ⟨some 90, .mov (.tmp 10), none⟩,
 ⟨some 91, .iaddr 1 (.tmp 89) (.tmp 90), none⟩,
 ⟨some 92, .load false 1 (.tmp 91), none⟩,
 ⟨some 93, .iaddr 1 (.tmp 81) (.tmp 82), none⟩,
 ⟨none, .store 1 (.tmp 93) (.tmp 88), none⟩,
 ⟨some 94, .iaddr 1 (.tmp 83) (.tmp 84), none⟩,
 ⟨none, .store 1 (.tmp 94) (.tmp 92), none⟩] [65, 81, 82, 83, 84, 85, 86, 87, 88, 89, 90, 91, 92, 93, 94])
 (.seq
 (.region false [
 ⟨some 95, .mov (.tmp 10), none⟩,
 ⟨some 96, .bin .add 3 (.tmp 95) (.const (.int .i64 1)), none⟩,
 ⟨some 10, .mov (.tmp 96), none⟩] [95, 96])
 (.seq
 (.region false [
 ⟨some 97, .mov (.tmp 11), none⟩,
 ⟨some 98, .bin .sub 3 (.tmp 97) (.const (.int .i64 1)), none⟩,
 ⟨some 11, .mov (.tmp 98), none⟩] [97, 98])
 (.seq
 (.block 4
 (.loop
 (.block 5
 (.seq
 (.block 6
 (.loop
 (.seq
 (.seq
 (.region true [
 ⟨some 99, .mov (.tmp 10), none⟩,
 ⟨some 100, .mov (.tmp 11), none⟩,
 ⟨some 101, .bin .leq 3 (.tmp 99) (.tmp 100), none⟩,
 ⟨some 102, .mov (.tmp 101), none⟩,
 ⟨some 103, .mov (.tmp 0), (some (102, true))⟩,
 ⟨some 104, .mov (.tmp 10), (some (102, true))⟩,
 ⟨some 105, .iaddr 1 (.tmp 103) (.tmp 104), (some (102, true))⟩,
 ⟨some 106, .load false 1 (.tmp 105), (some (102, true))⟩,
 ⟨some 107, .mov (.tmp 0), (some (102, true))⟩,
 ⟨some 108, .mov (.tmp 1), (some (102, true))⟩,
 ⟨some 109, .iaddr 1 (.tmp 107) (.tmp 108), (some (102, true))⟩,
 ⟨some 110, .load false 1 (.tmp 109), (some (102, true))⟩,
 ⟨some 111, .call 190 [.tmp 106, .tmp 110], (some (102, true))⟩,
 ⟨some 112, .pick (.tmp 102) (.tmp 111) (.const (.bool false)), none⟩] [99, 100, 101, 102, 103, 104, 105, 106, 107, 108, 109, 110, 111])
 (.cond (.tmp 112)
 .skip
 (.exit 6)))
 (.block 7
 (.region false [
 ⟨some 113, .mov (.tmp 10), none⟩,
 ⟨some 114, .bin .add 3 (.tmp 113) (.const (.int .i64 1)), none⟩,
 ⟨some 10, .mov (.tmp 114), none⟩] [112, 113, 114]) [])) [] []) [112])
 (.seq
 (.block 8
 (.loop
 (.seq
 (.seq
 (.region true [
 ⟨some 115, .mov (.tmp 10), none⟩,
 ⟨some 116, .mov (.tmp 11), none⟩,
 ⟨some 117, .bin .leq 3 (.tmp 115) (.tmp 116), none⟩,
 ⟨some 118, .mov (.tmp 117), none⟩,
 ⟨some 119, .mov (.tmp 0), (some (118, true))⟩,
 ⟨some 120, .mov (.tmp 11), (some (118, true))⟩,
 ⟨some 121, .iaddr 1 (.tmp 119) (.tmp 120), (some (118, true))⟩,
 ⟨some 122, .load false 1 (.tmp 121), (some (118, true))⟩,
 ⟨some 123, .mov (.tmp 0), (some (118, true))⟩,
 ⟨some 124, .mov (.tmp 1), (some (118, true))⟩,
 ⟨some 125, .iaddr 1 (.tmp 123) (.tmp 124), (some (118, true))⟩,
 ⟨some 126, .load false 1 (.tmp 125), (some (118, true))⟩,
 ⟨some 127, .call 190 [.tmp 122, .tmp 126], (some (118, true))⟩,
 ⟨some 128, .un .not (.tmp 127), (some (118, true))⟩,
 ⟨some 129, .pick (.tmp 118) (.tmp 128) (.const (.bool false)), none⟩] [115, 116, 117, 118, 119, 120, 121, 122, 123, 124, 125, 126, 127, 128])
 (.cond (.tmp 129)
 .skip
 (.exit 8)))
 (.block 9
 (.region false [
 ⟨some 130, .mov (.tmp 11), none⟩,
 ⟨some 131, .bin .sub 3 (.tmp 130) (.const (.int .i64 1)), none⟩,
 ⟨some 11, .mov (.tmp 131), none⟩] [129, 130, 131]) [])) [] []) [129])
 (.seq
 (.seq
 (.region false [
 ⟨some 132, .mov (.tmp 10), none⟩,
 ⟨some 133, .mov (.tmp 11), none⟩,
 ⟨some 134, .bin .gtr 3 (.tmp 132) (.tmp 133), none⟩] [132, 133])
 (.cond (.tmp 134)
 (.exit 4)
 .skip))
 (.seq
 (.region true [
 ⟨some 135, .mov (.tmp 0), none⟩,
 ⟨some 136, .mov (.tmp 10), none⟩,
 ⟨some 137, .mov (.tmp 0), none⟩,
 ⟨some 138, .mov (.tmp 11), none⟩,
 ⟨some 139, .mov (.tmp 0), none⟩,
 ⟨some 140, .mov (.tmp 11), none⟩,
 ⟨some 141, .iaddr 1 (.tmp 139) (.tmp 140), none⟩,
 ⟨some 142, .load false 1 (.tmp 141), none⟩,
 ⟨some 143, .mov (.tmp 0), none⟩,
 ⟨some 144, .mov (.tmp 10), none⟩,
 ⟨some 145, .iaddr 1 (.tmp 143) (.tmp 144), none⟩,
 ⟨some 146, .load false 1 (.tmp 145), none⟩,
 ⟨some 147, .iaddr 1 (.tmp 135) (.tmp 136), none⟩,
 ⟨none, .store 1 (.tmp 147) (.tmp 142), none⟩,
 ⟨some 148, .iaddr 1 (.tmp 137) (.tmp 138), none⟩,
 ⟨none, .store 1 (.tmp 148) (.tmp 146), none⟩] [134, 135, 136, 137, 138, 139, 140, 141, 142, 143, 144, 145, 146, 147, 148])
 (.seq
 (.region false [
 ⟨some 149, .mov (.tmp 10), none⟩,
 ⟨some 150, .bin .add 3 (.tmp 149) (.const (.int .i64 1)), none⟩,
 ⟨some 10, .mov (.tmp 150), none⟩] [149, 150])
 (.region false [
 ⟨some 151, .mov (.tmp 11), none⟩,
 ⟨some 152, .bin .sub 3 (.tmp 151) (.const (.int .i64 1)), none⟩,
 ⟨some 11, .mov (.tmp 152), none⟩] [151, 152])))))) []) [] []) [10, 134])
 (.seq
 (.region true [
 ⟨some 153, .mov (.tmp 0), none⟩,
 ⟨some 154, .mov (.tmp 11), none⟩,
 ⟨some 155, .mov (.tmp 0), none⟩,
 ⟨some 156, .mov (.tmp 1), none⟩,
 ⟨some 157, .mov (.tmp 0), none⟩,
 ⟨some 158, .mov (.tmp 1), none⟩,
 ⟨some 159, .iaddr 1 (.tmp 157) (.tmp 158), none⟩,
 ⟨some 160, .load false 1 (.tmp 159), none⟩,
 ⟨some 161, .mov (.tmp 0), none⟩,
 ⟨some 162, .mov (.tmp 11), none⟩,
 ⟨some 163, .iaddr 1 (.tmp 161) (.tmp 162), none⟩,
 ⟨some 164, .load false 1 (.tmp 163), none⟩,
 ⟨some 165, .iaddr 1 (.tmp 153) (.tmp 154), none⟩,
 ⟨none, .store 1 (.tmp 165) (.tmp 160), none⟩,
 ⟨some 166, .iaddr 1 (.tmp 155) (.tmp 156), none⟩,
 ⟨none, .store 1 (.tmp 166) (.tmp 164), none⟩] [0, 1, 153, 154, 155, 156, 157, 158, 159, 160, 161, 162, 163, 164, 165, 166])
 (.seq
 (.region false [
 ⟨some 167, .mov (.tmp 11), none⟩,
 ⟨some 8, .mov (.tmp 167), none⟩,
 ⟨some 9, .mov (.const (.bool false)), none⟩] [11, 167])
 .ret))))))))))))
abbrev v_q189 : List RV := [.tmp 8, .tmp 9]
abbrev f_q189 : FuncId := 192
theorem k_q189 : closedOf Tryz.prog Tryz.f192 = (false, some true, some v_q189, some c_q189.plain, 168) := by kernel_rfl
theorem am_q189 {args : List AV} {c0 c1 : List (Nat × List AV)} {r : AV} (h : aw Tryz.prog c_q189 (env0M args c0) (endM v_q189 r (c0.map (·.1)) c1)) (hc0 : ∀ q ∈ c0, 100000 ≤ q.1) (hargs : args.length ≤ 168 := by decide) (hok : resOK r = true := by rfl) : AM Tryz.prog f_q189 args c0 r c1 :=
  AM_mk (by kernel_rfl) Tryz.func192 k_q189 hargs hok (by decide) hc0 h
def c_q191 : ACode :=
 (.seq
 (.region false [
 ⟨some 2, .mov (.const (.int .i64 0)), none⟩] [])
 (.seq
 (.seq
 (.region false [
 ⟨some 3, .mov (.tmp 0), none⟩,
 ⟨some 4, .bin .geq 236 (.tmp 3) (.const (.int .u64 4294967296)), none⟩] [3])
 (.cond (.tmp 4)
 (.seq
 (.region false [
 ⟨some 5, .mov (.tmp 0), none⟩,
 ⟨some 6, .bin .shr 236 (.tmp 5) (.const (.int .u64 32)), none⟩,
 ⟨some 0, .mov (.tmp 6), none⟩] [2, 4, 5, 6])
 (.region false [
 ⟨some 2, .mov (.const (.int .i64 32)), none⟩] []))
 .skip))
 (.seq
 (.seq
 (.region false [
 ⟨some 7, .mov (.tmp 0), none⟩,
 ⟨some 8, .bin .geq 236 (.tmp 7) (.const (.int .u64 65536)), none⟩] [4, 7])
 (.cond (.tmp 8)
 (.seq
 (.region false [
 ⟨some 9, .mov (.tmp 0), none⟩,
 ⟨some 10, .bin .shr 236 (.tmp 9) (.const (.int .u64 16)), none⟩,
 ⟨some 0, .mov (.tmp 10), none⟩] [8, 9, 10])
 (.region false [
 ⟨some 11, .mov (.tmp 2), none⟩,
 ⟨some 12, .bin .add 3 (.tmp 11) (.const (.int .i64 16)), none⟩,
 ⟨some 2, .mov (.tmp 12), none⟩] [11, 12]))
 .skip))
 (.seq
 (.seq
 (.region false [
 ⟨some 13, .mov (.tmp 0), none⟩,
 ⟨some 14, .bin .geq 236 (.tmp 13) (.const (.int .u64 256)), none⟩] [8, 13])
 (.cond (.tmp 14)
 (.seq
 (.region false [
 ⟨some 15, .mov (.tmp 0), none⟩,
 ⟨some 16, .bin .shr 236 (.tmp 15) (.const (.int .u64 8)), none⟩,
 ⟨some 0, .mov (.tmp 16), none⟩] [14, 15, 16])
 (.region false [
 ⟨some 17, .mov (.tmp 2), none⟩,
 ⟨some 18, .bin .add 3 (.tmp 17) (.const (.int .i64 8)), none⟩,
 ⟨some 2, .mov (.tmp 18), none⟩] [17, 18]))
 .skip))
 (.seq
 (.region false [
 ⟨some 19, .mov (.tmp 2), none⟩,
 ⟨some 20, .mov (.tmp 0), none⟩,
 ⟨some 21, .cint .u8 (.tmp 20), none⟩,
 ⟨some 22, .idxs (.const (.string ⟨#[0, 1, 2, 2, 3, 3, 3, 3, 4, 4, 4, 4, 4, 4, 4, 4, 5, 5, 5, 5, 5, 5, 5, 5, 5, 5, 5, 5, 5, 5, 5, 5, 6, 6, 6, 6, 6, 6, 6, 6, 6, 6, 6, 6, 6, 6, 6, 6, 6, 6, 6, 6, 6, 6, 6, 6, 6, 6, 6, 6, 6, 6, 6, 6, 7, 7, 7, 7, 7, 7, 7, 7, 7, 7, 7, 7, 7, 7, 7, 7, 7, 7, 7, 7, 7, 7, 7, 7, 7, 7, 7, 7, 7, 7, 7, 7, 7, 7, 7, 7, 7, 7, 7, 7, 7, 7, 7, 7, 7, 7, 7, 7, 7, 7, 7, 7, 7, 7, 7, 7, 7, 7, 7, 7, 7, 7, 7, 7, 8, 8, 8, 8, 8, 8, 8, 8, 8, 8, 8, 8, 8, 8, 8, 8, 8, 8, 8, 8, 8, 8, 8, 8, 8, 8, 8, 8, 8, 8, 8, 8, 8, 8, 8, 8, 8, 8, 8, 8, 8, 8, 8, 8, 8, 8, 8, 8, 8, 8, 8, 8, 8, 8, 8, 8, 8, 8, 8, 8, 8, 8, 8, 8, 8, 8, 8, 8, 8, 8, 8, 8, 8, 8, 8, 8, 8, 8, 8, 8, 8, 8, 8, 8, 8, 8, 8, 8, 8, 8, 8, 8, 8, 8, 8, 8, 8, 8, 8, 8, 8, 8, 8, 8, 8, 8, 8, 8, 8, 8, 8, 8, 8, 8, 8, 8, 8, 8, 8, 8, 8, 8, 8, 8, 8, 8, 8, 8]⟩)) (.tmp 21), none⟩,
 ⟨some 23, .cint .i64 (.tmp 22), none⟩,
 ⟨some 24, .bin .add 3 (.tmp 19) (.tmp 23), none⟩,
 ⟨some 2, .mov (.tmp 24), none⟩] [0, 14, 19, 20, 21, 22, 23, 24])
 .ret)))))
abbrev v_q191 : List RV := [.tmp 2]
abbrev f_q191 : FuncId := 194
theorem k_q191 : closedOf Tryz.prog Tryz.f194 = (false, some true, some v_q191, some c_q191.plain, 25) := by kernel_rfl
theorem ac_q191 {args : List AV} {r : AV} (h : aw Tryz.prog c_q191 (env0 args) (endQ v_q191 r)) (hargs : args.length ≤ 25 := by decide) (hok : resOK r = true := by rfl) : AC Tryz.prog f_q191 args r :=
  AC_mk (by kernel_rfl) Tryz.func194 k_q191 hargs hok (by decide) h
def c_q192 : ACode :=
 (.seq
 (.region false [
 ⟨some 2, .mov (.const (.int .i64 0)), none⟩] [2])
 (.seq
 (.region false [
 ⟨some 6, .mov (.tmp 0), none⟩,
 ⟨some 7, .lens (.tmp 6), none⟩,
 ⟨some 8, .bin .geq 3 (.tmp 7) (.const (.int .i64 1)), none⟩,
 ⟨some 9, .mov (.tmp 8), none⟩,
 ⟨some 10, .mov (.tmp 0), (some (9, true))⟩,
 ⟨some 11, .lens (.tmp 10), (some (9, true))⟩,
 ⟨some 12, .bin .leq 3 (.tmp 11) (.const (.int .i64 12)), (some (9, true))⟩,
 ⟨some 13, .pick (.tmp 9) (.tmp 12) (.const (.bool false)), none⟩,
 ⟨some 14, .mov (.tmp 13), none⟩,
 ⟨some 15, .mov (.tmp 0), (some (14, true))⟩,
 ⟨some 16, .idxs (.tmp 15) (.const (.int .i64 0)), (some (14, true))⟩,
 ⟨some 17, .bin .geq 5 (.tmp 16) (.const (.int .u8 97)), (some (14, true))⟩,
 ⟨some 18, .pick (.tmp 14) (.tmp 17) (.const (.bool false)), none⟩,
 ⟨some 19, .mov (.tmp 18), none⟩,
 ⟨some 20, .mov (.tmp 0), (some (19, true))⟩,
 ⟨some 21, .idxs (.tmp 20) (.const (.int .i64 0)), (some (19, true))⟩,
 ⟨some 22, .bin .leq 5 (.tmp 21) (.const (.int .u8 122)), (some (19, true))⟩,
 ⟨some 23, .pick (.tmp 19) (.tmp 22) (.const (.bool false)), none⟩,
 ⟨some 3, .mov (.tmp 23), none⟩] [6, 7, 8, 9, 10, 11, 12, 13, 14, 15, 16, 17, 18, 19, 20, 21, 22, 23])
 (.seq
 (.seq
 (.region false [
 ⟨some 4, .mov (.const (.int .i64 0)), none⟩] [])
 (.block 0
 (.loop
 (.seq
 (.seq
 (.region false [
 ⟨some 24, .mov (.tmp 4), none⟩,
 ⟨some 25, .mov (.tmp 0), none⟩,
 ⟨some 26, .lens (.tmp 25), none⟩,
 ⟨some 27, .bin .lss 3 (.tmp 24) (.tmp 26), none⟩] [24, 25, 26])
 (.cond (.tmp 27)
 .skip
 (.exit 0)))
 (.seq
 (.block 1
 (.seq
 (.region false [
 ⟨some 30, .mov (.tmp 0), none⟩,
 ⟨some 31, .mov (.tmp 4), none⟩,
 ⟨some 32, .idxs (.tmp 30) (.tmp 31), none⟩,
 ⟨some 5, .mov (.tmp 32), none⟩] [27, 30, 31, 32])
 (.region false [
 ⟨some 33, .mov (.tmp 3), none⟩,
 ⟨some 34, .mov (.tmp 33), none⟩,
 ⟨some 35, .mov (.tmp 5), (some (34, true))⟩,
 ⟨some 36, .bin .geq 5 (.tmp 35) (.const (.int .u8 97)), (some (34, true))⟩,
 ⟨some 37, .mov (.tmp 36), (some (34, true))⟩,
 ⟨some 38, .mov (.tmp 5), (some (37, true))⟩,
 ⟨some 39, .bin .leq 5 (.tmp 38) (.const (.int .u8 122)), (some (37, true))⟩,
 ⟨some 40, .pick (.tmp 37) (.tmp 39) (.const (.bool false)), (some (34, true))⟩,
 ⟨some 41, .mov (.tmp 40), (some (34, true))⟩,
 ⟨some 42, .mov (.tmp 5), (some (41, false))⟩,
 ⟨some 43, .bin .geq 5 (.tmp 42) (.const (.int .u8 48)), (some (41, false))⟩,
 ⟨some 44, .mov (.tmp 43), (some (41, false))⟩,
 ⟨some 45, .mov (.tmp 5), (some (44, true))⟩,
 ⟨some 46, .bin .leq 5 (.tmp 45) (.const (.int .u8 57)), (some (44, true))⟩,
 ⟨some 47, .pick (.tmp 44) (.tmp 46) (.const (.bool false)), (some (41, false))⟩,
 ⟨some 48, .pick (.tmp 41) (.const (.bool true)) (.tmp 47), (some (34, true))⟩,
 ⟨some 49, .mov (.tmp 48), (some (34, true))⟩,
 ⟨some 50, .mov (.tmp 5), (some (49, false))⟩,
 ⟨some 51, .bin .eql 5 (.tmp 50) (.const (.int .u8 45)), (some (49, false))⟩,
 ⟨some 52, .pick (.tmp 49) (.const (.bool true)) (.tmp 51), (some (34, true))⟩,
 ⟨some 53, .pick (.tmp 34) (.tmp 52) (.const (.bool false)), none⟩,
 ⟨some 3, .mov (.tmp 53), none⟩] [5, 33, 34, 35, 36, 37, 38, 39, 40, 41, 42, 43, 44, 45, 46, 47, 48, 49, 50, 51, 52, 53])) [])
 (.region false [
 ⟨some 28, .mov (.tmp 4), none⟩,
 ⟨some 29, .bin .add 3 (.tmp 28) (.const (.int .i64 1)), none⟩,
 ⟨some 4, .mov (.tmp 29), none⟩] [28, 29]))) [] []) [0, 4, 27]))
 (.seq
 (.seq
 (.region false [
 ⟨some 54, .mov (.tmp 3), none⟩,
 ⟨some 55, .un .not (.tmp 54), none⟩] [3, 54])
 (.cond (.tmp 55)
 (.seq
 (.region false [
 ⟨some 2, .mov (.const (.int .i64 109)), none⟩] [55])
 .ret)
 .skip))
 (.seq
 (.region false [
 ⟨some 2, .mov (.const (.int .i64 0)), none⟩] [55])
 .ret)))))
abbrev v_q192 : List RV := [.tmp 2]
abbrev f_q192 : FuncId := 195
theorem k_q192 : closedOf Tryz.prog Tryz.f195 = (false, some true, some v_q192, some c_q192.plain, 56) := by kernel_rfl
theorem ac_q192 {args : List AV} {r : AV} (h : aw Tryz.prog c_q192 (env0 args) (endQ v_q192 r)) (hargs : args.length ≤ 56 := by decide) (hok : resOK r = true := by rfl) : AC Tryz.prog f_q192 args r :=
  AC_mk (by kernel_rfl) Tryz.func195 k_q192 hargs hok (by decide) h
def c_q193 : ACode :=
 (.seq
 (.region false [
 ⟨some 2, .box (.tmp 0), none⟩,
 ⟨some 3, .box (.tmp 1), none⟩,
 ⟨some 4, .mov (.const (.bool false)), none⟩] [0, 1, 4])
 (.seq
 (.region false [
 ⟨some 5, .load true 2 (.tmp 2), none⟩,
 ⟨some 6, .callm 140 [.tmp 5], none⟩,
 ⟨some 7, .mov (.tmp 6), none⟩,
 ⟨some 8, .faddr 1 1 (.tmp 2), (some (7, true))⟩,
 ⟨some 9, .load false 1 (.tmp 8), (some (7, true))⟩,
 ⟨some 10, .faddr 1 1 (.tmp 3), (some (7, true))⟩,
 ⟨some 11, .load false 1 (.tmp 10), (some (7, true))⟩,
 ⟨some 12, .bin .geq 3 (.tmp 9) (.tmp 11), (some (7, true))⟩,
 ⟨some 13, .pick (.tmp 7) (.tmp 12) (.const (.bool false)), none⟩,
 ⟨some 14, .mov (.tmp 13), none⟩,
 ⟨some 15, .load true 2 (.tmp 3), (some (14, true))⟩,
 ⟨some 16, .faddr 0 1 (.tmp 2), (some (14, true))⟩,
 ⟨some 17, .load false 1 (.tmp 16), (some (14, true))⟩,
 ⟨some 18, .callm 93 [.tmp 15, .tmp 17], (some (14, true))⟩,
 ⟨some 19, .pick (.tmp 14) (.tmp 18) (.const (.bool false)), none⟩,
 ⟨some 4, .mov (.tmp 19), none⟩] [2, 3, 5, 6, 7, 8, 9, 10, 11, 12, 13, 14, 15, 16, 17, 18, 19])
 .ret))
abbrev v_q193 : List RV := [.tmp 4]
abbrev f_q193 : FuncId := 196
theorem k_q193 : closedOf Tryz.prog Tryz.f196 = (false, some true, some v_q193, some c_q193.plain, 20) := by kernel_rfl
theorem ac_q193 {args : List AV} {r : AV} (h : aw Tryz.prog c_q193 (env0 args) (endQ v_q193 r)) (hargs : args.length ≤ 20 := by decide) (hok : resOK r = true := by rfl) : AC Tryz.prog f_q193 args r :=
  AC_mk (by kernel_rfl) Tryz.func196 k_q193 hargs hok (by decide) h
def c_q194 : ACode :=
 (.seq
 (.region false [
 ⟨some 4, .mov (.const (.bool false)), none⟩] [4])
 (.seq
 (.region false [
 ⟨some 5, .mov (.tmp 0), none⟩,
 ⟨some 6, .bin .geq 3 (.tmp 5) (.const (.int .i64 0)), none⟩,
 ⟨some 7, .mov (.tmp 6), none⟩,
 ⟨some 8, .mov (.tmp 0), (some (7, true))⟩,
 ⟨some 9, .mov (.tmp 1), (some (7, true))⟩,
 ⟨some 10, .bin .lss 3 (.tmp 8) (.tmp 9), (some (7, true))⟩,
 ⟨some 11, .pick (.tmp 7) (.tmp 10) (.const (.bool false)), none⟩,
 ⟨some 4, .mov (.tmp 11), none⟩] [0, 1, 5, 6, 7, 8, 9, 10, 11])
 .ret))
abbrev v_q194 : List RV := [.tmp 4]
abbrev f_q194 : FuncId := 197
theorem k_q194 : closedOf Tryz.prog Tryz.f197 = (false, some true, some v_q194, some c_q194.plain, 12) := by kernel_rfl
theorem ac_q194 {args : List AV} {r : AV} (h : aw Tryz.prog c_q194 (env0 args) (endQ v_q194 r)) (hargs : args.length ≤ 12 := by decide) (hok : resOK r = true := by rfl) : AC Tryz.prog f_q194 args r :=
  AC_mk (by kernel_rfl) Tryz.func197 k_q194 hargs hok (by decide) h
def c_q195 : ACode :=
 (.seq
 (.region false [
 ⟨some 2, .mov (.const (.bool false)), none⟩] [2])
 (.seq
 (.region false [
 ⟨some 3, .mov (.tmp 0), none⟩,
 ⟨some 4, .bin .shr 32 (.tmp 3) (.const (.int .u64 28)), none⟩,
 ⟨some 5, .bin .eql 32 (.tmp 4) (.const (.int .u32 14)), none⟩,
 ⟨some 2, .mov (.tmp 5), none⟩] [0, 3, 4, 5])
 .ret))
abbrev v_q195 : List RV := [.tmp 2]
abbrev f_q195 : FuncId := 198
theorem k_q195 : closedOf Tryz.prog Tryz.f198 = (false, some true, some v_q195, some c_q195.plain, 6) := by kernel_rfl
theorem ac_q195 {args : List AV} {r : AV} (h : aw Tryz.prog c_q195 (env0 args) (endQ v_q195 r)) (hargs : args.length ≤ 6 := by decide) (hok : resOK r = true := by rfl) : AC Tryz.prog f_q195 args r :=
  AC_mk (by kernel_rfl) Tryz.func198 k_q195 hargs hok (by decide) h
def c_q196 : ACode :=
 (.seq
 (.region false [
 ⟨some 2, .box (.tmp 0), none⟩,
 ⟨some 3, .box (.tmp 1), none⟩,
 ⟨some 4, .mov (.const (.bool false)), none⟩] [0, 1, 4])
 (.seq
 (.region false [
 ⟨some 5, .faddr 0 1 (.tmp 2), none⟩,
 ⟨some 6, .load false 1 (.tmp 5), none⟩,
 ⟨some 7, .faddr 0 1 (.tmp 3), none⟩,
 ⟨some 8, .load false 1 (.tmp 7), none⟩,
 ⟨some 9, .bin .eql 32 (.tmp 6) (.tmp 8), none⟩,
 ⟨some 10, .mov (.tmp 9), none⟩,
 ⟨some 11, .faddr 1 1 (.tmp 2), (some (10, true))⟩,
 ⟨some 12, .load false 1 (.tmp 11), (some (10, true))⟩,
 ⟨some 13, .faddr 1 1 (.tmp 3), (some (10, true))⟩,
 ⟨some 14, .load false 1 (.tmp 13), (some (10, true))⟩,
 ⟨some 15, .bin .eql 3 (.tmp 12) (.tmp 14), (some (10, true))⟩,
 ⟨some 16, .pick (.tmp 10) (.tmp 15) (.const (.bool false)), none⟩,
 ⟨some 4, .mov (.tmp 16), none⟩] [2, 3, 5, 6, 7, 8, 9, 10, 11, 12, 13, 14, 15, 16])
 .ret))
abbrev v_q196 : List RV := [.tmp 4]
abbrev f_q196 : FuncId := 199
theorem k_q196 : closedOf Tryz.prog Tryz.f199 = (false, some true, some v_q196, some c_q196.plain, 17) := by kernel_rfl
theorem ac_q196 {args : List AV} {r : AV} (h : aw Tryz.prog c_q196 (env0 args) (endQ v_q196 r)) (hargs : args.length ≤ 17 := by decide) (hok : resOK r = true := by rfl) : AC Tryz.prog f_q196 args r :=
  AC_mk (by kernel_rfl) Tryz.func199 k_q196 hargs hok (by decide) h
def c_q197 : ACode :=
 (.seq
 (.region false [
 ⟨some 2, .box (.tmp 0), none⟩,
 ⟨some 3, .box (.tmp 1), none⟩,
 ⟨some 4, .mov (.const (.bool false)), none⟩] [0, 1, 4])
 (.seq
 (.region false [
 ⟨some 5, .faddr 0 1 (.tmp 2), none⟩,
 ⟨some 6, .load false 1 (.tmp 5), none⟩,
 ⟨some 7, .faddr 0 1 (.tmp 3), none⟩,
 ⟨some 8, .load false 1 (.tmp 7), none⟩,
 ⟨some 9, .bin .eql 32 (.tmp 6) (.tmp 8), none⟩,
 ⟨some 10, .mov (.tmp 9), none⟩,
 ⟨some 11, .faddr 1 1 (.tmp 2), (some (10, true))⟩,
 ⟨some 12, .load false 1 (.tmp 11), (some (10, true))⟩,
 ⟨some 13, .faddr 1 1 (.tmp 3), (some (10, true))⟩,
 ⟨some 14, .load false 1 (.tmp 13), (some (10, true))⟩,
 ⟨some 15, .bin .eql 32 (.tmp 12) (.tmp 14), (some (10, true))⟩,
 ⟨some 16, .pick (.tmp 10) (.tmp 15) (.const (.bool false)), none⟩,
 ⟨some 4, .mov (.tmp 16), none⟩] [2, 3, 5, 6, 7, 8, 9, 10, 11, 12, 13, 14, 15, 16])
 .ret))
abbrev v_q197 : List RV := [.tmp 4]
abbrev f_q197 : FuncId := 200
theorem k_q197 : closedOf Tryz.prog Tryz.f200 = (false, some true, some v_q197, some c_q197.plain, 17) := by kernel_rfl
theorem ac_q197 {args : List AV} {r : AV} (h : aw Tryz.prog c_q197 (env0 args) (endQ v_q197 r)) (hargs : args.length ≤ 17 := by decide) (hok : resOK r = true := by rfl) : AC Tryz.prog f_q197 args r :=
  AC_mk (by kernel_rfl) Tryz.func200 k_q197 hargs hok (by decide) h
def c_q202 : ACode :=
 (.seq
 (.region false [
 ⟨some 2, .mov (.const (.bool false)), none⟩] [2])
 (.seq
 (.region false [
 ⟨some 3, .mov (.tmp 0), none⟩,
 ⟨some 4, .bin .geq 5 (.tmp 3) (.const (.int .u8 97)), none⟩,
 ⟨some 5, .mov (.tmp 4), none⟩,
 ⟨some 6, .mov (.tmp 0), (some (5, true))⟩,
 ⟨some 7, .bin .leq 5 (.tmp 6) (.const (.int .u8 122)), (some (5, true))⟩,
 ⟨some 8, .pick (.tmp 5) (.tmp 7) (.const (.bool false)), none⟩,
 ⟨some 2, .mov (.tmp 8), none⟩] [0, 3, 4, 5, 6, 7, 8])
 .ret))
abbrev v_q202 : List RV := [.tmp 2]
abbrev f_q202 : FuncId := 205
theorem k_q202 : closedOf Tryz.prog Tryz.f205 = (false, some true, some v_q202, some c_q202.plain, 9) := by kernel_rfl
theorem ac_q202 {args : List AV} {r : AV} (h : aw Tryz.prog c_q202 (env0 args) (endQ v_q202 r)) (hargs : args.length ≤ 9 := by decide) (hok : resOK r = true := by rfl) : AC Tryz.prog f_q202 args r :=
  AC_mk (by kernel_rfl) Tryz.func205 k_q202 hargs hok (by decide) h
def c_q203 : ACode :=
 (.seq
 (.region false [
 ⟨some 4, .mov (.const (.int .i64 0)), none⟩] [4])
 (.seq
 (.seq
 (.region false [
 ⟨some 6, .mov (.tmp 0), none⟩,
 ⟨some 7, .lenl (.tmp 6), none⟩,
 ⟨some 8, .mov (.const (.int .i64 0)), none⟩] [6])
 (.block 0
 (.loop
 (.seq
 (.region false [
 ⟨some 9, .bin .lss 3 (.tmp 8) (.tmp 7), none⟩] [])
 (.seq
 (.cond (.tmp 9)
 .skip
 (.exit 0))
 (.seq
 (.block 1
 (.seq
 (.region false [
 ⟨some 10, .mov (.tmp 8), none⟩,
 ⟨some 5, .mov (.tmp 10), none⟩] [9, 10])
 (.seq
 (.region false [
 ⟨some 11, .mov (.tmp 1), none⟩,
 ⟨some 12, .mov (.tmp 0), none⟩,
 ⟨some 13, .mov (.tmp 5), none⟩,
 ⟨some 14, .iaddr 2 (.tmp 12) (.tmp 13), none⟩,
 ⟨some 15, .load true 2 (.tmp 14), none⟩,
 ⟨some 16, .callvm (.tmp 11) [.tmp 15], none⟩] [11, 12, 13, 14, 15])
 (.cond (.tmp 16)
 (.seq
 (.region false [
 ⟨some 17, .mov (.tmp 5), none⟩,
 ⟨some 4, .mov (.tmp 17), none⟩] [0, 1, 5, 7, 8, 16, 17])
 .ret)
 .skip))) [5, 16])
 (.region false [
 ⟨some 18, .bin .add 3 (.tmp 8) (.const (.int .i64 1)), none⟩,
 ⟨some 8, .mov (.tmp 18), none⟩] [18])))) [] []) [0, 1, 7, 8, 9]))
 (.seq
 (.region false [
 ⟨some 4, .mov (.const (.int .i64 (-1))), none⟩] [])
 .ret)))
abbrev v_q203 : List RV := [.tmp 4]
abbrev f_q203 : FuncId := 206
theorem k_q203 : closedOf Tryz.prog Tryz.f206 = (false, some true, some v_q203, some c_q203.plain, 19) := by kernel_rfl
theorem ac_q203 {args : List AV} {r : AV} (h : aw Tryz.prog c_q203 (env0 args) (endQ v_q203 r)) (hargs : args.length ≤ 19 := by decide) (hok : resOK r = true := by rfl) : AC Tryz.prog f_q203 args r :=
  AC_mk (by kernel_rfl) Tryz.func206 k_q203 hargs hok (by decide) h
def c_q204 : ACode :=
 (.seq
 (.region false [
 ⟨some 4, .mov (.const (.int .i64 0)), none⟩] [4])
 (.seq
 (.seq
 (.region false [
 ⟨some 6, .mov (.tmp 0), none⟩,
 ⟨some 7, .lenl (.tmp 6), none⟩,
 ⟨some 8, .mov (.const (.int .i64 0)), none⟩] [6])
 (.block 0
 (.loop
 (.seq
 (.region false [
 ⟨some 9, .bin .lss 3 (.tmp 8) (.tmp 7), none⟩] [])
 (.seq
 (.cond (.tmp 9)
 .skip
 (.exit 0))
 (.seq
 (.block 1
 (.seq
 (.region false [
 ⟨some 10, .mov (.tmp 8), none⟩,
 ⟨some 5, .mov (.tmp 10), none⟩] [9, 10])
 (.seq
 (.region false [
 ⟨some 11, .mov (.tmp 1), none⟩,
 ⟨some 12, .mov (.tmp 0), none⟩,
 ⟨some 13, .mov (.tmp 5), none⟩,
 ⟨some 14, .iaddr 3 (.tmp 12) (.tmp 13), none⟩,
 ⟨some 15, .load true 3 (.tmp 14), none⟩,
 ⟨some 16, .callvm (.tmp 11) [.tmp 15], none⟩] [11, 12, 13, 14, 15])
 (.cond (.tmp 16)
 (.seq
 (.region false [
 ⟨some 17, .mov (.tmp 5), none⟩,
 ⟨some 4, .mov (.tmp 17), none⟩] [0, 1, 5, 7, 8, 16, 17])
 .ret)
 .skip))) [5, 16])
 (.region false [
 ⟨some 18, .bin .add 3 (.tmp 8) (.const (.int .i64 1)), none⟩,
 ⟨some 8, .mov (.tmp 18), none⟩] [18])))) [] []) [0, 1, 7, 8, 9]))
 (.seq
 (.region false [
 ⟨some 4, .mov (.const (.int .i64 (-1))), none⟩] [])
 .ret)))
abbrev v_q204 : List RV := [.tmp 4]
abbrev f_q204 : FuncId := 207
theorem k_q204 : closedOf Tryz.prog Tryz.f207 = (false, some true, some v_q204, some c_q204.plain, 19) := by kernel_rfl
theorem ac_q204 {args : List AV} {r : AV} (h : aw Tryz.prog c_q204 (env0 args) (endQ v_q204 r)) (hargs : args.length ≤ 19 := by decide) (hok : resOK r = true := by rfl) : AC Tryz.prog f_q204 args r :=
  AC_mk (by kernel_rfl) Tryz.func207 k_q204 hargs hok (by decide) h
def c_q205 : ACode :=
 (.seq
 (.region false [
 ⟨some 1, .box (.tmp 0), none⟩,
 ⟨some 2, .mov (.const (.int .u32 0)), none⟩] [0, 2])
 (.seq
 (.region false [
 ⟨some 3, .mov (.const (.int .u32 0)), none⟩] [])
 (.seq
 (.seq
 (.region false [
 ⟨some 6, .load true 4 (.tmp 1), none⟩,
 ⟨some 7, .mov (.const (.int .i64 0)), none⟩] [1])
 (.block 0
 (.loop
 (.seq
 (.region false [
 ⟨some 8, .bin .lss 3 (.tmp 7) (.const (.int .i64 4)), none⟩] [])
 (.seq
 (.cond (.tmp 8)
 .skip
 (.exit 0))
 (.seq
 (.block 1
 (.seq
 (.region false [
 ⟨some 9, .idxa false 4 1 (.tmp 6) (.tmp 7), none⟩,
 ⟨some 5, .mov (.tmp 9), none⟩] [8, 9])
 (.region false [
 ⟨some 10, .mov (.tmp 3), none⟩,
 ⟨some 11, .bin .shl 32 (.tmp 10) (.const (.int .u64 8)), none⟩,
 ⟨some 12, .mov (.tmp 5), none⟩,
 ⟨some 13, .cint .u32 (.tmp 12), none⟩,
 ⟨some 14, .bin .or 32 (.tmp 11) (.tmp 13), none⟩,
 ⟨some 3, .mov (.tmp 14), none⟩] [5, 10, 11, 12, 13, 14])) [])
 (.region false [
 ⟨some 15, .bin .add 3 (.tmp 7) (.const (.int .i64 1)), none⟩,
 ⟨some 7, .mov (.tmp 15), none⟩] [15])))) [] []) [6, 7, 8]))
 (.seq
 (.region false [
 ⟨some 16, .mov (.tmp 3), none⟩,
 ⟨some 2, .mov (.tmp 16), none⟩] [3, 16])
 .ret))))
abbrev v_q205 : List RV := [.tmp 2]
abbrev f_q205 : FuncId := 208
theorem k_q205 : closedOf Tryz.prog Tryz.f208 = (false, some true, some v_q205, some c_q205.plain, 17) := by kernel_rfl
theorem ac_q205 {args : List AV} {r : AV} (h : aw Tryz.prog c_q205 (env0 args) (endQ v_q205 r)) (hargs : args.length ≤ 17 := by decide) (hok : resOK r = true := by rfl) : AC Tryz.prog f_q205 args r :=
  AC_mk (by kernel_rfl) Tryz.func208 k_q205 hargs hok (by decide) h
def c_q206 : ACode :=
 (.seq
 (.region false [
 ⟨some 4, .mov (.const (.int .i64 0)), none⟩] [4])
 (.seq
 (.seq
 (.region false [
 ⟨some 6, .mov (.tmp 0), none⟩,
 ⟨some 7, .lenl (.tmp 6), none⟩,
 ⟨some 8, .mov (.const (.int .i64 0)), none⟩] [6])
 (.block 0
 (.loop
 (.seq
 (.region false [
 ⟨some 9, .bin .lss 3 (.tmp 8) (.tmp 7), none⟩] [])
 (.seq
 (.cond (.tmp 9)
 .skip
 (.exit 0))
 (.seq
 (.block 1
 (.seq
 (.region false [
 ⟨some 10, .mov (.tmp 8), none⟩,
 ⟨some 5, .mov (.tmp 10), none⟩] [9, 10])
 (.seq
 (.region false [
 ⟨some 11, .mov (.tmp 1), none⟩,
 ⟨some 12, .mov (.tmp 0), none⟩,
 ⟨some 13, .mov (.tmp 5), none⟩,
 ⟨some 14, .iaddr 3 (.tmp 12) (.tmp 13), none⟩,
 ⟨some 15, .load true 3 (.tmp 14), none⟩,
 ⟨some 16, .callvm (.tmp 11) [.tmp 15], none⟩] [11, 12, 13, 14, 15])
 (.cond (.tmp 16)
 (.seq
 (.region false [
 ⟨some 17, .mov (.tmp 5), none⟩,
 ⟨some 4, .mov (.tmp 17), none⟩] [0, 1, 5, 7, 8, 16, 17])
 .ret)
 .skip))) [5, 16])
 (.region false [
 ⟨some 18, .bin .add 3 (.tmp 8) (.const (.int .i64 1)), none⟩,
 ⟨some 8, .mov (.tmp 18), none⟩] [18])))) [] []) [0, 1, 7, 8, 9]))
 (.seq
 (.region false [
 ⟨some 4, .mov (.const (.int .i64 (-1))), none⟩] [])
 .ret)))
abbrev v_q206 : List RV := [.tmp 4]
abbrev f_q206 : FuncId := 209
theorem k_q206 : closedOf Tryz.prog Tryz.f209 = (false, some true, some v_q206, some c_q206.plain, 19) := by kernel_rfl
theorem ac_q206 {args : List AV} {r : AV} (h : aw Tryz.prog c_q206 (env0 args) (endQ v_q206 r)) (hargs : args.length ≤ 19 := by decide) (hok : resOK r = true := by rfl) : AC Tryz.prog f_q206 args r :=
  AC_mk (by kernel_rfl) Tryz.func209 k_q206 hargs hok (by decide) h
def c_q207 : ACode :=
 (.seq
 (.region false [
 ⟨some 4, .mov (.const (.int .i64 0)), none⟩] [4])
 (.seq
 (.seq
 (.region false [
 ⟨some 6, .mov (.tmp 0), none⟩,
 ⟨some 7, .lenl (.tmp 6), none⟩,
 ⟨some 8, .mov (.const (.int .i64 0)), none⟩] [6])
 (.block 0
 (.loop
 (.seq
 (.region false [
 ⟨some 9, .bin .lss 3 (.tmp 8) (.tmp 7), none⟩] [])
 (.seq
 (.cond (.tmp 9)
 .skip
 (.exit 0))
 (.seq
 (.block 1
 (.seq
 (.region false [
 ⟨some 10, .mov (.tmp 8), none⟩,
 ⟨some 5, .mov (.tmp 10), none⟩] [9, 10])
 (.seq
 (.region false [
 ⟨some 11, .mov (.tmp 1), none⟩,
 ⟨some 12, .mov (.tmp 0), none⟩,
 ⟨some 13, .mov (.tmp 5), none⟩,
 ⟨some 14, .iaddr 3 (.tmp 12) (.tmp 13), none⟩,
 ⟨some 15, .load true 3 (.tmp 14), none⟩,
 ⟨some 16, .callvm (.tmp 11) [.tmp 15], none⟩] [11, 12, 13, 14, 15])
 (.cond (.tmp 16)
 (.seq
 (.region false [
 ⟨some 17, .mov (.tmp 5), none⟩,
 ⟨some 4, .mov (.tmp 17), none⟩] [0, 1, 5, 7, 8, 16, 17])
 .ret)
 .skip))) [5, 16])
 (.region false [
 ⟨some 18, .bin .add 3 (.tmp 8) (.const (.int .i64 1)), none⟩,
 ⟨some 8, .mov (.tmp 18), none⟩] [18])))) [] []) [0, 1, 7, 8, 9]))
 (.seq
 (.region false [
 ⟨some 4, .mov (.const (.int .i64 (-1))), none⟩] [])
 .ret)))
abbrev v_q207 : List RV := [.tmp 4]
abbrev f_q207 : FuncId := 210
theorem k_q207 : closedOf Tryz.prog Tryz.f210 = (false, some true, some v_q207, some c_q207.plain, 19) := by kernel_rfl
theorem ac_q207 {args : List AV} {r : AV} (h : aw Tryz.prog c_q207 (env0 args) (endQ v_q207 r)) (hargs : args.length ≤ 19 := by decide) (hok : resOK r = true := by rfl) : AC Tryz.prog f_q207 args r :=
  AC_mk (by kernel_rfl) Tryz.func210 k_q207 hargs hok (by decide) h
def c_q208 : ACode :=
 (.seq
 (.region false [
 ⟨some 4, .mov (.const (.int .i64 0)), none⟩] [4])
 (.seq
 (.seq
 (.region false [
 ⟨some 6, .mov (.tmp 0), none⟩,
 ⟨some 7, .lenl (.tmp 6), none⟩,
 ⟨some 8, .mov (.const (.int .i64 0)), none⟩] [6])
 (.block 0
 (.loop
 (.seq
 (.region false [
 ⟨some 9, .bin .lss 3 (.tmp 8) (.tmp 7), none⟩] [])
 (.seq
 (.cond (.tmp 9)
 .skip
 (.exit 0))
 (.seq
 (.block 1
 (.seq
 (.region false [
 ⟨some 10, .mov (.tmp 8), none⟩,
 ⟨some 5, .mov (.tmp 10), none⟩] [9, 10])
 (.seq
 (.region false [
 ⟨some 11, .mov (.tmp 1), none⟩,
 ⟨some 12, .mov (.tmp 0), none⟩,
 ⟨some 13, .mov (.tmp 5), none⟩,
 ⟨some 14, .iaddr 3 (.tmp 12) (.tmp 13), none⟩,
 ⟨some 15, .load true 3 (.tmp 14), none⟩,
 ⟨some 16, .callvm (.tmp 11) [.tmp 15], none⟩] [11, 12, 13, 14, 15])
 (.cond (.tmp 16)
 (.seq
 (.region false [
 ⟨some 17, .mov (.tmp 5), none⟩,
 ⟨some 4, .mov (.tmp 17), none⟩] [0, 1, 5, 7, 8, 16, 17])
 .ret)
 .skip))) [5, 16])
 (.region false [
 ⟨some 18, .bin .add 3 (.tmp 8) (.const (.int .i64 1)), none⟩,
 ⟨some 8, .mov (.tmp 18), none⟩] [18])))) [] []) [0, 1, 7, 8, 9]))
 (.seq
 (.region false [
 ⟨some 4, .mov (.const (.int .i64 (-1))), none⟩] [])
 .ret)))
abbrev v_q208 : List RV := [.tmp 4]
abbrev f_q208 : FuncId := 211
theorem k_q208 : closedOf Tryz.prog Tryz.f211 = (false, some true, some v_q208, some c_q208.plain, 19) := by kernel_rfl
theorem ac_q208 {args : List AV} {r : AV} (h : aw Tryz.prog c_q208 (env0 args) (endQ v_q208 r)) (hargs : args.length ≤ 19 := by decide) (hok : resOK r = true := by rfl) : AC Tryz.prog f_q208 args r :=
  AC_mk (by kernel_rfl) Tryz.func211 k_q208 hargs hok (by decide) h
def c_q209 : ACode :=
 (.seq
 (.region false [
 ⟨some 2, .mov (.const (.slice none 0 0)), none⟩] [2])
 (.seq
 (.region false [
 ⟨some 3, .mov (.tmp 0), none⟩,
 ⟨some 4, .callm 226 [.const (.slice none 0 0), .tmp 3], none⟩,
 ⟨some 2, .mov (.tmp 4), none⟩] [0, 3, 4])
 .ret))
abbrev v_q209 : List RV := [.tmp 2]
abbrev f_q209 : FuncId := 212
theorem k_q209 : closedOf Tryz.prog Tryz.f212 = (false, some true, some v_q209, some c_q209.plain, 5) := by kernel_rfl
theorem ac_q209 {args : List AV} {r : AV} (h : aw Tryz.prog c_q209 (env0 args) (endQ v_q209 r)) (hargs : args.length ≤ 5 := by decide) (hok : resOK r = true := by rfl) : AC Tryz.prog f_q209 args r :=
  AC_mk (by kernel_rfl) Tryz.func212 k_q209 hargs hok (by decide) h
abbrev f_q210 : FuncId := 213
def c_q211 : ACode :=
 (.seq
 (.region false [
 ⟨some 10, .mov (.tmp 1), none⟩,
 ⟨some 8, .mov (.tmp 10), none⟩] [1, 10])
 (.block 0
 (.loop
 (.block 1
 (.seq
 (.region false [
 ⟨some 11, .mov (.tmp 8), none⟩,
 ⟨some 12, .bin .mul 3 (.const (.int .i64 2)) (.tmp 11), none⟩,
 ⟨some 13, .bin .add 3 (.tmp 12) (.const (.int .i64 1)), none⟩,
 ⟨some 9, .mov (.tmp 13), none⟩] [11, 12, 13])
 (.seq
 (.seq
 (.region false [
 ⟨some 14, .mov (.tmp 9), none⟩,
 ⟨some 15, .mov (.tmp 2), none⟩,
 ⟨some 16, .bin .geq 3 (.tmp 14) (.tmp 15), none⟩] [14, 15])
 (.cond (.tmp 16)
 (.exit 0)
 .skip))
 (.seq
 (.seq
 (.region true [
 ⟨some 17, .mov (.tmp 9), none⟩,
 ⟨some 18, .bin .add 3 (.tmp 17) (.const (.int .i64 1)), none⟩,
 ⟨some 19, .mov (.tmp 2), none⟩,
 ⟨some 20, .bin .lss 3 (.tmp 18) (.tmp 19), none⟩,
 ⟨some 21, .mov (.tmp 20), none⟩,
 ⟨some 22, .mov (.tmp 0), (some (21, true))⟩,
 ⟨some 23, .mov (.tmp 3), (some (21, true))⟩,
 ⟨some 24, .mov (.tmp 9), (some (21, true))⟩,
 ⟨some 25, .bin .add 3 (.tmp 23) (.tmp 24), (some (21, true))⟩,
 ⟨some 26, .iaddr 1 (.tmp 22) (.tmp 25), (some (21, true))⟩,
 ⟨some 27, .load false 1 (.tmp 26), (some (21, true))⟩,
 ⟨some 28, .mov (.tmp 0), (some (21, true))⟩,
 ⟨some 29, .mov (.tmp 3), (some (21, true))⟩,
 ⟨some 30, .mov (.tmp 9), (some (21, true))⟩,
 ⟨some 31, .bin .add 3 (.tmp 29) (.tmp 30), (some (21, true))⟩,
 ⟨some 32, .bin .add 3 (.tmp 31) (.const (.int .i64 1)), (some (21, true))⟩,
 ⟨some 33, .iaddr 1 (.tmp 28) (.tmp 32), (some (21, true))⟩,
 ⟨some 34, .load false 1 (.tmp 33), (some (21, true))⟩,
 ⟨some 35, .call 190 [.tmp 27, .tmp 34], (some (21, true))⟩,
 ⟨some 36, .pick (.tmp 21) (.tmp 35) (.const (.bool false)), none⟩] [16, 17, 18, 19, 20, 21, 22, 23, 24, 25, 26, 27, 28, 29, 30, 31, 32, 33, 34, 35])
 (.cond (.tmp 36)
 (.region false [
 ⟨some 37, .mov (.tmp 9), none⟩,
 ⟨some 38, .bin .add 3 (.tmp 37) (.const (.int .i64 1)), none⟩,
 ⟨some 9, .mov (.tmp 38), none⟩] [36, 37, 38])
 .skip))
 (.seq
 (.seq
 (.region true [
 ⟨some 39, .mov (.tmp 0), none⟩,
 ⟨some 40, .mov (.tmp 3), none⟩,
 ⟨some 41, .mov (.tmp 8), none⟩,
 ⟨some 42, .bin .add 3 (.tmp 40) (.tmp 41), none⟩,
 ⟨some 43, .iaddr 1 (.tmp 39) (.tmp 42), none⟩,
 ⟨some 44, .load false 1 (.tmp 43), none⟩,
 ⟨some 45, .mov (.tmp 0), none⟩,
 ⟨some 46, .mov (.tmp 3), none⟩,
 ⟨some 47, .mov (.tmp 9), none⟩,
 ⟨some 48, .bin .add 3 (.tmp 46) (.tmp 47), none⟩,
 ⟨some 49, .iaddr 1 (.tmp 45) (.tmp 48), none⟩,
 ⟨some 50, .load false 1 (.tmp 49), none⟩,
 ⟨some 51, .call 190 [.tmp 44, .tmp 50], none⟩,
 ⟨some 52, .un .not (.tmp 51), none⟩] [36, 39, 40, 41, 42, 43, 44, 45, 46, 47, 48, 49, 50, 51])
 (.cond (.tmp 52)
 .ret
 .skip))
 (.seq
 (.region true [
 ⟨some 53, .mov (.tmp 0), none⟩,
 ⟨some 54, .mov (.tmp 3), none⟩,
 ⟨some 55, .mov (.tmp 8), none⟩,
 ⟨some 56, .bin .add 3 (.tmp 54) (.tmp 55), none⟩,
 ⟨some 57, .mov (.tmp 0), none⟩,
 ⟨some 58, .mov (.tmp 3), none⟩,
 ⟨some 59, .mov (.tmp 9), none⟩,
 ⟨some 60, .bin .add 3 (.tmp 58) (.tmp 59), none⟩,
 ⟨some 61, .mov (.tmp 0), none⟩,
 ⟨some 62, .mov (.tmp 3), none⟩,
 ⟨some 63, .mov (.tmp 9), none⟩,
 ⟨some 64, .bin .add 3 (.tmp 62) (.tmp 63), none⟩,
 ⟨some 65, .iaddr 1 (.tmp 61) (.tmp 64), none⟩,
 ⟨some 66, .load false 1 (.tmp 65), none⟩,
 ⟨some 67, .mov (.tmp 0), none⟩,
 ⟨some 68, .mov (.tmp 3), none⟩,
 ⟨some 69, .mov (.tmp 8), none⟩,
 ⟨some 70, .bin .add 3 (.tmp 68) (.tmp 69), none⟩,
 ⟨some 71, .iaddr 1 (.tmp 67) (.tmp 70), none⟩,
 ⟨some 72, .load false 1 (.tmp 71), none⟩,
 ⟨some 73, .iaddr 1 (.tmp 53) (.tmp 56), none⟩,
 ⟨none, .store 1 (.tmp 73) (.tmp 66), none⟩,
 ⟨some 74, .iaddr 1 (.tmp 57) (.tmp 60), none⟩,
 ⟨none, .store 1 (.tmp 74) (.tmp 72), none⟩] [8, 52, 53, 54, 55, 56, 57, 58, 59, 60, 61, 62, 63, 64, 65, 66, 67, 68, 69, 70, 71, 72, 73, 74])
 (.region false [
 ⟨some 75, .mov (.tmp 9), none⟩,
 ⟨some 8, .mov (.tmp 75), none⟩] [9, 75])))))) []) [] []) [0, 2, 3, 8, 9, 16]))
abbrev v_q211 : List RV := []
abbrev f_q211 : FuncId := 214
theorem k_q211 : closedOf Tryz.prog Tryz.f214 = (false, some true, some v_q211, some c_q211.plain, 76) := by kernel_rfl
theorem am_q211 {args : List AV} {c0 c1 : List (Nat × List AV)} {r : AV} (h : aw Tryz.prog c_q211 (env0M args c0) (endM v_q211 r (c0.map (·.1)) c1)) (hc0 : ∀ q ∈ c0, 100000 ≤ q.1) (hargs : args.length ≤ 76 := by decide) (hok : resOK r = true := by rfl) : AM Tryz.prog f_q211 args c0 r c1 :=
  AM_mk (by kernel_rfl) Tryz.func214 k_q211 hargs hok (by decide) hc0 h
def c_q212 : ACode :=
 (.seq
 (.region false [
 ⟨some 2, .mov (.const (.int .u64 0)), none⟩] [2])
 (.seq
 (.region false [
 ⟨some 3, .mov (.tmp 0), none⟩,
 ⟨some 4, .cint .u64 (.tmp 3), none⟩,
 ⟨some 5, .callm 135 [.tmp 4], none⟩,
 ⟨some 6, .bin .shl 72 (.const (.int .u64 1)) (.tmp 5), none⟩,
 ⟨some 2, .mov (.tmp 6), none⟩] [0, 3, 4, 5, 6])
 .ret))
abbrev v_q212 : List RV := [.tmp 2]
abbrev f_q212 : FuncId := 215
theorem k_q212 : closedOf Tryz.prog Tryz.f215 = (false, some true, some v_q212, some c_q212.plain, 7) := by kernel_rfl
theorem ac_q212 {args : List AV} {r : AV} (h : aw Tryz.prog c_q212 (env0 args) (endQ v_q212 r)) (hargs : args.length ≤ 7 := by decide) (hok : resOK r = true := by rfl) : AC Tryz.prog f_q212 args r :=
  AC_mk (by kernel_rfl) Tryz.func215 k_q212 hargs hok (by decide) h
def c_q213 : ACode :=
 (.seq
 (.region false [
 ⟨some 2, .mov (.const (.int .u64 0)), none⟩] [2])
 (.seq
 (.region true [
 ⟨some 3, .mov (.tmp 0), none⟩,
 ⟨some 4, .nilchk (.tmp 3), none⟩,
 ⟨some 5, .load false 1 (.tmp 4), none⟩,
 ⟨some 6, .mov (.tmp 0), none⟩,
 ⟨some 7, .nilchk (.tmp 6), none⟩,
 ⟨some 8, .load false 1 (.tmp 7), none⟩,
 ⟨some 9, .bin .shl 254 (.tmp 8) (.const (.int .u64 13)), none⟩,
 ⟨some 10, .bin .xor 254 (.tmp 5) (.tmp 9), none⟩,
 ⟨some 11, .nilchk (.tmp 3), none⟩,
 ⟨none, .store 1 (.tmp 11) (.tmp 10), none⟩] [3, 4, 5, 6, 7, 8, 9, 10, 11])
 (.seq
 (.region true [
 ⟨some 12, .mov (.tmp 0), none⟩,
 ⟨some 13, .nilchk (.tmp 12), none⟩,
 ⟨some 14, .load false 1 (.tmp 13), none⟩,
 ⟨some 15, .mov (.tmp 0), none⟩,
 ⟨some 16, .nilchk (.tmp 15), none⟩,
 ⟨some 17, .load false 1 (.tmp 16), none⟩,
 ⟨some 18, .bin .shr 254 (.tmp 17) (.const (.int .u64 7)), none⟩,
 ⟨some 19, .bin .xor 254 (.tmp 14) (.tmp 18), none⟩,
 ⟨some 20, .nilchk (.tmp 12), none⟩,
 ⟨none, .store 1 (.tmp 20) (.tmp 19), none⟩] [12, 13, 14, 15, 16, 17, 18, 19, 20])
 (.seq
 (.region true [
 ⟨some 21, .mov (.tmp 0), none⟩,
 ⟨some 22, .nilchk (.tmp 21), none⟩,
 ⟨some 23, .load false 1 (.tmp 22), none⟩,
 ⟨some 24, .mov (.tmp 0), none⟩,
 ⟨some 25, .nilchk (.tmp 24), none⟩,
 ⟨some 26, .load false 1 (.tmp 25), none⟩,
 ⟨some 27, .bin .shl 254 (.tmp 26) (.const (.int .u64 17)), none⟩,
 ⟨some 28, .bin .xor 254 (.tmp 23) (.tmp 27), none⟩,
 ⟨some 29, .nilchk (.tmp 21), none⟩,
 ⟨none, .store 1 (.tmp 29) (.tmp 28), none⟩] [21, 22, 23, 24, 25, 26, 27, 28, 29])
 (.seq
 (.region false [
 ⟨some 30, .mov (.tmp 0), none⟩,
 ⟨some 31, .nilchk (.tmp 30), none⟩,
 ⟨some 32, .load false 1 (.tmp 31), none⟩,
 ⟨some 2, .mov (.tmp 32), none⟩] [0, 30, 31, 32])
 .ret)))))
abbrev v_q213 : List RV := [.tmp 2]
abbrev f_q213 : FuncId := 216
theorem k_q213 : closedOf Tryz.prog Tryz.f216 = (false, some true, some v_q213, some c_q213.plain, 33) := by kernel_rfl
theorem am_q213 {args : List AV} {c0 c1 : List (Nat × List AV)} {r : AV} (h : aw Tryz.prog c_q213 (env0M args c0) (endM v_q213 r (c0.map (·.1)) c1)) (hc0 : ∀ q ∈ c0, 100000 ≤ q.1) (hargs : args.length ≤ 33 := by decide) (hok : resOK r = true := by rfl) : AM Tryz.prog f_q213 args c0 r c1 :=
  AM_mk (by kernel_rfl) Tryz.func216 k_q213 hargs hok (by decide) hc0 h
def c_q214 : ACode :=
 (.seq
 (.region false [
 ⟨some 6, .mov (.const (.int .i64 0)), none⟩] [6])
 (.seq
 (.region false [
 ⟨some 7, .mov (.tmp 0), none⟩,
 ⟨some 8, .mov (.tmp 1), none⟩,
 ⟨some 9, .bin .sub 3 (.tmp 8) (.const (.int .i64 1)), none⟩,
 ⟨some 10, .mov (.tmp 1), none⟩,
 ⟨some 11, .mov (.tmp 1), none⟩,
 ⟨some 12, .bin .add 3 (.tmp 11) (.const (.int .i64 1)), none⟩,
 ⟨some 13, .mov (.tmp 2), none⟩,
 ⟨some 14, .callm 218 [.tmp 7, .tmp 9, .tmp 10, .tmp 12, .tmp 13], none⟩,
 ⟨some 6, .mov (.tmp 14), none⟩] [0, 1, 2, 7, 8, 9, 10, 11, 12, 13, 14])
 .ret))
abbrev v_q214 : List RV := [.tmp 6]
abbrev f_q214 : FuncId := 217
theorem k_q214 : closedOf Tryz.prog Tryz.f217 = (false, some true, some v_q214, some c_q214.plain, 15) := by kernel_rfl
theorem am_q214 {args : List AV} {c0 c1 : List (Nat × List AV)} {r : AV} (h : aw Tryz.prog c_q214 (env0M args c0) (endM v_q214 r (c0.map (·.1)) c1)) (hc0 : ∀ q ∈ c0, 100000 ≤ q.1) (hargs : args.length ≤ 15 := by decide) (hok : resOK r = true := by rfl) : AM Tryz.prog f_q214 args c0 r c1 :=
  AM_mk (by kernel_rfl) Tryz.func217 k_q214 hargs hok (by decide) hc0 h
def c_q215 : ACode :=
 (.seq
 (.region false [
 ⟨some 10, .mov (.const (.int .i64 0)), none⟩] [10])
 (.seq
 (.region false [
 ⟨some 12, .mov (.tmp 0), none⟩,
 ⟨some 13, .mov (.tmp 1), none⟩,
 ⟨some 14, .mov (.tmp 2), none⟩,
 ⟨some 15, .mov (.tmp 4), none⟩,
 ⟨some 16, .callm 227 [.tmp 12, .tmp 13, .tmp 14, .tmp 15], none⟩,
 ⟨some 11, .mov (.tmp 16), none⟩,
 ⟨some 17, .ext (.tmp 11) 0, none⟩,
 ⟨some 18, .ext (.tmp 11) 1, none⟩,
 ⟨some 1, .mov (.tmp 17), none⟩,
 ⟨some 2, .mov (.tmp 18), none⟩] [11, 12, 13, 14, 15, 16, 17, 18])
 (.seq
 (.region false [
 ⟨some 20, .mov (.tmp 0), none⟩,
 ⟨some 21, .mov (.tmp 2), none⟩,
 ⟨some 22, .mov (.tmp 3), none⟩,
 ⟨some 23, .mov (.tmp 4), none⟩,
 ⟨some 24, .callm 227 [.tmp 20, .tmp 21, .tmp 22, .tmp 23], none⟩,
 ⟨some 19, .mov (.tmp 24), none⟩,
 ⟨some 25, .ext (.tmp 19) 0, none⟩,
 ⟨some 26, .ext (.tmp 19) 1, none⟩,
 ⟨some 2, .mov (.tmp 25), none⟩,
 ⟨some 3, .mov (.tmp 26), none⟩] [3, 19, 20, 21, 22, 23, 24, 25, 26])
 (.seq
 (.region false [
 ⟨some 28, .mov (.tmp 0), none⟩,
 ⟨some 29, .mov (.tmp 1), none⟩,
 ⟨some 30, .mov (.tmp 2), none⟩,
 ⟨some 31, .mov (.tmp 4), none⟩,
 ⟨some 32, .callm 227 [.tmp 28, .tmp 29, .tmp 30, .tmp 31], none⟩,
 ⟨some 27, .mov (.tmp 32), none⟩,
 ⟨some 33, .ext (.tmp 27) 0, none⟩,
 ⟨some 34, .ext (.tmp 27) 1, none⟩,
 ⟨some 1, .mov (.tmp 33), none⟩,
 ⟨some 2, .mov (.tmp 34), none⟩] [0, 1, 4, 27, 28, 29, 30, 31, 32, 33, 34])
 (.seq
 (.region false [
 ⟨some 35, .mov (.tmp 2), none⟩,
 ⟨some 10, .mov (.tmp 35), none⟩] [2, 35])
 .ret)))))
abbrev v_q215 : List RV := [.tmp 10]
abbrev f_q215 : FuncId := 218
theorem k_q215 : closedOf Tryz.prog Tryz.f218 = (false, some true, some v_q215, some c_q215.plain, 36) := by kernel_rfl
theorem am_q215 {args : List AV} {c0 c1 : List (Nat × List AV)} {r : AV} (h : aw Tryz.prog c_q215 (env0M args c0) (endM v_q215 r (c0.map (·.1)) c1)) (hc0 : ∀ q ∈ c0, 100000 ≤ q.1) (hargs : args.length ≤ 36 := by decide) (hok : resOK r = true := by rfl) : AM Tryz.prog f_q215 args c0 r c1 :=
  AM_mk (by kernel_rfl) Tryz.func218 k_q215 hargs hok (by decide) hc0 h
def c_q216 : ACode :=
 (.seq
 (.region false [
 ⟨some 2, .mov (.const (.bool false)), none⟩] [2])
 (.seq
 (.region false [
 ⟨some 3, .mov (.tmp 0), none⟩,
 ⟨some 4, .mov (.tmp 0), none⟩,
 ⟨some 5, .bin .neq 32 (.tmp 3) (.tmp 4), none⟩,
 ⟨some 2, .mov (.tmp 5), none⟩] [0, 3, 4, 5])
 .ret))
abbrev v_q216 : List RV := [.tmp 2]
abbrev f_q216 : FuncId := 219
theorem k_q216 : closedOf Tryz.prog Tryz.f219 = (false, some true, some v_q216, some c_q216.plain, 6) := by kernel_rfl
theorem ac_q216 {args : List AV} {r : AV} (h : aw Tryz.prog c_q216 (env0 args) (endQ v_q216 r)) (hargs : args.length ≤ 6 := by decide) (hok : resOK r = true := by rfl) : AC Tryz.prog f_q216 args r :=
  AC_mk (by kernel_rfl) Tryz.func219 k_q216 hargs hok (by decide) h
end Go.Proofs.YtobofhbklfallaaGreatDoor.VL
end

