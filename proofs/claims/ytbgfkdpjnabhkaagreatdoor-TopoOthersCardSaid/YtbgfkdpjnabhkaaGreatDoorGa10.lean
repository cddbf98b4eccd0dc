import Derived.Test.YtbgfkdpjnabhkaaGreatDoorProg
import Derived.Lib.Strings
import Derived.Test.YtbgfkdpjnabhkaaGreatDoorGa9
set_option linter.unusedVariables false
set_option linter.unusedSimpArgs false
section
set_option maxRecDepth 100000
namespace Go.Proofs.YtbgfkdpjnabhkaaGreatDoor.VL
open Go.Proofs
def c_q156 : ACode :=
 (.seq
 (.region false [
 oo 2 (.mov (.const (.int .i64 0)))] [2])
 (.seq
 (.region false [
 om 6 0,
 oo 7 (.lens (.tmp 6)),
 oo 8 (.bin .geq 3 (.tmp 7) (.const (.int .i64 1))),
 om 9 8,
 og 10 (.mov (.tmp 0)) 9 true,
 og 11 (.lens (.tmp 10)) 9 true,
 og 12 (.bin .leq 3 (.tmp 11) (.const (.int .i64 12))) 9 true,
 oo 13 (.pick (.tmp 9) (.tmp 12) (.const (.bool false))),
 om 14 13,
 og 15 (.mov (.tmp 0)) 14 true,
 og 16 (.idxs (.tmp 15) (.const (.int .i64 0))) 14 true,
 og 17 (.bin .geq 5 (.tmp 16) (.const (.int .u8 97))) 14 true,
 oo 18 (.pick (.tmp 14) (.tmp 17) (.const (.bool false))),
 om 19 18,
 og 20 (.mov (.tmp 0)) 19 true,
 og 21 (.idxs (.tmp 20) (.const (.int .i64 0))) 19 true,
 og 22 (.bin .leq 5 (.tmp 21) (.const (.int .u8 122))) 19 true,
 oo 23 (.pick (.tmp 19) (.tmp 22) (.const (.bool false))),
 om 3 23] [6, 7, 8, 9, 10, 11, 12, 13, 14, 15, 16, 17, 18, 19, 20, 21, 22, 23])
 (.seq
 (.seq
 (.region false [
 oo 4 (.mov (.const (.int .i64 0)))] [])
 (.block 0
 (.loop
 (.seq
 (.seq
 (.region false [
 om 24 4,
 om 25 0,
 oo 26 (.lens (.tmp 25)),
 oo 27 (.bin .lss 3 (.tmp 24) (.tmp 26))] [24, 25, 26])
 (.cond (.tmp 27)
 .skip
 (.exit 0)))
 (.seq
 (.block 1
 (.seq
 (.region false [
 om 30 0,
 om 31 4,
 oo 32 (.idxs (.tmp 30) (.tmp 31)),
 om 5 32] [27, 30, 31, 32])
 (.region false [
 om 33 3,
 om 34 33,
 og 35 (.mov (.tmp 5)) 34 true,
 og 36 (.bin .geq 5 (.tmp 35) (.const (.int .u8 97))) 34 true,
 og 37 (.mov (.tmp 36)) 34 true,
 og 38 (.mov (.tmp 5)) 37 true,
 og 39 (.bin .leq 5 (.tmp 38) (.const (.int .u8 122))) 37 true,
 og 40 (.pick (.tmp 37) (.tmp 39) (.const (.bool false))) 34 true,
 og 41 (.mov (.tmp 40)) 34 true,
 og 42 (.mov (.tmp 5)) 41 false,
 og 43 (.bin .geq 5 (.tmp 42) (.const (.int .u8 48))) 41 false,
 og 44 (.mov (.tmp 43)) 41 false,
 og 45 (.mov (.tmp 5)) 44 true,
 og 46 (.bin .leq 5 (.tmp 45) (.const (.int .u8 57))) 44 true,
 og 47 (.pick (.tmp 44) (.tmp 46) (.const (.bool false))) 41 false,
 og 48 (.pick (.tmp 41) (.const (.bool true)) (.tmp 47)) 34 true,
 og 49 (.mov (.tmp 48)) 34 true,
 og 50 (.mov (.tmp 5)) 49 false,
 og 51 (.bin .eql 5 (.tmp 50) (.const (.int .u8 45))) 49 false,
 og 52 (.pick (.tmp 49) (.const (.bool true)) (.tmp 51)) 34 true,
 oo 53 (.pick (.tmp 34) (.tmp 52) (.const (.bool false))),
 om 3 53] [5, 33, 34, 35, 36, 37, 38, 39, 40, 41, 42, 43, 44, 45, 46, 47, 48, 49, 50, 51, 52, 53])) [])
 (.region false [
 om 28 4,
 oo 29 (.bin .add 3 (.tmp 28) (.const (.int .i64 1))),
 om 4 29] [28, 29]))) [] []) [0, 4, 27]))
 (.seq
 (.seq
 (.region false [
 om 54 3,
 oo 55 (.un .not (.tmp 54))] [3, 54])
 (.cond (.tmp 55)
 (.seq
 (.region false [
 oo 2 (.mov (.const (.int .i64 109)))] [55])
 .ret)
 .skip))
 (.seq
 (.region false [
 oo 2 (.mov (.const (.int .i64 0)))] [55])
 .ret)))))
abbrev v_q156 : List RV := [.tmp 2]
abbrev f_q156 : FuncId := 159
theorem k_q156 : closedOf Tryz.prog Tryz.f159 = (false, some true, some v_q156, some c_q156.plain, 56) := by kernel_rfl
theorem ac_q156 {args : List AV} {r : AV} (h : aw Tryz.prog c_q156 (env0 args) (endQ v_q156 r)) (hargs : args.length ≤ 56 := by decide) (hok : resOK r = true := by rfl) : AC Tryz.prog f_q156 args r :=
  AC_mk (by kernel_rfl) Tryz.func159 k_q156 hargs hok (by decide) h
def c_q157 : ACode :=
 (.seq
 (.region false [
 oo 2 (.box (.tmp 0)),
 oo 3 (.box (.tmp 1)),
 oo 4 (.mov (.const (.bool false)))] [0, 1, 4])
 (.seq
 (.region false [
 oo 5 (.load true 2 (.tmp 2)),
 oo 6 (.callm 105 [.tmp 5]),
 om 7 6,
 og 8 (.faddr 1 1 (.tmp 2)) 7 true,
 og 9 (.load false 1 (.tmp 8)) 7 true,
 og 10 (.faddr 1 1 (.tmp 3)) 7 true,
 og 11 (.load false 1 (.tmp 10)) 7 true,
 og 12 (.bin .geq 3 (.tmp 9) (.tmp 11)) 7 true,
 oo 13 (.pick (.tmp 7) (.tmp 12) (.const (.bool false))),
 om 14 13,
 og 15 (.load true 2 (.tmp 3)) 14 true,
 og 16 (.faddr 0 1 (.tmp 2)) 14 true,
 og 17 (.load false 1 (.tmp 16)) 14 true,
 og 18 (.callm 60 [.tmp 15, .tmp 17]) 14 true,
 oo 19 (.pick (.tmp 14) (.tmp 18) (.const (.bool false))),
 om 4 19] [2, 3, 5, 6, 7, 8, 9, 10, 11, 12, 13, 14, 15, 16, 17, 18, 19])
 .ret))
abbrev v_q157 : List RV := [.tmp 4]
abbrev f_q157 : FuncId := 160
theorem k_q157 : closedOf Tryz.prog Tryz.f160 = (false, some true, some v_q157, some c_q157.plain, 20) := by kernel_rfl
theorem ac_q157 {args : List AV} {r : AV} (h : aw Tryz.prog c_q157 (env0 args) (endQ v_q157 r)) (hargs : args.length ≤ 20 := by decide) (hok : resOK r = true := by rfl) : AC Tryz.prog f_q157 args r :=
  AC_mk (by kernel_rfl) Tryz.func160 k_q157 hargs hok (by decide) h
def c_q158 : ACode :=
 (.seq
 (.region false [
 oo 4 (.mov (.const (.bool false)))] [4])
 (.seq
 (.region false [
 om 5 0,
 oo 6 (.bin .geq 3 (.tmp 5) (.const (.int .i64 0))),
 om 7 6,
 og 8 (.mov (.tmp 0)) 7 true,
 og 9 (.mov (.tmp 1)) 7 true,
 og 10 (.bin .lss 3 (.tmp 8) (.tmp 9)) 7 true,
 oo 11 (.pick (.tmp 7) (.tmp 10) (.const (.bool false))),
 om 4 11] [0, 1, 5, 6, 7, 8, 9, 10, 11])
 .ret))
abbrev v_q158 : List RV := [.tmp 4]
abbrev f_q158 : FuncId := 161
theorem k_q158 : closedOf Tryz.prog Tryz.f161 = (false, some true, some v_q158, some c_q158.plain, 12) := by kernel_rfl
theorem ac_q158 {args : List AV} {r : AV} (h : aw Tryz.prog c_q158 (env0 args) (endQ v_q158 r)) (hargs : args.length ≤ 12 := by decide) (hok : resOK r = true := by rfl) : AC Tryz.prog f_q158 args r :=
  AC_mk (by kernel_rfl) Tryz.func161 k_q158 hargs hok (by decide) h
def c_q159 : ACode :=
 (.seq
 (.region false [
 oo 2 (.mov (.const (.bool false)))] [2])
 (.seq
 (.region false [
 om 3 0,
 oo 4 (.bin .shr 32 (.tmp 3) (.const (.int .u64 28))),
 oo 5 (.bin .eql 32 (.tmp 4) (.const (.int .u32 14))),
 om 2 5] [0, 3, 4, 5])
 .ret))
abbrev v_q159 : List RV := [.tmp 2]
abbrev f_q159 : FuncId := 162
theorem k_q159 : closedOf Tryz.prog Tryz.f162 = (false, some true, some v_q159, some c_q159.plain, 6) := by kernel_rfl
theorem ac_q159 {args : List AV} {r : AV} (h : aw Tryz.prog c_q159 (env0 args) (endQ v_q159 r)) (hargs : args.length ≤ 6 := by decide) (hok : resOK r = true := by rfl) : AC Tryz.prog f_q159 args r :=
  AC_mk (by kernel_rfl) Tryz.func162 k_q159 hargs hok (by decide) h
def c_q160 : ACode :=
 (.seq
 (.region false [
 oo 2 (.box (.tmp 0)),
 oo 3 (.box (.tmp 1)),
 oo 4 (.mov (.const (.bool false)))] [0, 1, 4])
 (.seq
 (.region false [
 oo 5 (.faddr 0 1 (.tmp 2)),
 oo 6 (.load false 1 (.tmp 5)),
 oo 7 (.faddr 0 1 (.tmp 3)),
 oo 8 (.load false 1 (.tmp 7)),
 oo 9 (.bin .eql 32 (.tmp 6) (.tmp 8)),
 om 10 9,
 og 11 (.faddr 1 1 (.tmp 2)) 10 true,
 og 12 (.load false 1 (.tmp 11)) 10 true,
 og 13 (.faddr 1 1 (.tmp 3)) 10 true,
 og 14 (.load false 1 (.tmp 13)) 10 true,
 og 15 (.bin .eql 3 (.tmp 12) (.tmp 14)) 10 true,
 oo 16 (.pick (.tmp 10) (.tmp 15) (.const (.bool false))),
 om 4 16] [2, 3, 5, 6, 7, 8, 9, 10, 11, 12, 13, 14, 15, 16])
 .ret))
abbrev v_q160 : List RV := [.tmp 4]
abbrev f_q160 : FuncId := 163
theorem k_q160 : closedOf Tryz.prog Tryz.f163 = (false, some true, some v_q160, some c_q160.plain, 17) := by kernel_rfl
theorem ac_q160 {args : List AV} {r : AV} (h : aw Tryz.prog c_q160 (env0 args) (endQ v_q160 r)) (hargs : args.length ≤ 17 := by decide) (hok : resOK r = true := by rfl) : AC Tryz.prog f_q160 args r :=
  AC_mk (by kernel_rfl) Tryz.func163 k_q160 hargs hok (by decide) h
def c_q161 : ACode :=
 (.seq
 (.region false [
 oo 2 (.box (.tmp 0)),
 oo 3 (.box (.tmp 1)),
 oo 4 (.mov (.const (.bool false)))] [0, 1, 4])
 (.seq
 (.region false [
 oo 5 (.faddr 0 1 (.tmp 2)),
 oo 6 (.load false 1 (.tmp 5)),
 oo 7 (.faddr 0 1 (.tmp 3)),
 oo 8 (.load false 1 (.tmp 7)),
 oo 9 (.bin .eql 32 (.tmp 6) (.tmp 8)),
 om 10 9,
 og 11 (.faddr 1 1 (.tmp 2)) 10 true,
 og 12 (.load false 1 (.tmp 11)) 10 true,
 og 13 (.faddr 1 1 (.tmp 3)) 10 true,
 og 14 (.load false 1 (.tmp 13)) 10 true,
 og 15 (.bin .eql 32 (.tmp 12) (.tmp 14)) 10 true,
 oo 16 (.pick (.tmp 10) (.tmp 15) (.const (.bool false))),
 om 4 16] [2, 3, 5, 6, 7, 8, 9, 10, 11, 12, 13, 14, 15, 16])
 .ret))
abbrev v_q161 : List RV := [.tmp 4]
abbrev f_q161 : FuncId := 164
theorem k_q161 : closedOf Tryz.prog Tryz.f164 = (false, some true, some v_q161, some c_q161.plain, 17) := by kernel_rfl
theorem ac_q161 {args : List AV} {r : AV} (h : aw Tryz.prog c_q161 (env0 args) (endQ v_q161 r)) (hargs : args.length ≤ 17 := by decide) (hok : resOK r = true := by rfl) : AC Tryz.prog f_q161 args r :=
  AC_mk (by kernel_rfl) Tryz.func164 k_q161 hargs hok (by decide) h
def c_q162 : ACode :=
 (.seq
 (.region false [
 oo 4 (.mov (.const (.bool false)))] [4])
 (.seq
 (.seq
 (.region false [
 oo 5 (.mov (.const (.int .i64 0)))] [])
 (.block 0
 (.loop
 (.seq
 (.seq
 (.region false [
 om 6 5,
 om 7 0,
 oo 8 (.lenl (.tmp 7)),
 oo 9 (.bin .lss 3 (.tmp 6) (.tmp 8))] [6, 7, 8])
 (.cond (.tmp 9)
 .skip
 (.exit 0)))
 (.seq
 (.block 1
 (.seq
 (.region false [
 om 12 0,
 om 13 5,
 oo 14 (.iaddr 1 (.tmp 12) (.tmp 13)),
 oo 15 (.load false 1 (.tmp 14)),
 om 16 1,
 oo 17 (.bin .eql 32 (.tmp 15) (.tmp 16))] [9, 12, 13, 14, 15, 16])
 (.cond (.tmp 17)
 (.seq
 (.region false [
 oo 4 (.mov (.const (.bool true)))] [0, 1, 5, 17])
 .ret)
 .skip)) [17])
 (.region false [
 om 10 5,
 oo 11 (.bin .add 3 (.tmp 10) (.const (.int .i64 1))),
 om 5 11] [10, 11]))) [] []) [0, 1, 5, 9]))
 (.seq
 (.region false [
 oo 4 (.mov (.const (.bool false)))] [])
 .ret)))
abbrev v_q162 : List RV := [.tmp 4]
abbrev f_q162 : FuncId := 165
theorem k_q162 : closedOf Tryz.prog Tryz.f165 = (false, some true, some v_q162, some c_q162.plain, 18) := by kernel_rfl
theorem ac_q162 {args : List AV} {r : AV} (h : aw Tryz.prog c_q162 (env0 args) (endQ v_q162 r)) (hargs : args.length ≤ 18 := by decide) (hok : resOK r = true := by rfl) : AC Tryz.prog f_q162 args r :=
  AC_mk (by kernel_rfl) Tryz.func165 k_q162 hargs hok (by decide) h
def c_q166 : ACode :=
 (.seq
 (.region false [
 oo 2 (.mov (.const (.bool false)))] [2])
 (.seq
 (.region false [
 om 3 0,
 oo 4 (.bin .geq 5 (.tmp 3) (.const (.int .u8 97))),
 om 5 4,
 og 6 (.mov (.tmp 0)) 5 true,
 og 7 (.bin .leq 5 (.tmp 6) (.const (.int .u8 122))) 5 true,
 oo 8 (.pick (.tmp 5) (.tmp 7) (.const (.bool false))),
 om 2 8] [0, 3, 4, 5, 6, 7, 8])
 .ret))
abbrev v_q166 : List RV := [.tmp 2]
abbrev f_q166 : FuncId := 169
theorem k_q166 : closedOf Tryz.prog Tryz.f169 = (false, some true, some v_q166, some c_q166.plain, 9) := by kernel_rfl
theorem ac_q166 {args : List AV} {r : AV} (h : aw Tryz.prog c_q166 (env0 args) (endQ v_q166 r)) (hargs : args.length ≤ 9 := by decide) (hok : resOK r = true := by rfl) : AC Tryz.prog f_q166 args r :=
  AC_mk (by kernel_rfl) Tryz.func169 k_q166 hargs hok (by decide) h
def c_q167 : ACode :=
 (.seq
 (.region false [
 oo 4 (.mov (.const (.int .i64 0)))] [4])
 (.seq
 (.seq
 (.region false [
 om 6 0,
 oo 7 (.lenl (.tmp 6)),
 oo 8 (.mov (.const (.int .i64 0)))] [6])
 (.block 0
 (.loop
 (.seq
 (.region false [
 oo 9 (.bin .lss 3 (.tmp 8) (.tmp 7))] [])
 (.seq
 (.cond (.tmp 9)
 .skip
 (.exit 0))
 (.seq
 (.block 1
 (.seq
 (.region false [
 om 10 8,
 om 5 10] [9, 10])
 (.seq
 (.region false [
 om 11 1,
 om 12 0,
 om 13 5,
 oo 14 (.iaddr 2 (.tmp 12) (.tmp 13)),
 oo 15 (.load true 2 (.tmp 14)),
 oo 16 (.callvm (.tmp 11) [.tmp 15])] [11, 12, 13, 14, 15])
 (.cond (.tmp 16)
 (.seq
 (.region false [
 om 17 5,
 om 4 17] [0, 1, 5, 7, 8, 16, 17])
 .ret)
 .skip))) [5, 16])
 (.region false [
 oo 18 (.bin .add 3 (.tmp 8) (.const (.int .i64 1))),
 om 8 18] [18])))) [] []) [0, 1, 7, 8, 9]))
 (.seq
 (.region false [
 oo 4 (.mov (.const (.int .i64 (-1))))] [])
 .ret)))
abbrev v_q167 : List RV := [.tmp 4]
abbrev f_q167 : FuncId := 170
theorem k_q167 : closedOf Tryz.prog Tryz.f170 = (false, some true, some v_q167, some c_q167.plain, 19) := by kernel_rfl
theorem ac_q167 {args : List AV} {r : AV} (h : aw Tryz.prog c_q167 (env0 args) (endQ v_q167 r)) (hargs : args.length ≤ 19 := by decide) (hok : resOK r = true := by rfl) : AC Tryz.prog f_q167 args r :=
  AC_mk (by kernel_rfl) Tryz.func170 k_q167 hargs hok (by decide) h
def c_q168 : ACode :=
 (.seq
 (.region false [
 oo 4 (.mov (.const (.int .i64 0)))] [4])
 (.seq
 (.seq
 (.region false [
 om 6 0,
 oo 7 (.lenl (.tmp 6)),
 oo 8 (.mov (.const (.int .i64 0)))] [6])
 (.block 0
 (.loop
 (.seq
 (.region false [
 oo 9 (.bin .lss 3 (.tmp 8) (.tmp 7))] [])
 (.seq
 (.cond (.tmp 9)
 .skip
 (.exit 0))
 (.seq
 (.block 1
 (.seq
 (.region false [
 om 10 8,
 om 5 10] [9, 10])
 (.seq
 (.region false [
 om 11 1,
 om 12 0,
 om 13 5,
 oo 14 (.iaddr 3 (.tmp 12) (.tmp 13)),
 oo 15 (.load true 3 (.tmp 14)),
 oo 16 (.callvm (.tmp 11) [.tmp 15])] [11, 12, 13, 14, 15])
 (.cond (.tmp 16)
 (.seq
 (.region false [
 om 17 5,
 om 4 17] [0, 1, 5, 7, 8, 16, 17])
 .ret)
 .skip))) [5, 16])
 (.region false [
 oo 18 (.bin .add 3 (.tmp 8) (.const (.int .i64 1))),
 om 8 18] [18])))) [] []) [0, 1, 7, 8, 9]))
 (.seq
 (.region false [
 oo 4 (.mov (.const (.int .i64 (-1))))] [])
 .ret)))
abbrev v_q168 : List RV := [.tmp 4]
abbrev f_q168 : FuncId := 171
theorem k_q168 : closedOf Tryz.prog Tryz.f171 = (false, some true, some v_q168, some c_q168.plain, 19) := by kernel_rfl
theorem ac_q168 {args : List AV} {r : AV} (h : aw Tryz.prog c_q168 (env0 args) (endQ v_q168 r)) (hargs : args.length ≤ 19 := by decide) (hok : resOK r = true := by rfl) : AC Tryz.prog f_q168 args r :=
  AC_mk (by kernel_rfl) Tryz.func171 k_q168 hargs hok (by decide) h
def c_q169 : ACode :=
 (.seq
 (.region false [
 oo 1 (.box (.tmp 0)),
 oo 2 (.mov (.const (.int .u32 0)))] [0, 2])
 (.seq
 (.region false [
 oo 3 (.mov (.const (.int .u32 0)))] [])
 (.seq
 (.seq
 (.region false [
 oo 6 (.load true 4 (.tmp 1)),
 oo 7 (.mov (.const (.int .i64 0)))] [1])
 (.block 0
 (.loop
 (.seq
 (.region false [
 oo 8 (.bin .lss 3 (.tmp 7) (.const (.int .i64 4)))] [])
 (.seq
 (.cond (.tmp 8)
 .skip
 (.exit 0))
 (.seq
 (.block 1
 (.seq
 (.region false [
 oo 9 (.idxa false 4 1 (.tmp 6) (.tmp 7)),
 om 5 9] [8, 9])
 (.region false [
 om 10 3,
 oo 11 (.bin .shl 32 (.tmp 10) (.const (.int .u64 8))),
 om 12 5,
 oo 13 (.cint .u32 (.tmp 12)),
 oo 14 (.bin .or 32 (.tmp 11) (.tmp 13)),
 om 3 14] [5, 10, 11, 12, 13, 14])) [])
 (.region false [
 oo 15 (.bin .add 3 (.tmp 7) (.const (.int .i64 1))),
 om 7 15] [15])))) [] []) [6, 7, 8]))
 (.seq
 (.region false [
 om 16 3,
 om 2 16] [3, 16])
 .ret))))
abbrev v_q169 : List RV := [.tmp 2]
abbrev f_q169 : FuncId := 172
theorem k_q169 : closedOf Tryz.prog Tryz.f172 = (false, some true, some v_q169, some c_q169.plain, 17) := by kernel_rfl
theorem ac_q169 {args : List AV} {r : AV} (h : aw Tryz.prog c_q169 (env0 args) (endQ v_q169 r)) (hargs : args.length ≤ 17 := by decide) (hok : resOK r = true := by rfl) : AC Tryz.prog f_q169 args r :=
  AC_mk (by kernel_rfl) Tryz.func172 k_q169 hargs hok (by decide) h
def c_q170 : ACode :=
 (.seq
 (.region false [
 oo 4 (.mov (.const (.int .i64 0)))] [4])
 (.seq
 (.seq
 (.region false [
 om 6 0,
 oo 7 (.lenl (.tmp 6)),
 oo 8 (.mov (.const (.int .i64 0)))] [6])
 (.block 0
 (.loop
 (.seq
 (.region false [
 oo 9 (.bin .lss 3 (.tmp 8) (.tmp 7))] [])
 (.seq
 (.cond (.tmp 9)
 .skip
 (.exit 0))
 (.seq
 (.block 1
 (.seq
 (.region false [
 om 10 8,
 om 5 10] [9, 10])
 (.seq
 (.region false [
 om 11 1,
 om 12 0,
 om 13 5,
 oo 14 (.iaddr 3 (.tmp 12) (.tmp 13)),
 oo 15 (.load true 3 (.tmp 14)),
 oo 16 (.callvm (.tmp 11) [.tmp 15])] [11, 12, 13, 14, 15])
 (.cond (.tmp 16)
 (.seq
 (.region false [
 om 17 5,
 om 4 17] [0, 1, 5, 7, 8, 16, 17])
 .ret)
 .skip))) [5, 16])
 (.region false [
 oo 18 (.bin .add 3 (.tmp 8) (.const (.int .i64 1))),
 om 8 18] [18])))) [] []) [0, 1, 7, 8, 9]))
 (.seq
 (.region false [
 oo 4 (.mov (.const (.int .i64 (-1))))] [])
 .ret)))
abbrev v_q170 : List RV := [.tmp 4]
abbrev f_q170 : FuncId := 173
theorem k_q170 : closedOf Tryz.prog Tryz.f173 = (false, some true, some v_q170, some c_q170.plain, 19) := by kernel_rfl
theorem ac_q170 {args : List AV} {r : AV} (h : aw Tryz.prog c_q170 (env0 args) (endQ v_q170 r)) (hargs : args.length ≤ 19 := by decide) (hok : resOK r = true := by rfl) : AC Tryz.prog f_q170 args r :=
  AC_mk (by kernel_rfl) Tryz.func173 k_q170 hargs hok (by decide) h
def c_q171 : ACode :=
 (.seq
 (.region false [
 oo 4 (.mov (.const (.int .i64 0)))] [4])
 (.seq
 (.seq
 (.region false [
 om 6 0,
 oo 7 (.lenl (.tmp 6)),
 oo 8 (.mov (.const (.int .i64 0)))] [6])
 (.block 0
 (.loop
 (.seq
 (.region false [
 oo 9 (.bin .lss 3 (.tmp 8) (.tmp 7))] [])
 (.seq
 (.cond (.tmp 9)
 .skip
 (.exit 0))
 (.seq
 (.block 1
 (.seq
 (.region false [
 om 10 8,
 om 5 10] [9, 10])
 (.seq
 (.region false [
 om 11 1,
 om 12 0,
 om 13 5,
 oo 14 (.iaddr 3 (.tmp 12) (.tmp 13)),
 oo 15 (.load true 3 (.tmp 14)),
 oo 16 (.callvm (.tmp 11) [.tmp 15])] [11, 12, 13, 14, 15])
 (.cond (.tmp 16)
 (.seq
 (.region false [
 om 17 5,
 om 4 17] [0, 1, 5, 7, 8, 16, 17])
 .ret)
 .skip))) [5, 16])
 (.region false [
 oo 18 (.bin .add 3 (.tmp 8) (.const (.int .i64 1))),
 om 8 18] [18])))) [] []) [0, 1, 7, 8, 9]))
 (.seq
 (.region false [
 oo 4 (.mov (.const (.int .i64 (-1))))] [])
 .ret)))
abbrev v_q171 : List RV := [.tmp 4]
abbrev f_q171 : FuncId := 174
theorem k_q171 : closedOf Tryz.prog Tryz.f174 = (false, some true, some v_q171, some c_q171.plain, 19) := by kernel_rfl
theorem ac_q171 {args : List AV} {r : AV} (h : aw Tryz.prog c_q171 (env0 args) (endQ v_q171 r)) (hargs : args.length ≤ 19 := by decide) (hok : resOK r = true := by rfl) : AC Tryz.prog f_q171 args r :=
  AC_mk (by kernel_rfl) Tryz.func174 k_q171 hargs hok (by decide) h
def c_q172 : ACode :=
 (.seq
 (.region false [
 oo 4 (.mov (.const (.int .i64 0)))] [4])
 (.seq
 (.seq
 (.region false [
 om 6 0,
 oo 7 (.lenl (.tmp 6)),
 oo 8 (.mov (.const (.int .i64 0)))] [6])
 (.block 0
 (.loop
 (.seq
 (.region false [
 oo 9 (.bin .lss 3 (.tmp 8) (.tmp 7))] [])
 (.seq
 (.cond (.tmp 9)
 .skip
 (.exit 0))
 (.seq
 (.block 1
 (.seq
 (.region false [
 om 10 8,
 om 5 10] [9, 10])
 (.seq
 (.region false [
 om 11 1,
 om 12 0,
 om 13 5,
 oo 14 (.iaddr 3 (.tmp 12) (.tmp 13)),
 oo 15 (.load true 3 (.tmp 14)),
 oo 16 (.callvm (.tmp 11) [.tmp 15])] [11, 12, 13, 14, 15])
 (.cond (.tmp 16)
 (.seq
 (.region false [
 om 17 5,
 om 4 17] [0, 1, 5, 7, 8, 16, 17])
 .ret)
 .skip))) [5, 16])
 (.region false [
 oo 18 (.bin .add 3 (.tmp 8) (.const (.int .i64 1))),
 om 8 18] [18])))) [] []) [0, 1, 7, 8, 9]))
 (.seq
 (.region false [
 oo 4 (.mov (.const (.int .i64 (-1))))] [])
 .ret)))
abbrev v_q172 : List RV := [.tmp 4]
abbrev f_q172 : FuncId := 175
theorem k_q172 : closedOf Tryz.prog Tryz.f175 = (false, some true, some v_q172, some c_q172.plain, 19) := by kernel_rfl
theorem ac_q172 {args : List AV} {r : AV} (h : aw Tryz.prog c_q172 (env0 args) (endQ v_q172 r)) (hargs : args.length ≤ 19 := by decide) (hok : resOK r = true := by rfl) : AC Tryz.prog f_q172 args r :=
  AC_mk (by kernel_rfl) Tryz.func175 k_q172 hargs hok (by decide) h
def c_q173 : ACode :=
 (.seq
 (.region false [
 oo 2 (.mov (.const (.slice none 0 0)))] [2])
 (.seq
 (.region false [
 om 3 0,
 oo 4 (.callm 186 [.const (.slice none 0 0), .tmp 3]),
 om 2 4] [0, 3, 4])
 .ret))
abbrev v_q173 : List RV := [.tmp 2]
abbrev f_q173 : FuncId := 176
theorem k_q173 : closedOf Tryz.prog Tryz.f176 = (false, some true, some v_q173, some c_q173.plain, 5) := by kernel_rfl
theorem ac_q173 {args : List AV} {r : AV} (h : aw Tryz.prog c_q173 (env0 args) (endQ v_q173 r)) (hargs : args.length ≤ 5 := by decide) (hok : resOK r = true := by rfl) : AC Tryz.prog f_q173 args r :=
  AC_mk (by kernel_rfl) Tryz.func176 k_q173 hargs hok (by decide) h
abbrev f_q174 : FuncId := 177
def c_q175 : ACode :=
 (.seq
 (.region false [
 om 10 1,
 om 8 10] [1, 10])
 (.block 0
 (.loop
 (.block 1
 (.seq
 (.region false [
 om 11 8,
 oo 12 (.bin .mul 3 (.const (.int .i64 2)) (.tmp 11)),
 oo 13 (.bin .add 3 (.tmp 12) (.const (.int .i64 1))),
 om 9 13] [11, 12, 13])
 (.seq
 (.seq
 (.region false [
 om 14 9,
 om 15 2,
 oo 16 (.bin .geq 3 (.tmp 14) (.tmp 15))] [14, 15])
 (.cond (.tmp 16)
 (.exit 0)
 .skip))
 (.seq
 (.seq
 (.region true [
 om 17 9,
 oo 18 (.bin .add 3 (.tmp 17) (.const (.int .i64 1))),
 om 19 2,
 oo 20 (.bin .lss 3 (.tmp 18) (.tmp 19)),
 om 21 20,
 og 22 (.mov (.tmp 0)) 21 true,
 og 23 (.mov (.tmp 3)) 21 true,
 og 24 (.mov (.tmp 9)) 21 true,
 og 25 (.bin .add 3 (.tmp 23) (.tmp 24)) 21 true,
 og 26 (.iaddr 1 (.tmp 22) (.tmp 25)) 21 true,
 og 27 (.load false 1 (.tmp 26)) 21 true,
 og 28 (.mov (.tmp 0)) 21 true,
 og 29 (.mov (.tmp 3)) 21 true,
 og 30 (.mov (.tmp 9)) 21 true,
 og 31 (.bin .add 3 (.tmp 29) (.tmp 30)) 21 true,
 og 32 (.bin .add 3 (.tmp 31) (.const (.int .i64 1))) 21 true,
 og 33 (.iaddr 1 (.tmp 28) (.tmp 32)) 21 true,
 og 34 (.load false 1 (.tmp 33)) 21 true,
 og 35 (.call 154 [.tmp 27, .tmp 34]) 21 true,
 oo 36 (.pick (.tmp 21) (.tmp 35) (.const (.bool false)))] [16, 17, 18, 19, 20, 21, 22, 23, 24, 25, 26, 27, 28, 29, 30, 31, 32, 33, 34, 35])
 (.cond (.tmp 36)
 (.region false [
 om 37 9,
 oo 38 (.bin .add 3 (.tmp 37) (.const (.int .i64 1))),
 om 9 38] [36, 37, 38])
 .skip))
 (.seq
 (.seq
 (.region true [
 om 39 0,
 om 40 3,
 om 41 8,
 oo 42 (.bin .add 3 (.tmp 40) (.tmp 41)),
 oo 43 (.iaddr 1 (.tmp 39) (.tmp 42)),
 oo 44 (.load false 1 (.tmp 43)),
 om 45 0,
 om 46 3,
 om 47 9,
 oo 48 (.bin .add 3 (.tmp 46) (.tmp 47)),
 oo 49 (.iaddr 1 (.tmp 45) (.tmp 48)),
 oo 50 (.load false 1 (.tmp 49)),
 oo 51 (.call 154 [.tmp 44, .tmp 50]),
 oo 52 (.un .not (.tmp 51))] [36, 39, 40, 41, 42, 43, 44, 45, 46, 47, 48, 49, 50, 51])
 (.cond (.tmp 52)
 .ret
 .skip))
 (.seq
 (.region true [
 om 53 0,
 om 54 3,
 om 55 8,
 oo 56 (.bin .add 3 (.tmp 54) (.tmp 55)),
 om 57 0,
 om 58 3,
 om 59 9,
 oo 60 (.bin .add 3 (.tmp 58) (.tmp 59)),
 om 61 0,
 om 62 3,
 om 63 9,
 oo 64 (.bin .add 3 (.tmp 62) (.tmp 63)),
 oo 65 (.iaddr 1 (.tmp 61) (.tmp 64)),
 oo 66 (.load false 1 (.tmp 65)),
 om 67 0,
 om 68 3,
 om 69 8,
 oo 70 (.bin .add 3 (.tmp 68) (.tmp 69)),
 oo 71 (.iaddr 1 (.tmp 67) (.tmp 70)),
 oo 72 (.load false 1 (.tmp 71)),
 oo 73 (.iaddr 1 (.tmp 53) (.tmp 56)),
 ⟨none, .store 1 (.tmp 73) (.tmp 66), none⟩,
 oo 74 (.iaddr 1 (.tmp 57) (.tmp 60)),
 ⟨none, .store 1 (.tmp 74) (.tmp 72), none⟩] [8, 52, 53, 54, 55, 56, 57, 58, 59, 60, 61, 62, 63, 64, 65, 66, 67, 68, 69, 70, 71, 72, 73, 74])
 (.region false [
 om 75 9,
 om 8 75] [9, 75])))))) []) [] []) [0, 2, 3, 8, 9, 16]))
abbrev v_q175 : List RV := []
abbrev f_q175 : FuncId := 178
theorem k_q175 : closedOf Tryz.prog Tryz.f178 = (false, some true, some v_q175, some c_q175.plain, 76) := by kernel_rfl
theorem am_q175 {args : List AV} {c0 c1 : List (Nat × List AV)} {r : AV} (h : aw Tryz.prog c_q175 (env0M args c0) (endM v_q175 r (c0.map (·.1)) c1)) (hc0 : ∀ q ∈ c0, 100000 ≤ q.1) (hargs : args.length ≤ 76 := by decide) (hok : resOK r = true := by rfl) : AM Tryz.prog f_q175 args c0 r c1 :=
  AM_mk (by kernel_rfl) Tryz.func178 k_q175 hargs hok (by decide) hc0 h
def c_q176 : ACode :=
 (.seq
 (.region false [
 oo 2 (.mov (.const (.int .u64 0)))] [2])
 (.seq
 (.region false [
 om 3 0,
 oo 4 (.cint .u64 (.tmp 3)),
 oo 5 (.callm 101 [.tmp 4]),
 oo 6 (.bin .shl 56 (.const (.int .u64 1)) (.tmp 5)),
 om 2 6] [0, 3, 4, 5, 6])
 .ret))
abbrev v_q176 : List RV := [.tmp 2]
abbrev f_q176 : FuncId := 179
theorem k_q176 : closedOf Tryz.prog Tryz.f179 = (false, some true, some v_q176, some c_q176.plain, 7) := by kernel_rfl
theorem ac_q176 {args : List AV} {r : AV} (h : aw Tryz.prog c_q176 (env0 args) (endQ v_q176 r)) (hargs : args.length ≤ 7 := by decide) (hok : resOK r = true := by rfl) : AC Tryz.prog f_q176 args r :=
  AC_mk (by kernel_rfl) Tryz.func179 k_q176 hargs hok (by decide) h
def c_q177 : ACode :=
 (.seq
 (.region false [
 oo 2 (.mov (.const (.int .u64 0)))] [2])
 (.seq
 (.region true [
 om 3 0,
 oo 4 (.nilchk (.tmp 3)),
 oo 5 (.load false 1 (.tmp 4)),
 om 6 0,
 oo 7 (.nilchk (.tmp 6)),
 oo 8 (.load false 1 (.tmp 7)),
 oo 9 (.bin .shl 219 (.tmp 8) (.const (.int .u64 13))),
 oo 10 (.bin .xor 219 (.tmp 5) (.tmp 9)),
 oo 11 (.nilchk (.tmp 3)),
 ⟨none, .store 1 (.tmp 11) (.tmp 10), none⟩] [3, 4, 5, 6, 7, 8, 9, 10, 11])
 (.seq
 (.region true [
 om 12 0,
 oo 13 (.nilchk (.tmp 12)),
 oo 14 (.load false 1 (.tmp 13)),
 om 15 0,
 oo 16 (.nilchk (.tmp 15)),
 oo 17 (.load false 1 (.tmp 16)),
 oo 18 (.bin .shr 219 (.tmp 17) (.const (.int .u64 7))),
 oo 19 (.bin .xor 219 (.tmp 14) (.tmp 18)),
 oo 20 (.nilchk (.tmp 12)),
 ⟨none, .store 1 (.tmp 20) (.tmp 19), none⟩] [12, 13, 14, 15, 16, 17, 18, 19, 20])
 (.seq
 (.region true [
 om 21 0,
 oo 22 (.nilchk (.tmp 21)),
 oo 23 (.load false 1 (.tmp 22)),
 om 24 0,
 oo 25 (.nilchk (.tmp 24)),
 oo 26 (.load false 1 (.tmp 25)),
 oo 27 (.bin .shl 219 (.tmp 26) (.const (.int .u64 17))),
 oo 28 (.bin .xor 219 (.tmp 23) (.tmp 27)),
 oo 29 (.nilchk (.tmp 21)),
 ⟨none, .store 1 (.tmp 29) (.tmp 28), none⟩] [21, 22, 23, 24, 25, 26, 27, 28, 29])
 (.seq
 (.region false [
 om 30 0,
 oo 31 (.nilchk (.tmp 30)),
 oo 32 (.load false 1 (.tmp 31)),
 om 2 32] [0, 30, 31, 32])
 .ret)))))
abbrev v_q177 : List RV := [.tmp 2]
abbrev f_q177 : FuncId := 180
theorem k_q177 : closedOf Tryz.prog Tryz.f180 = (false, some true, some v_q177, some c_q177.plain, 33) := by kernel_rfl
theorem am_q177 {args : List AV} {c0 c1 : List (Nat × List AV)} {r : AV} (h : aw Tryz.prog c_q177 (env0M args c0) (endM v_q177 r (c0.map (·.1)) c1)) (hc0 : ∀ q ∈ c0, 100000 ≤ q.1) (hargs : args.length ≤ 33 := by decide) (hok : resOK r = true := by rfl) : AM Tryz.prog f_q177 args c0 r c1 :=
  AM_mk (by kernel_rfl) Tryz.func180 k_q177 hargs hok (by decide) hc0 h
def c_q178 : ACode :=
 (.seq
 (.region false [
 oo 6 (.mov (.const (.int .i64 0)))] [6])
 (.seq
 (.region false [
 om 7 0,
 om 8 1,
 oo 9 (.bin .sub 3 (.tmp 8) (.const (.int .i64 1))),
 om 10 1,
 om 11 1,
 oo 12 (.bin .add 3 (.tmp 11) (.const (.int .i64 1))),
 om 13 2,
 oo 14 (.callm 182 [.tmp 7, .tmp 9, .tmp 10, .tmp 12, .tmp 13]),
 om 6 14] [0, 1, 2, 7, 8, 9, 10, 11, 12, 13, 14])
 .ret))
abbrev v_q178 : List RV := [.tmp 6]
abbrev f_q178 : FuncId := 181
theorem k_q178 : closedOf Tryz.prog Tryz.f181 = (false, some true, some v_q178, some c_q178.plain, 15) := by kernel_rfl
theorem am_q178 {args : List AV} {c0 c1 : List (Nat × List AV)} {r : AV} (h : aw Tryz.prog c_q178 (env0M args c0) (endM v_q178 r (c0.map (·.1)) c1)) (hc0 : ∀ q ∈ c0, 100000 ≤ q.1) (hargs : args.length ≤ 15 := by decide) (hok : resOK r = true := by rfl) : AM Tryz.prog f_q178 args c0 r c1 :=
  AM_mk (by kernel_rfl) Tryz.func181 k_q178 hargs hok (by decide) hc0 h
def c_q179 : ACode :=
 (.seq
 (.region false [
 oo 10 (.mov (.const (.int .i64 0)))] [10])
 (.seq
 (.region false [
 om 12 0,
 om 13 1,
 om 14 2,
 om 15 4,
 oo 16 (.callm 187 [.tmp 12, .tmp 13, .tmp 14, .tmp 15]),
 om 11 16,
 oo 17 (.ext (.tmp 11) 0),
 oo 18 (.ext (.tmp 11) 1),
 om 1 17,
 om 2 18] [11, 12, 13, 14, 15, 16, 17, 18])
 (.seq
 (.region false [
 om 20 0,
 om 21 2,
 om 22 3,
 om 23 4,
 oo 24 (.callm 187 [.tmp 20, .tmp 21, .tmp 22, .tmp 23]),
 om 19 24,
 oo 25 (.ext (.tmp 19) 0),
 oo 26 (.ext (.tmp 19) 1),
 om 2 25,
 om 3 26] [3, 19, 20, 21, 22, 23, 24, 25, 26])
 (.seq
 (.region false [
 om 28 0,
 om 29 1,
 om 30 2,
 om 31 4,
 oo 32 (.callm 187 [.tmp 28, .tmp 29, .tmp 30, .tmp 31]),
 om 27 32,
 oo 33 (.ext (.tmp 27) 0),
 oo 34 (.ext (.tmp 27) 1),
 om 1 33,
 om 2 34] [0, 1, 4, 27, 28, 29, 30, 31, 32, 33, 34])
 (.seq
 (.region false [
 om 35 2,
 om 10 35] [2, 35])
 .ret)))))
abbrev v_q179 : List RV := [.tmp 10]
abbrev f_q179 : FuncId := 182
theorem k_q179 : closedOf Tryz.prog Tryz.f182 = (false, some true, some v_q179, some c_q179.plain, 36) := by kernel_rfl
theorem am_q179 {args : List AV} {c0 c1 : List (Nat × List AV)} {r : AV} (h : aw Tryz.prog c_q179 (env0M args c0) (endM v_q179 r (c0.map (·.1)) c1)) (hc0 : ∀ q ∈ c0, 100000 ≤ q.1) (hargs : args.length ≤ 36 := by decide) (hok : resOK r = true := by rfl) : AM Tryz.prog f_q179 args c0 r c1 :=
  AM_mk (by kernel_rfl) Tryz.func182 k_q179 hargs hok (by decide) hc0 h
def c_q180 : ACode :=
 (.seq
 (.region false [
 oo 2 (.mov (.const (.bool false)))] [2])
 (.seq
 (.region false [
 om 3 0,
 om 4 0,
 oo 5 (.bin .neq 32 (.tmp 3) (.tmp 4)),
 om 2 5] [0, 3, 4, 5])
 .ret))
abbrev v_q180 : List RV := [.tmp 2]
abbrev f_q180 : FuncId := 183
theorem k_q180 : closedOf Tryz.prog Tryz.f183 = (false, some true, some v_q180, some c_q180.plain, 6) := by kernel_rfl
theorem ac_q180 {args : List AV} {r : AV} (h : aw Tryz.prog c_q180 (env0 args) (endQ v_q180 r)) (hargs : args.length ≤ 6 := by decide) (hok : resOK r = true := by rfl) : AC Tryz.prog f_q180 args r :=
  AC_mk (by kernel_rfl) Tryz.func183 k_q180 hargs hok (by decide) h
def c_q183 : ACode :=
 (.seq
 (.region false [
 oo 8 (.mov (.const (.int .i64 0))),
 oo 9 (.mov (.const (.int .i64 0)))] [8, 9])
 (.seq
 (.seq
 (.region true [
 om 10 0,
 om 11 2,
 oo 12 (.iaddr 1 (.tmp 10) (.tmp 11)),
 oo 13 (.load false 1 (.tmp 12)),
 om 14 0,
 om 15 1,
 oo 16 (.iaddr 1 (.tmp 14) (.tmp 15)),
 oo 17 (.load false 1 (.tmp 16)),
 oo 18 (.call 154 [.tmp 13, .tmp 17])] [0, 10, 11, 12, 13, 14, 15, 16, 17])
 (.cond (.tmp 18)
 (.seq
 (.region false [
 om 19 3,
 oo 20 (.nilchk (.tmp 19)),
 oo 21 (.load false 1 (.tmp 20)),
 oo 22 (.bin .add 3 (.tmp 21) (.const (.int .i64 1))),
 oo 23 (.nilchk (.tmp 19)),
 ⟨none, .store 1 (.tmp 23) (.tmp 22), none⟩] [3, 18, 19, 20, 21, 22, 23])
 (.seq
 (.region false [
 om 24 2,
 om 25 1,
 om 8 24,
 om 9 25] [1, 2, 24, 25])
 .ret))
 .skip))
 (.seq
 (.region false [
 om 26 1,
 om 27 2,
 om 8 26,
 om 9 27] [1, 2, 3, 18, 26, 27])
 .ret)))
abbrev v_q183 : List RV := [.tmp 8, .tmp 9]
abbrev f_q183 : FuncId := 187
theorem k_q183 : closedOf Tryz.prog Tryz.f187 = (false, some true, some v_q183, some c_q183.plain, 28) := by kernel_rfl
theorem am_q183 {args : List AV} {c0 c1 : List (Nat × List AV)} {r : AV} (h : aw Tryz.prog c_q183 (env0M args c0) (endM v_q183 r (c0.map (·.1)) c1)) (hc0 : ∀ q ∈ c0, 100000 ≤ q.1) (hargs : args.length ≤ 28 := by decide) (hok : resOK r = true := by rfl) : AM Tryz.prog f_q183 args c0 r c1 :=
  AM_mk (by kernel_rfl) Tryz.func187 k_q183 hargs hok (by decide) hc0 h
end Go.Proofs.YtbgfkdpjnabhkaaGreatDoor.VL
end

attribute [go_sem_proc] Nat.reduceAdd Nat.reduceLT Nat.reduceEqDiff Nat.reduceBEq Nat.reduceLeDiff Nat.reduceSub Int.reduceToNat reduceCtorEq
attribute [go_sem_proc ↓] reduceIte
section
set_option maxHeartbeats 4000000
namespace Go.Proofs.YtbgfkdpjnabhkaaGreatDoor.VL
open Go.RowKit Go.Proofs
def avU (a : Nat) : AV := .lit (.int .u32 (a : Nat))
def avB (b : Nat) : AV := .lit (.int .u8 (b : Nat))
def avPfx (a : Nat) (b : Int) : AV := .agg [avU a, .lit (.int .i64 b)]
theorem nat_beq0 (n : Nat) : ((n : Int) == 0) = decide (n = 0) := by
  rw [Bool.eq_iff_iff]
  simp only [beq_iff_eq, decide_eq_true_eq]
  omega
theorem nat_beq (n m : Nat) : ((n : Int) == (m : Int)) = decide (n = m) := by
  rw [Bool.eq_iff_iff]
  simp only [beq_iff_eq, decide_eq_true_eq]
  omega
theorem c0 : ((0 : Nat) : Int) = 0 := rfl
theorem c1 : ((1 : Nat) : Int) = 1 := rfl
theorem c2 : ((2 : Nat) : Int) = 2 := rfl
theorem c3 : ((3 : Nat) : Int) = 3 := rfl
theorem c4 : ((4 : Nat) : Int) = 4 := rfl
theorem v0 : IntKind.i64.wrap 0 = 0 := by decide
theorem v1 : IntKind.i64.wrap 1 = 1 := by decide
theorem v2 : IntKind.i64.wrap 2 = 2 := by decide
theorem v3 : IntKind.i64.wrap 3 = 3 := by decide
theorem v4 : IntKind.i64.wrap 4 = 4 := by decide
theorem v8 : IntKind.i64.wrap 8 = 8 := by decide
theorem v16 : IntKind.i64.wrap 16 = 16 := by decide
theorem v24 : IntKind.i64.wrap 24 = 24 := by decide
def avStr (s : ByteArray) : AV := .lit (.string s)
def cl32 (b : Int) : Nat := if b < 0 then 0 else if 32 < b then 32 else b.toNat
theorem cl32_le (b : Int) : cl32 b ≤ 32 := by unfold cl32; split <;> (try split) <;> omega
theorem cl32_eq (b : Int) (h0 : 0 ≤ b) (h1 : b ≤ 32) : cl32 b = b.toNat := by unfold cl32; rw [if_neg (by omega), if_neg (by omega)]
theorem C_Mask (b : Int) : AC Tryz.prog f_q101 [.lit (.int .i64 b)] (avU (mskN (cl32 b))) := by
  refine ac_q101 ?_ (Nat.le_add_left 1 9)
  have hc := cl32_le b
  have e : (if (32 : Int) < (if b < 0 then 0 else b) then (32 : Int) else (if b < 0 then 0 else b)) = ((cl32 b : Nat) : Int) := by
    unfold cl32
    split <;> split <;> (try split) <;> omega
  have e2 := avBin_shr 32 .u32 .i64 4294967295 ((cl32 b : Nat) : Int) (by omega) (by simp [IntKind.bits]; omega)
  simp only [go_sem, c_q101, avMm_max2, avMm_min2, e, e2, avU]
  have hp := pow32_le (32 - cl32 b) (by omega)
  have e3 : (4294967295 : Int) / 2 ^ (((cl32 b : Nat) : Int).toNat) = ((2 ^ (32 - cl32 b) - 1 : Nat) : Int) := by
    rw [Int.toNat_natCast]
    have h1 : 2 ^ 32 = 2 ^ (cl32 b) * 2 ^ (32 - cl32 b) := by rw [← Nat.pow_add]; congr 1; omega
    have h2 : (4294967295 : Nat) / 2 ^ (cl32 b) = 2 ^ (32 - cl32 b) - 1 := by
      have hq := Nat.one_le_two_pow (n := cl32 b)
      rw [Nat.div_eq_iff (by omega)]
      constructor
      · have : (2 ^ (32 - cl32 b) - 1) * 2 ^ (cl32 b) = 2 ^ 32 - 2 ^ (cl32 b) := by rw [Nat.sub_mul, Nat.one_mul, Nat.mul_comm, ← h1]
        rw [this]
        have : (2 : Nat) ^ 32 = 4294967296 := rfl
        omega
      · have : (2 ^ (32 - cl32 b) - 1) * 2 ^ (cl32 b) = 2 ^ 32 - 2 ^ (cl32 b) := by rw [Nat.sub_mul, Nat.one_mul, Nat.mul_comm, ← h1]
        have : (2 : Nat) ^ 32 = 4294967296 := rfl
        have : 2 ^ (cl32 b) ≤ 2 ^ 32 := Nat.pow_le_pow_right (by decide) hc
        omega
    have h3 : ((4294967295 : Nat) : Int) / ((2 ^ (cl32 b) : Nat) : Int) = ((4294967295 / 2 ^ (cl32 b) : Nat) : Int) := (Int.natCast_ediv _ _).symm
    rw [h2] at h3
    rw [← h3]
    simp
  have e4 : bits .xor .u32 (if IntKind.u32.signed = true then -1 else IntKind.u32.max) ((2 ^ (32 - cl32 b) - 1 : Nat) : Int) = ((mskN (cl32 b) : Nat) : Int) := by
    have : (if IntKind.u32.signed = true then (-1 : Int) else IntKind.u32.max) = ((4294967295 : Nat) : Int) := by decide
    rw [this, u32_xor_nat _ _ (by decide) (by omega), xor_max _ (by omega)]
    unfold mskN
    congr 1
    omega
  rw [e3, e4]
def validN (a : Nat) (b : Int) : Bool := decide (0 ≤ b) && (decide (b ≤ 32) && decide (a % 2 ^ (32 - b.toNat) = 0))
theorem C_Valid (a : Nat) (b : Int) (ha : a < 4294967296) : AC Tryz.prog f_q100 [avPfx a b] (.lit (.bool (validN a b))) := by
  refine ac_q100 ?_ (Nat.le_add_left 1 19)
  by_cases h0 : 0 ≤ b
  · by_cases h1 : b ≤ 32
    · have e0 : decide (0 ≤ b) = true := by simpa using h0
      have e1 : decide (b ≤ 32) = true := by simpa using h1
      simp only [go_sem, c_q100, avPfx, avU, e0, e1]
      refine callX_of (C_Mask b) ?_
      simp only [go_sem, c_q100, avU, e0, e1, u32_nmsk a _ ha]
      rw [cl32_eq b h0 h1, nat_beq0]
      simp [validN, e0, e1]
    · have e0 : decide (0 ≤ b) = true := by simpa using h0
      have e1 : decide (b ≤ 32) = false := by simpa using h1
      simp only [go_sem, c_q100, avPfx, avU, e0, e1]
      simp [validN, e0, e1]
  · have e0 : decide (0 ≤ b) = false := by simpa using h0
    simp only [go_sem, c_q100, avPfx, avU, e0]
    simp [validN, e0]
def inN (p : Nat) (b : Int) (x : Nat) : Bool := validN p b && decide (x - x % 2 ^ (32 - b.toNat) = p)
theorem validN_bounds {a : Nat} {b : Int} (h : validN a b = true) : 0 ≤ b ∧ b ≤ 32 := by
  simp only [validN, Bool.and_eq_true, decide_eq_true_eq] at h
  exact ⟨h.1, h.2.1⟩
theorem C_In (p : Nat) (b : Int) (x : Nat) (hp : p < 4294967296) (hx : x < 4294967296) : AC Tryz.prog f_q56 [avPfx p b, avU x] (.lit (.bool (inN p b x))) := by
  refine ac_q56 ?_ (Nat.le_add_left 2 15)
  cases hv : validN p b with
  | false =>
    simp only [go_sem, c_q56, avPfx, avU]
    refine callX_of (C_Valid p b hp) ?_
    simp only [go_sem, hv]
    simp [inN, hv]
  | true =>
    obtain ⟨h0, h1⟩ := validN_bounds hv
    simp only [go_sem, c_q56, avPfx, avU]
    refine callX_of (C_Valid p b hp) ?_
    simp only [go_sem, hv]
    refine callX_of (C_Mask b) ?_
    simp only [go_sem, avU, u32_msk x _ hx]
    rw [cl32_eq b h0 h1, nat_beq]
    simp [inN, hv]
def withinN (p : Nat) (b : Int) (q : Nat) (c : Int) : Bool := validN p b && (decide (c ≤ b) && inN q c p)
theorem C_Within (p : Nat) (b : Int) (q : Nat) (c : Int) (hp : p < 4294967296) (hq : q < 4294967296) : AC Tryz.prog f_q130 [avPfx p b, avPfx q c] (.lit (.bool (withinN p b q c))) := by
  refine ac_q130 ?_ (Nat.le_add_left 2 18)
  cases hv : validN p b with
  | false =>
    simp only [go_sem, c_q130, avPfx, avU]
    refine callX_of (C_Valid p b hp) ?_
    simp only [go_sem, hv]
    simp [withinN, hv]
  | true =>
    cases hc : decide (c ≤ b) with
    | false =>
      simp only [go_sem, c_q130, avPfx, avU]
      refine callX_of (C_Valid p b hp) ?_
      simp only [go_sem, hv, hc]
      simp [withinN, hv, hc]
    | true =>
      simp only [go_sem, c_q130, avPfx, avU]
      refine callX_of (C_Valid p b hp) ?_
      simp only [go_sem, hv, hc]
      refine callX_of (C_In q c p hq hp) ?_
      simp only [go_sem, hv, hc]
      simp [withinN, hv, hc]
def bytN (a i : Nat) : Nat := a / 2 ^ (8 * (3 - i)) % 256
def avBytes (b : Nat → Nat) : AV := .agg [avB (b 0), avB (b 1), avB (b 2), avB (b 3)]
def bytesTo (a : Nat) (k : Nat) : List AV := [avB (if 0 < k then bytN a 0 else 0), avB (if 1 < k then bytN a 1 else 0), avB (if 2 < k then bytN a 2 else 0), avB (if 3 < k then bytN a 3 else 0)]
theorem byte_wrap (a s : Nat) : IntKind.u8.wrap ((a : Int) / 2 ^ s) = ((a / 2 ^ s % 256 : Nat) : Int) := by
  rw [IntKind.wrap_u8]
  simp
theorem C_Bytes (a : Nat) (ha : a < 4294967296) : AC Tryz.prog f_q99 [avU a] (avBytes (bytN a)) := by
  refine ac_q99 ?_ (Nat.le_add_left 1 17)
  simp only [go_sem, c_q99, avU]
  refine aw_loop (fun m E => ∃ k : Nat, k + m = 4 ∧ E = mkE [(0, avU a), (2, .lp 2 0), (3, .lp 3 0), (5, .lit (.int .i64 (k : Nat)))] [(2, [.lit (.int .u8 0), .lit (.int .u8 0), .lit (.int .u8 0), .lit (.int .u8 0)]), (3, bytesTo a k)]) 4 ?_ ?_
  · exact ⟨0, by omega, by simp only [go_sem]; rfl⟩
  · rintro m _ ⟨k, hk, rfl⟩
    have s0 := avBin_shr 32 .u32 .i64 (a : Int)
    have w24 := s0 24 (by decide) (by decide)
    have w16 := s0 16 (by decide) (by decide)
    have w8 := s0 8 (by decide) (by decide)
    have w0 := s0 0 (by decide) (by decide)
    have b24 := byte_wrap a 24
    have b16 := byte_wrap a 16
    have b8 := byte_wrap a 8
    have b0 := byte_wrap a 0
    match k, hk with
    | 0, hk =>
      simp only [go_sem, bytesTo, avU, avB, w24, b24, c0, c1, c2, c3, c4, Int.reduceSub, Int.reduceMul, Int.reduceAdd, Int.reduceLT, Int.reduceLE, Nat.reduceMul, decide_true, decide_false, v0, v1, v2, v3, v4, v8, v16, v24]
      exact ⟨m - 1, by omega, 1, by omega, rfl⟩
    | 1, hk =>
      simp only [go_sem, bytesTo, avU, avB, w16, b16, c0, c1, c2, c3, c4, Int.reduceSub, Int.reduceMul, Int.reduceAdd, Int.reduceLT, Int.reduceLE, Nat.reduceMul, decide_true, decide_false, v0, v1, v2, v3, v4, v8, v16, v24]
      exact ⟨m - 1, by omega, 2, by omega, rfl⟩
    | 2, hk =>
      simp only [go_sem, bytesTo, avU, avB, w8, b8, c0, c1, c2, c3, c4, Int.reduceSub, Int.reduceMul, Int.reduceAdd, Int.reduceLT, Int.reduceLE, Nat.reduceMul, decide_true, decide_false, v0, v1, v2, v3, v4, v8, v16, v24]
      exact ⟨m - 1, by omega, 3, by omega, rfl⟩
    | 3, hk =>
      simp only [go_sem, bytesTo, avU, avB, w0, b0, c0, c1, c2, c3, c4, Int.reduceSub, Int.reduceMul, Int.reduceAdd, Int.reduceLT, Int.reduceLE, Nat.reduceMul, decide_true, decide_false, v0, v1, v2, v3, v4, v8, v16, v24]
      exact ⟨m - 1, by omega, 4, by omega, rfl⟩
    | 4, hk =>
      simp only [go_sem, bytesTo, avBytes, avB, c0, c1, c2, c3, c4, Int.reduceSub, Int.reduceMul, Int.reduceAdd, Int.reduceLT, Int.reduceLE, Nat.reduceMul, decide_true, decide_false, v0, v1, v2, v3, v4, v8, v16, v24]
    | k + 5, hk => omega
def ofB (b : Nat → Nat) : Nat → Nat
  | 0 => 0
  | k + 1 => ofB b k * 256 + b k
theorem ofB_lt (b : Nat → Nat) : ∀ k, (∀ i, i < k → b i < 256) → ofB b k < 256 ^ k
  | 0, _ => by simp [ofB]
  | k + 1, h => by
    have h1 := ofB_lt b k fun i hi => h i (by omega)
    have h2 := h k (by omega)
    simp only [ofB, Nat.pow_succ]
    omega
theorem or_join (x b : Nat) (hx : x < 16777216) (hb : b < 256) : bits .or .u32 (IntKind.u32.wrap ((x : Int) * 2 ^ 8)) (IntKind.u32.wrap (b : Int)) = ((x * 256 + b : Nat) : Int) := by
  have e1 : IntKind.u32.wrap ((x : Int) * 2 ^ 8) = ((x * 256 : Nat) : Int) := by
    rw [IntKind.wrap_u32, show (2 : Int) ^ 8 = 256 from rfl]
    omega
  have e2 : IntKind.u32.wrap (b : Int) = ((b : Nat) : Int) := by rw [IntKind.wrap_u32]; omega
  rw [e1, e2, u32_or_nat _ _ (by omega) (by omega), nat_join 8 _ _ (by simp [Nat.mul_mod_left]) hb]
theorem C_Of (b : Nat → Nat) (hb : ∀ i, i < 4 → b i < 256) : AC Tryz.prog f_q169 [avBytes b] (avU (ofB b 4)) := by
  refine ac_q169 ?_ (Nat.le_add_left 1 16)
  simp only [go_sem, c_q169, avBytes, avB]
  refine aw_loop (fun m E => ∃ k : Nat, k + m = 4 ∧ E = mkE [(3, avU (ofB b k)), (6, avBytes b), (7, .lit (.int .i64 (k : Nat)))] [(1, [avB (b 0), avB (b 1), avB (b 2), avB (b 3)])]) 4 ?_ ?_
  · exact ⟨0, by omega, by simp only [go_sem]; rfl⟩
  · rintro m _ ⟨k, hk, rfl⟩
    have hs := fun u => avBin_shl 32 .u32 .u64 u 8 (by decide) (by decide)
    match k, hk with
    | 0, hk =>
      have hj := or_join (ofB b 0) (b 0) (Nat.lt_of_lt_of_le (ofB_lt b 0 fun i hi => hb i (by omega)) (by decide)) (hb 0 (by decide))
      simp only [go_sem, avBytes, avU, avB, hs, hj, c0, c1, c2, c3, c4, Int.reduceSub, Int.reduceMul, Int.reduceAdd, Int.reduceLT, Int.reduceLE, Nat.reduceMul, decide_true, decide_false, v0, v1, v2, v3, v4, v8, v16, v24]
      exact ⟨m - 1, by omega, 1, by omega, rfl⟩
    | 1, hk =>
      have hj := or_join (ofB b 1) (b 1) (Nat.lt_of_lt_of_le (ofB_lt b 1 fun i hi => hb i (by omega)) (by decide)) (hb 1 (by decide))
      simp only [go_sem, avBytes, avU, avB, hs, hj, c0, c1, c2, c3, c4, Int.reduceSub, Int.reduceMul, Int.reduceAdd, Int.reduceLT, Int.reduceLE, Nat.reduceMul, decide_true, decide_false, v0, v1, v2, v3, v4, v8, v16, v24]
      exact ⟨m - 1, by omega, 2, by omega, rfl⟩
    | 2, hk =>
      have hj := or_join (ofB b 2) (b 2) (Nat.lt_of_lt_of_le (ofB_lt b 2 fun i hi => hb i (by omega)) (by decide)) (hb 2 (by decide))
      simp only [go_sem, avBytes, avU, avB, hs, hj, c0, c1, c2, c3, c4, Int.reduceSub, Int.reduceMul, Int.reduceAdd, Int.reduceLT, Int.reduceLE, Nat.reduceMul, decide_true, decide_false, v0, v1, v2, v3, v4, v8, v16, v24]
      exact ⟨m - 1, by omega, 3, by omega, rfl⟩
    | 3, hk =>
      have hj := or_join (ofB b 3) (b 3) (Nat.lt_of_lt_of_le (ofB_lt b 3 fun i hi => hb i (by omega)) (by decide)) (hb 3 (by decide))
      simp only [go_sem, avBytes, avU, avB, hs, hj, c0, c1, c2, c3, c4, Int.reduceSub, Int.reduceMul, Int.reduceAdd, Int.reduceLT, Int.reduceLE, Nat.reduceMul, decide_true, decide_false, v0, v1, v2, v3, v4, v8, v16, v24]
      exact ⟨m - 1, by omega, 4, by omega, rfl⟩
    | 4, hk => simp only [go_sem, avU, c0, c1, c2, c3, c4, Int.reduceSub, Int.reduceMul, Int.reduceAdd, Int.reduceLT, Int.reduceLE, Nat.reduceMul, decide_true, decide_false, v0, v1, v2, v3, v4, v8, v16, v24]
    | k + 5, hk => omega
def groupN (a : Nat) : Bool := decide (3758096384 ≤ a) && decide (a < 4026531840)
theorem C_Group (a : Nat) (ha : a < 4294967296) : AC Tryz.prog f_q55 [avU a] (.lit (.bool (groupN a))) := by
  refine ac_q55 ?_ (Nat.le_add_left 1 _)
  simp only [go_sem, c_q55, avU]
  refine callX_of (C_Bytes a ha) ?_
  have e0 : bytN a 0 = a / 16777216 := by simp only [bytN, Nat.sub_zero, Nat.reduceMul, Nat.reducePow]; omega
  simp only [go_sem, avBytes, avB, c0, c1, c2, c3, c4, Int.reduceLT, Int.reduceLE, Nat.reduceMul, e0]
  by_cases h : 224 ≤ a / 16777216
  · have h1 : ((224 : Int) ≤ ((a / 16777216 : Nat) : Int)) = True := eq_true (by omega)
    have h2 : decide (3758096384 ≤ a) = true := by simp only [decide_eq_true_eq]; omega
    have h3 : decide (((a / 16777216 : Nat) : Int) ≤ 239) = decide (a < 4026531840) := by rw [decide_eq_decide]; omega
    simp only [go_sem, h1, decide_true, c4, c0, Int.reduceLT, Int.reduceLE, Nat.reduceMul, h3, groupN, h2, Bool.true_and]
  · have h1 : ((224 : Int) ≤ ((a / 16777216 : Nat) : Int)) = False := eq_false (by omega)
    have h2 : decide (3758096384 ≤ a) = false := by simp only [decide_eq_false_iff_not]; omega
    simp only [go_sem, h1, decide_false, groupN, h2, Bool.false_and]
end Go.Proofs.YtbgfkdpjnabhkaaGreatDoor.VL
end

section
set_option maxHeartbeats 4000000
namespace Go.Proofs.YtbgfkdpjnabhkaaGreatDoor.VL
open Go.RowKit Go.Proofs
theorem wrap_nat (n : Nat) (h : n < 9223372036854775808) : IntKind.i64.wrap (n : Int) = n := by
  have := (IntKind.wrap_i64 (n : Int))
  omega
theorem wrap_succ (k : Nat) (h : k + 1 < 9223372036854775808) : IntKind.i64.wrap ((k : Int) + 1) = ((k + 1 : Nat) : Int) := wrap_nat (k + 1) h
theorem C_Number (n b : Int) (hb : 0 < b) (hb' : b < 9223372036854775808) : AC Tryz.prog f_q15 [.lit (.int .i64 n), .lit (.int .i64 b)] (.lit (.int .i64 (n % b))) := by
  refine ac_q15 ?_ (Nat.le_add_left 2 13)
  have h0 : (b == 0) = false := by simp; omega
  simp only [go_sem, c_q15, h0]
  have e0 := Int.emod_nonneg n (show b ≠ 0 by omega)
  have e1 := Int.emod_lt_of_pos n hb
  have key : n.tmod b = n % b ∧ 0 ≤ n ∨ n.tmod b = n % b ∧ n % b = 0 ∨ n.tmod b = n % b - b ∧ ¬ n % b = 0 := by
    rw [Int.tmod_eq_emod]
    by_cases h1 : 0 ≤ n
    · simp [h1]
    · by_cases h2 : b ∣ n
      · have := Int.emod_eq_zero_of_dvd h2
        simp [h2, this]
      · have h3 : ¬ n % b = 0 := fun h => h2 (Int.dvd_of_emod_eq_zero h)
        have h4 : (b.natAbs : Int) = b := by omega
        simp only [h1, h2, or_self, if_false, h4]
        exact .inr (.inr ⟨trivial, h3⟩)
  refine condX_of (fun h => ?_) (fun h => ?_)
  · have h' : n.tmod b < 0 := by simpa using h
    have hw : IntKind.i64.wrap (n.tmod b + b) = n % b := by
      rw [IntKind.wrap_i64]
      omega
    simp only [go_sem, hw]
  · have h' : ¬ n.tmod b < 0 := by simpa using h
    have hw : n.tmod b = n % b := by
      omega
    simp only [go_sem, hw]
end Go.Proofs.YtbgfkdpjnabhkaaGreatDoor.VL
end

section
set_option maxHeartbeats 4000000
namespace Go.Proofs.YtbgfkdpjnabhkaaGreatDoor.VL
open Go.RowKit Go.Proofs
theorem avIxs_l (s : ByteArray) (q : IntKind) (k : Nat) (b : UInt8) (h : s.data.toList[k]? = some b) : avIxs (.lit (.string s)) (.lit (.int q (k : Nat))) = some (.lit (.int .u8 ((b.toNat : Nat) : Int))) := by
  have hk : k < s.data.toList.length := (List.getElem?_eq_some_iff.1 h).1
  have hk' : k < s.size := by rw [Lib.size_eq]; exact hk
  rw [avIxs_at s q k hk']
  have e : s[k] = b := by
    have h2 := (List.getElem?_eq_some_iff.1 h).2
    rw [← h2]
    simp [ByteArray.getElem_eq_getElem_data]
  rw [e]
def letterN (c : Nat) : Bool := decide (97 ≤ c) && decide (c ≤ 122)
theorem C_letter (c : Nat) : AC Tryz.prog f_q166 [.lit (.int .u8 (c : Nat))] (.lit (.bool (letterN c))) := by
  refine ac_q166 ?_ (Nat.le_add_left 1 _)
  have e1 : decide ((97 : Int) ≤ (c : Int)) = decide (97 ≤ c) := by rw [decide_eq_decide]; omega
  have e2 : decide ((c : Int) ≤ 122) = decide (c ≤ 122) := by rw [decide_eq_decide]; omega
  unfold letterN
  cases h : decide (97 ≤ c)
  · simp only [go_sem, c_q166, e1, e2, h, Bool.false_and]
  · simp only [go_sem, c_q166, e1, e2, h, Bool.true_and]
def signN (c : Nat) : Bool := letterN c || (c == 45 || (decide (48 ≤ c) && decide (c ≤ 57)))
def hd0 : Option UInt8 → Bool
  | some b => letterN b.toNat
  | none => false
def nameOK (l : List UInt8) : Bool := decide (1 ≤ l.length) && (decide (l.length ≤ 12) && (hd0 l[0]? && l.all fun b => signN b.toNat))
def errN (ok : Bool) : AV := if ok = true then .lit .nilIface else .gl 6
theorem gs1 : (6 ∈ GS) = True := eq_true (by simp [GS])
theorem C_Name (s : ByteArray) (hs : s.size < 9223372036854775808) : AC Tryz.prog f_q124 [avStr s] (errN (nameOK s.data.toList)) := by
  refine ac_q124 ?_ (Nat.le_add_left 1 _) (by unfold errN; split <;> rfl)
  have hsz : s.size = s.data.toList.length := Lib.size_eq s
  simp only [go_sem, c_q124, avStr]
  generalize hL : s.data.toList = l at hsz
  by_cases h1 : l.length < 1
  · have e1 : ((s.size : Int) < 1) = True := eq_true (by omega)
    have e : nameOK l = false := by simp [nameOK]; omega
    simp only [go_sem, e1, decide_true, e, errN, gs1, Bool.false_eq_true]
  have e1 : ((s.size : Int) < 1) = False := eq_false (by omega)
  by_cases h2 : 12 < l.length
  · have e2 : ((12 : Int) < (s.size : Int)) = True := eq_true (by omega)
    have e : nameOK l = false := by simp [nameOK]; omega
    simp only [go_sem, e1, e2, decide_true, decide_false, e, errN, gs1, Bool.false_eq_true]
  have e2 : ((12 : Int) < (s.size : Int)) = False := eq_false (by omega)
  obtain ⟨b0, hb0⟩ : ∃ b, l[0]? = some b := ⟨l[0], List.getElem?_eq_getElem (by omega)⟩
  have i0 := avIxs_l s .i64 0 b0 (by rw [hL]; exact hb0)
  rw [show ((0 : Nat) : Int) = 0 from rfl] at i0
  simp only [go_sem, e1, e2, decide_true, decide_false, i0]
  refine callX_of (C_letter b0.toNat) ?_
  cases h3 : letterN b0.toNat
  · have e : nameOK l = false := by simp [nameOK, hd0, hb0, h3]
    simp only [go_sem, h3, e, errN, gs1, Bool.false_eq_true]
  simp only [go_sem, h3]
  have e0 : nameOK l = l.all fun b => signN b.toNat := by
    have g1 : decide (1 ≤ l.length) = true := by simp only [decide_eq_true_eq]; omega
    have g2 : decide (l.length ≤ 12) = true := by simp only [decide_eq_true_eq]; omega
    simp only [nameOK, hd0, g1, g2, hb0, h3, Bool.true_and]
  rw [e0]
  refine aw_loop (fun m E => ∃ k : Nat, k + m = l.length ∧ (l.take k).all (fun b => signN b.toNat) = true ∧ E = mkE [(0, .lit (.string s)), (21, .lit (.int .i64 (s.size : Nat))), (22, .lit (.int .i64 (k : Nat)))] []) l.length ?_ ?_
  · exact ⟨0, by omega, rfl, by simp only [go_sem]; rfl⟩
  · rintro m _ ⟨k, hk, hall, rfl⟩
    by_cases hkl : k < l.length
    · have f1 : ((k : Int) < (s.size : Int)) = True := eq_true (by omega)
      obtain ⟨b, hb⟩ : ∃ b, l[k]? = some b := ⟨l[k], List.getElem?_eq_getElem hkl⟩
      have ib := avIxs_l s .i64 k b (by rw [hL]; exact hb)
      have w1 := wrap_succ k (by omega)
      have hstep : (l.take (k + 1)).all (fun b => signN b.toNat) = signN b.toNat := by
        rw [List.take_add_one, hb, List.all_append, hall]
        simp
      have hbad : signN b.toNat = false → (l.all fun b => signN b.toNat) = false := fun h => by
        rw [List.all_eq_false]
        exact ⟨b, List.mem_of_getElem? hb, by simp [h]⟩
      simp only [go_sem, f1, decide_true, ib]
      refine callX_of (C_letter b.toNat) ?_
      cases hl : letterN b.toNat
      · by_cases h45 : b.toNat = 45
        · have e45 : (((b.toNat : Nat) : Int) != 45) = false := by rw [h45]; rfl
          have hs1 : signN b.toNat = true := by simp [signN, h45]
          simp only [go_sem, hl, e45, w1]
          exact ⟨m - 1, by omega, k + 1, by omega, by rw [hstep, hs1], rfl⟩
        · have e45 : (((b.toNat : Nat) : Int) != 45) = true := by simp only [bne_iff_ne, ne_eq]; omega
          by_cases h48 : b.toNat < 48
          · have e48 : (((b.toNat : Nat) : Int) < 48) = True := eq_true (by omega)
            have hs1 : signN b.toNat = false := by simp [signN, hl, h45]; omega
            simp only [go_sem, hl, e45, e48, decide_true, hbad hs1, errN, gs1, Bool.false_eq_true]
          · have e48 : (((b.toNat : Nat) : Int) < 48) = False := eq_false (by omega)
            by_cases h57 : 57 < b.toNat
            · have e57 : ((57 : Int) < ((b.toNat : Nat) : Int)) = True := eq_true (by omega)
              have hs1 : signN b.toNat = false := by simp [signN, hl, h45]; omega
              simp only [go_sem, hl, e45, e48, e57, decide_true, decide_false, hbad hs1, errN, gs1, Bool.false_eq_true]
            · have e57 : ((57 : Int) < ((b.toNat : Nat) : Int)) = False := eq_false (by omega)
              have hs1 : signN b.toNat = true := by simp [signN]; omega
              simp only [go_sem, hl, e45, e48, e57, decide_false, w1]
              exact ⟨m - 1, by omega, k + 1, by omega, by rw [hstep, hs1], rfl⟩
      · have hs1 : signN b.toNat = true := by simp [signN, hl]
        simp only [go_sem, hl, w1]
        exact ⟨m - 1, by omega, k + 1, by omega, by rw [hstep, hs1], rfl⟩
    · have f1 : ((k : Int) < (s.size : Int)) = False := eq_false (by omega)
      rw [List.take_of_length_le (by omega)] at hall
      simp only [go_sem, f1, decide_false, hall, errN]
end Go.Proofs.YtbgfkdpjnabhkaaGreatDoor.VL
end

section
set_option maxHeartbeats 4000000
namespace Go.Proofs.YtbgfkdpjnabhkaaGreatDoor.VL
open Go.RowKit Go.Proofs
def costN (n : Int) : Bool := decide (0 ≤ n) && decide (n ≤ 65535)
theorem C_cost (n : Int) : AC Tryz.prog f_q127 [.lit (.int .i64 n)] (.lit (.bool (costN n))) := by
  refine ac_q127 ?_ (Nat.le_add_left 1 _)
  unfold costN
  cases h : decide (0 ≤ n)
  · simp only [go_sem, c_q127, h, Bool.false_and]
  · simp only [go_sem, c_q127, h, Bool.true_and]
def placeN (i n : Int) : Bool := decide (0 ≤ i) && decide (i < n)
theorem C_place (i n : Int) : AC Tryz.prog f_q132 [.lit (.int .i64 i), .lit (.int .i64 n)] (.lit (.bool (placeN i n))) := by
  refine ac_q132 ?_ (Nat.le_add_left 2 _)
  unfold placeN
  cases h : decide (0 ≤ i)
  · simp only [go_sem, c_q132, h, Bool.false_and]
  · simp only [go_sem, c_q132, h, Bool.true_and]
def hostN (a : Nat) : Bool := !(a == 0) && !groupN a
theorem C_host (a : Nat) (ha : a < 4294967296) : AC Tryz.prog f_q136 [avU a] (.lit (.bool (hostN a))) := by
  refine ac_q136 ?_ (Nat.le_add_left 1 _)
  unfold hostN
  have e : ((a : Int) != 0) = !(a == 0) := by rw [bne, nat_beq0]; rfl
  cases h : a == 0
  · simp only [go_sem, c_q136, avU, e, h, Bool.not_false, Bool.true_and]
    refine callX_of (C_Group a ha) ?_
    simp only [go_sem, h, Bool.not_false]
  · simp only [go_sem, c_q136, avU, e, h, Bool.not_true, Bool.false_and]
theorem C_groups : AC Tryz.prog f_q131 [] (avPfx 3758096384 4) := by
  refine ac_q131 ?_ (Nat.zero_le _)
  have h := C_Of (fun i => if i = 0 then 224 else 0) (fun i _ => by show (if i = 0 then 224 else 0) < 256; split <;> decide)
  have e : ofB (fun i => if i = 0 then 224 else 0) 4 = 3758096384 := by decide
  rw [e] at h
  simp only [go_sem, c_q131, avPfx]
  refine callX_of h ?_
  simp only [go_sem, avU]
  try rfl
end Go.Proofs.YtbgfkdpjnabhkaaGreatDoor.VL
end

section
set_option maxHeartbeats 4000000
namespace Go.Proofs.YtbgfkdpjnabhkaaGreatDoor.VL
open Go.RowKit Go.Proofs
def idxOf {α : Type} (p : α → Bool) (l : List α) : Int := match l.findIdx? p with
  | some i => (i : Nat)
  | none => -1
theorem idxOf_none {α : Type} {p : α → Bool} {l : List α} (h : ∀ (i : Nat) (x : α), l[i]? = some x → p x = false) : idxOf p l = -1 := by
  have : l.findIdx? p = none := by
    rw [List.findIdx?_eq_none_iff]
    intro x hx
    obtain ⟨i, hi, e⟩ := List.mem_iff_getElem.1 hx
    exact h i x (by rw [List.getElem?_eq_getElem hi, e])
  rw [idxOf, this]
theorem idxOf_some {α : Type} {p : α → Bool} {l : List α} {i : Nat} {x : α} (hx : l[i]? = some x) (hp : p x = true) (h : ∀ (j : Nat) (y : α), j < i → l[j]? = some y → p y = false) : idxOf p l = (i : Nat) := by
  have : l.findIdx? p = some i := by
    rw [List.findIdx?_eq_some_iff_getElem]
    obtain ⟨hi, e⟩ := List.getElem?_eq_some_iff.1 hx
    refine ⟨hi, by rw [e]; exact hp, fun j hj => ?_⟩
    rw [h j l[j] hj (List.getElem?_eq_getElem (by omega))]
    simp
  rw [idxOf, this]
theorem any_idx {α : Type} (p : α → Bool) (l : List α) : decide (0 ≤ idxOf p l) = l.any p := by
  cases h : l.findIdx? p with
  | none =>
    have e : idxOf p l = -1 := by rw [idxOf, h]
    rw [e]
    rw [List.findIdx?_eq_none_iff] at h
    have : l.any p = false := by
      rw [List.any_eq_false]
      intro x hx
      simp [h x hx]
    rw [this]
    rfl
  | some i =>
    have e : idxOf p l = (i : Nat) := by rw [idxOf, h]
    rw [e]
    rw [List.findIdx?_eq_some_iff_getElem] at h
    obtain ⟨hi, hp, _⟩ := h
    have : l.any p = true := List.any_eq_true.2 ⟨l[i], List.getElem_mem hi, hp⟩
    rw [this]
    simp
def rowV {α : Type} (e : Nat) (f : α → AV) : Option (List α) → AV
  | none => .sl .nil 0 []
  | some l => .sl .none e (l.map f)
theorem rowV_cases {α : Type} (e : Nat) (f : α → AV) (s : Option (List α)) : ∃ t e', rowV e f s = .sl t e' ((s.getD []).map f) ∧ lowTok t = t ∧ goneB t = false ∧ frB t = false ∧ (e' = e ∨ s.getD [] = []) ∧ (t = .none ∨ t = .nil ∧ s.getD [] = []) := by
  cases s with
  | none => exact ⟨.nil, 0, rfl, rfl, rfl, rfl, .inr rfl, .inr ⟨rfl, rfl⟩⟩
  | some l => exact ⟨.none, e, rfl, rfl, rfl, rfl, .inl rfl, .inl rfl⟩
structure NRt where
  nm : ByteArray
  rank : Int
deriving DecidableEq
def avRouter (x : NRt) : AV := .agg [avStr x.nm, .lit (.int .i64 x.rank)]
structure NLk where
  nm : ByteArray
  a : Nat
  b : Int
deriving DecidableEq
def avLink (x : NLk) : AV := .agg [avStr x.nm, avU x.a, .lit (.int .i64 x.b)]
structure NPt where
  rt : Int
  lk : Int
  a : Nat
deriving DecidableEq
def avPort (x : NPt) : AV := .agg [.lit (.int .i64 x.rt), .lit (.int .i64 x.lk), avU x.a]
structure NRo where
  rt : Int
  a : Nat
  b : Int
  via : Nat
  cost : Int
deriving DecidableEq
def avRoute (x : NRo) : AV := .agg [.lit (.int .i64 x.rt), avU x.a, .lit (.int .i64 x.b), avU x.via, .lit (.int .i64 x.cost)]
structure NRg where
  a : Nat
  b : Int
  root : Nat
deriving DecidableEq
def avRange (x : NRg) : AV := .agg [avU x.a, .lit (.int .i64 x.b), avU x.root]
structure NSc where
  lk : Int
  s : Nat
  g : Nat
deriving DecidableEq
def avSource (x : NSc) : AV := .agg [.lit (.int .i64 x.lk), avU x.s, avU x.g]
theorem C_IndexFuncRouter {f : FuncId} {fst caps : List AV} {asf : NRt → List AV} {p : NRt → Bool} (t : Tok) (e : Nat) (l : List NRt) (hf : frB t = false) (he : e = 2 ∨ l = []) (hl : l.length < 9223372036854775808)
    (hlow : ∀ n, mapO (lower (getC []) 8) (fst ++ [(avRouter n)] ++ caps) = some (asf n)) (hAC : ∀ n ∈ l, AC Tryz.prog f (asf n) (.lit (.bool (p n)))) :
    AC Tryz.prog f_q167 [.sl t e (l.map avRouter), .clo (.func f) fst caps] (.lit (.int .i64 (idxOf p l))) := by
  refine ac_q167 ?_ (Nat.le_add_left 2 17)
  simp only [go_sem, c_q167]
  refine aw_loop (fun m E => ∃ k, k + m = l.length ∧ (∀ (j : Nat) (y : NRt), j < k → l[j]? = some y → p y = false) ∧ E = mkE [(0, .sl t e (l.map avRouter)), (1, .clo (.func f) fst caps), (7, .lit (.int .i64 l.length)), (8, .lit (.int .i64 (k : Nat)))] []) l.length ?_ ?_
  · exact ⟨0, by omega, fun j y hj => absurd hj (Nat.not_lt_zero j), by simp only [go_sem, Int.ofNat_zero]⟩
  · rintro m _ ⟨k, hk, hall, rfl⟩
    simp only [go_sem]
    refine condX_of (fun h => ?_) (fun h => ?_)
    · have hkl : k < l.length := by simpa using h
      obtain rfl : e = 2 := he.resolve_right (fun h => by rw [h] at hkl; simp at hkl)
      obtain ⟨x, hx⟩ : ∃ x, l[k]? = some x := ⟨l[k], List.getElem?_eq_getElem hkl⟩
      have hw := wrap_succ k (by omega)
      have hlx := hlow x
      simp only [avRouter, avStr, avU] at hlx
      simp only [go_sem, h, hx, Int.toNat_natCast, Int.natCast_nonneg, List.getElem?_map, avRow_some, hf, avRouter, avStr, avU, hlx]
      refine callX_of (hAC x (List.mem_of_getElem? hx)) ?_
      cases hp : p x
      · simp only [go_sem, hw]
        refine ⟨m - 1, by omega, k + 1, by omega, fun j y hj hy => ?_, rfl⟩
        by_cases hjk : j = k
        · subst hjk
          rw [hx] at hy
          injection hy with hy
          rw [← hy]
          exact hp
        · exact hall j y (by omega) hy
      · simp only [go_sem, idxOf_some hx hp hall]
    · have hkl : k = l.length := by have : ¬ k < l.length := by simpa using h
                                    omega
      have e : idxOf p l = -1 := idxOf_none fun i x hi => hall i x (by have := (List.getElem?_eq_some_iff.1 hi).1; omega) hi
      simp only [go_sem, h, e]
theorem C_IndexFuncLink {f : FuncId} {fst caps : List AV} {asf : NLk → List AV} {p : NLk → Bool} (t : Tok) (e : Nat) (l : List NLk) (hf : frB t = false) (he : e = 3 ∨ l = []) (hl : l.length < 9223372036854775808)
    (hlow : ∀ n, mapO (lower (getC []) 8) (fst ++ [(avLink n)] ++ caps) = some (asf n)) (hAC : ∀ n ∈ l, AC Tryz.prog f (asf n) (.lit (.bool (p n)))) :
    AC Tryz.prog f_q168 [.sl t e (l.map avLink), .clo (.func f) fst caps] (.lit (.int .i64 (idxOf p l))) := by
  refine ac_q168 ?_ (Nat.le_add_left 2 17)
  simp only [go_sem, c_q168]
  refine aw_loop (fun m E => ∃ k, k + m = l.length ∧ (∀ (j : Nat) (y : NLk), j < k → l[j]? = some y → p y = false) ∧ E = mkE [(0, .sl t e (l.map avLink)), (1, .clo (.func f) fst caps), (7, .lit (.int .i64 l.length)), (8, .lit (.int .i64 (k : Nat)))] []) l.length ?_ ?_
  · exact ⟨0, by omega, fun j y hj => absurd hj (Nat.not_lt_zero j), by simp only [go_sem, Int.ofNat_zero]⟩
  · rintro m _ ⟨k, hk, hall, rfl⟩
    simp only [go_sem]
    refine condX_of (fun h => ?_) (fun h => ?_)
    · have hkl : k < l.length := by simpa using h
      obtain rfl : e = 3 := he.resolve_right (fun h => by rw [h] at hkl; simp at hkl)
      obtain ⟨x, hx⟩ : ∃ x, l[k]? = some x := ⟨l[k], List.getElem?_eq_getElem hkl⟩
      have hw := wrap_succ k (by omega)
      have hlx := hlow x
      simp only [avLink, avStr, avU] at hlx
      simp only [go_sem, h, hx, Int.toNat_natCast, Int.natCast_nonneg, List.getElem?_map, avRow_some, hf, avLink, avStr, avU, hlx]
      refine callX_of (hAC x (List.mem_of_getElem? hx)) ?_
      cases hp : p x
      · simp only [go_sem, hw]
        refine ⟨m - 1, by omega, k + 1, by omega, fun j y hj hy => ?_, rfl⟩
        by_cases hjk : j = k
        · subst hjk
          rw [hx] at hy
          injection hy with hy
          rw [← hy]
          exact hp
        · exact hall j y (by omega) hy
      · simp only [go_sem, idxOf_some hx hp hall]
    · have hkl : k = l.length := by have : ¬ k < l.length := by simpa using h
                                    omega
      have e : idxOf p l = -1 := idxOf_none fun i x hi => hall i x (by have := (List.getElem?_eq_some_iff.1 hi).1; omega) hi
      simp only [go_sem, h, e]
theorem C_IndexFuncPort {f : FuncId} {fst caps : List AV} {asf : NPt → List AV} {p : NPt → Bool} (t : Tok) (e : Nat) (l : List NPt) (hf : frB t = false) (he : e = 3 ∨ l = []) (hl : l.length < 9223372036854775808)
    (hlow : ∀ n, mapO (lower (getC []) 8) (fst ++ [(avPort n)] ++ caps) = some (asf n)) (hAC : ∀ n ∈ l, AC Tryz.prog f (asf n) (.lit (.bool (p n)))) :
    AC Tryz.prog f_q170 [.sl t e (l.map avPort), .clo (.func f) fst caps] (.lit (.int .i64 (idxOf p l))) := by
  refine ac_q170 ?_ (Nat.le_add_left 2 17)
  simp only [go_sem, c_q170]
  refine aw_loop (fun m E => ∃ k, k + m = l.length ∧ (∀ (j : Nat) (y : NPt), j < k → l[j]? = some y → p y = false) ∧ E = mkE [(0, .sl t e (l.map avPort)), (1, .clo (.func f) fst caps), (7, .lit (.int .i64 l.length)), (8, .lit (.int .i64 (k : Nat)))] []) l.length ?_ ?_
  · exact ⟨0, by omega, fun j y hj => absurd hj (Nat.not_lt_zero j), by simp only [go_sem, Int.ofNat_zero]⟩
  · rintro m _ ⟨k, hk, hall, rfl⟩
    simp only [go_sem]
    refine condX_of (fun h => ?_) (fun h => ?_)
    · have hkl : k < l.length := by simpa using h
      obtain rfl : e = 3 := he.resolve_right (fun h => by rw [h] at hkl; simp at hkl)
      obtain ⟨x, hx⟩ : ∃ x, l[k]? = some x := ⟨l[k], List.getElem?_eq_getElem hkl⟩
      have hw := wrap_succ k (by omega)
      have hlx := hlow x
      simp only [avPort, avStr, avU] at hlx
      simp only [go_sem, h, hx, Int.toNat_natCast, Int.natCast_nonneg, List.getElem?_map, avRow_some, hf, avPort, avStr, avU, hlx]
      refine callX_of (hAC x (List.mem_of_getElem? hx)) ?_
      cases hp : p x
      · simp only [go_sem, hw]
        refine ⟨m - 1, by omega, k + 1, by omega, fun j y hj hy => ?_, rfl⟩
        by_cases hjk : j = k
        · subst hjk
          rw [hx] at hy
          injection hy with hy
          rw [← hy]
          exact hp
        · exact hall j y (by omega) hy
      · simp only [go_sem, idxOf_some hx hp hall]
    · have hkl : k = l.length := by have : ¬ k < l.length := by simpa using h
                                    omega
      have e : idxOf p l = -1 := idxOf_none fun i x hi => hall i x (by have := (List.getElem?_eq_some_iff.1 hi).1; omega) hi
      simp only [go_sem, h, e]
theorem C_IndexFuncRange {f : FuncId} {fst caps : List AV} {asf : NRg → List AV} {p : NRg → Bool} (t : Tok) (e : Nat) (l : List NRg) (hf : frB t = false) (he : e = 3 ∨ l = []) (hl : l.length < 9223372036854775808)
    (hlow : ∀ n, mapO (lower (getC []) 8) (fst ++ [(avRange n)] ++ caps) = some (asf n)) (hAC : ∀ n ∈ l, AC Tryz.prog f (asf n) (.lit (.bool (p n)))) :
    AC Tryz.prog f_q171 [.sl t e (l.map avRange), .clo (.func f) fst caps] (.lit (.int .i64 (idxOf p l))) := by
  refine ac_q171 ?_ (Nat.le_add_left 2 17)
  simp only [go_sem, c_q171]
  refine aw_loop (fun m E => ∃ k, k + m = l.length ∧ (∀ (j : Nat) (y : NRg), j < k → l[j]? = some y → p y = false) ∧ E = mkE [(0, .sl t e (l.map avRange)), (1, .clo (.func f) fst caps), (7, .lit (.int .i64 l.length)), (8, .lit (.int .i64 (k : Nat)))] []) l.length ?_ ?_
  · exact ⟨0, by omega, fun j y hj => absurd hj (Nat.not_lt_zero j), by simp only [go_sem, Int.ofNat_zero]⟩
  · rintro m _ ⟨k, hk, hall, rfl⟩
    simp only [go_sem]
    refine condX_of (fun h => ?_) (fun h => ?_)
    · have hkl : k < l.length := by simpa using h
      obtain rfl : e = 3 := he.resolve_right (fun h => by rw [h] at hkl; simp at hkl)
      obtain ⟨x, hx⟩ : ∃ x, l[k]? = some x := ⟨l[k], List.getElem?_eq_getElem hkl⟩
      have hw := wrap_succ k (by omega)
      have hlx := hlow x
      simp only [avRange, avStr, avU] at hlx
      simp only [go_sem, h, hx, Int.toNat_natCast, Int.natCast_nonneg, List.getElem?_map, avRow_some, hf, avRange, avStr, avU, hlx]
      refine callX_of (hAC x (List.mem_of_getElem? hx)) ?_
      cases hp : p x
      · simp only [go_sem, hw]
        refine ⟨m - 1, by omega, k + 1, by omega, fun j y hj hy => ?_, rfl⟩
        by_cases hjk : j = k
        · subst hjk
          rw [hx] at hy
          injection hy with hy
          rw [← hy]
          exact hp
        · exact hall j y (by omega) hy
      · simp only [go_sem, idxOf_some hx hp hall]
    · have hkl : k = l.length := by have : ¬ k < l.length := by simpa using h
                                    omega
      have e : idxOf p l = -1 := idxOf_none fun i x hi => hall i x (by have := (List.getElem?_eq_some_iff.1 hi).1; omega) hi
      simp only [go_sem, h, e]
theorem C_IndexFuncSource {f : FuncId} {fst caps : List AV} {asf : NSc → List AV} {p : NSc → Bool} (t : Tok) (e : Nat) (l : List NSc) (hf : frB t = false) (he : e = 3 ∨ l = []) (hl : l.length < 9223372036854775808)
    (hlow : ∀ n, mapO (lower (getC []) 8) (fst ++ [(avSource n)] ++ caps) = some (asf n)) (hAC : ∀ n ∈ l, AC Tryz.prog f (asf n) (.lit (.bool (p n)))) :
    AC Tryz.prog f_q172 [.sl t e (l.map avSource), .clo (.func f) fst caps] (.lit (.int .i64 (idxOf p l))) := by
  refine ac_q172 ?_ (Nat.le_add_left 2 17)
  simp only [go_sem, c_q172]
  refine aw_loop (fun m E => ∃ k, k + m = l.length ∧ (∀ (j : Nat) (y : NSc), j < k → l[j]? = some y → p y = false) ∧ E = mkE [(0, .sl t e (l.map avSource)), (1, .clo (.func f) fst caps), (7, .lit (.int .i64 l.length)), (8, .lit (.int .i64 (k : Nat)))] []) l.length ?_ ?_
  · exact ⟨0, by omega, fun j y hj => absurd hj (Nat.not_lt_zero j), by simp only [go_sem, Int.ofNat_zero]⟩
  · rintro m _ ⟨k, hk, hall, rfl⟩
    simp only [go_sem]
    refine condX_of (fun h => ?_) (fun h => ?_)
    · have hkl : k < l.length := by simpa using h
      obtain rfl : e = 3 := he.resolve_right (fun h => by rw [h] at hkl; simp at hkl)
      obtain ⟨x, hx⟩ : ∃ x, l[k]? = some x := ⟨l[k], List.getElem?_eq_getElem hkl⟩
      have hw := wrap_succ k (by omega)
      have hlx := hlow x
      simp only [avSource, avStr, avU] at hlx
      simp only [go_sem, h, hx, Int.toNat_natCast, Int.natCast_nonneg, List.getElem?_map, avRow_some, hf, avSource, avStr, avU, hlx]
      refine callX_of (hAC x (List.mem_of_getElem? hx)) ?_
      cases hp : p x
      · simp only [go_sem, hw]
        refine ⟨m - 1, by omega, k + 1, by omega, fun j y hj hy => ?_, rfl⟩
        by_cases hjk : j = k
        · subst hjk
          rw [hx] at hy
          injection hy with hy
          rw [← hy]
          exact hp
        · exact hall j y (by omega) hy
      · simp only [go_sem, idxOf_some hx hp hall]
    · have hkl : k = l.length := by have : ¬ k < l.length := by simpa using h
                                    omega
      have e : idxOf p l = -1 := idxOf_none fun i x hi => hall i x (by have := (List.getElem?_eq_some_iff.1 hi).1; omega) hi
      simp only [go_sem, h, e]
end Go.Proofs.YtbgfkdpjnabhkaaGreatDoor.VL
end

section
set_option maxHeartbeats 4000000
namespace Go.Proofs.YtbgfkdpjnabhkaaGreatDoor.VL
open Go.RowKit Go.Proofs
theorem nat_beqb (n m : Nat) : ((n : Int) == (m : Int)) = (n == m) := by
  rw [Bool.eq_iff_iff]
  simp only [beq_iff_eq]
  omega
def p_router_1 (x : NRt) (y : NRt) : Bool := y.nm.toList == x.nm.toList
theorem C_router_1 (x : NRt) (y : NRt) : AC Tryz.prog f_q126 [avRouter y, .bp [avStr x.nm, .lit (.int .i64 x.rank)]] (.lit (.bool (p_router_1 x y))) := by
  refine ac_q126 ?_ (Nat.le_add_left 2 _)
  unfold p_router_1
  simp only [go_sem, c_q126, avRouter, avStr, avU, nat_beqb]
theorem C_has_router_1 (x : NRt) (t : Tok) (e : Nat) (l : List NRt) (ht : lowTok t = t) (hf : frB t = false) (he : e = 2 ∨ l = []) (hl : l.length < 9223372036854775808) :
    AC Tryz.prog f_q125 [.sl t e (l.map avRouter), .clo (.func f_q126) [] [.bp [avStr x.nm, .lit (.int .i64 x.rank)]]] (.lit (.bool (l.any (p_router_1 x)))) := by
  refine ac_q125 ?_ (Nat.le_add_left 2 _)
  simp only [go_sem, c_q125, avStr, avU, ht]
  refine callX_of (C_IndexFuncRouter (asf := fun y => [avRouter y, .bp [avStr x.nm, .lit (.int .i64 x.rank)]]) (p := p_router_1 x) t e l hf he hl (fun y => ?_) (fun y hy => C_router_1 x y)) ?_
  · simp only [go_sem, avRouter, avStr, avU, lower]
  · simp only [go_sem, any_idx]
def p_link_1 (x : NLk) (y : NLk) : Bool := y.nm.toList == x.nm.toList
theorem C_link_1 (x : NLk) (y : NLk) : AC Tryz.prog f_q129 [avLink y, .bp [avStr x.nm, avU x.a, .lit (.int .i64 x.b)]] (.lit (.bool (p_link_1 x y))) := by
  refine ac_q129 ?_ (Nat.le_add_left 2 _)
  unfold p_link_1
  simp only [go_sem, c_q129, avLink, avStr, avU, nat_beqb]
theorem C_has_link_1 (x : NLk) (t : Tok) (e : Nat) (l : List NLk) (ht : lowTok t = t) (hf : frB t = false) (he : e = 3 ∨ l = []) (hl : l.length < 9223372036854775808) :
    AC Tryz.prog f_q128 [.sl t e (l.map avLink), .clo (.func f_q129) [] [.bp [avStr x.nm, avU x.a, .lit (.int .i64 x.b)]]] (.lit (.bool (l.any (p_link_1 x)))) := by
  refine ac_q128 ?_ (Nat.le_add_left 2 _)
  simp only [go_sem, c_q128, avStr, avU, ht]
  refine callX_of (C_IndexFuncLink (asf := fun y => [avLink y, .bp [avStr x.nm, avU x.a, .lit (.int .i64 x.b)]]) (p := p_link_1 x) t e l hf he hl (fun y => ?_) (fun y hy => C_link_1 x y)) ?_
  · simp only [go_sem, avLink, avStr, avU, lower]
  · simp only [go_sem, any_idx]
def p_port_1 (x : NPt) (y : NPt) : Bool := y.a == x.a || (y.rt == x.rt && y.lk == x.lk)
theorem C_port_1 (x : NPt) (y : NPt) : AC Tryz.prog f_q135 [avPort y, .bp [.lit (.int .i64 x.rt), .lit (.int .i64 x.lk), avU x.a]] (.lit (.bool (p_port_1 x y))) := by
  refine ac_q135 ?_ (Nat.le_add_left 2 _)
  unfold p_port_1
  cases e0 : (y.a == x.a) <;> cases e1 : (y.rt == x.rt) <;> simp only [go_sem, c_q135, avPort, avStr, avU, nat_beqb, e0, e1, Bool.true_and, Bool.false_and, Bool.true_or, Bool.false_or, Bool.or_true, Bool.or_false, bne]
theorem C_has_port_1 (x : NPt) (t : Tok) (e : Nat) (l : List NPt) (ht : lowTok t = t) (hf : frB t = false) (he : e = 3 ∨ l = []) (hl : l.length < 9223372036854775808) :
    AC Tryz.prog f_q134 [.sl t e (l.map avPort), .clo (.func f_q135) [] [.bp [.lit (.int .i64 x.rt), .lit (.int .i64 x.lk), avU x.a]]] (.lit (.bool (l.any (p_port_1 x)))) := by
  refine ac_q134 ?_ (Nat.le_add_left 2 _)
  simp only [go_sem, c_q134, avStr, avU, ht]
  refine callX_of (C_IndexFuncPort (asf := fun y => [avPort y, .bp [.lit (.int .i64 x.rt), .lit (.int .i64 x.lk), avU x.a]]) (p := p_port_1 x) t e l hf he hl (fun y => ?_) (fun y hy => C_port_1 x y)) ?_
  · simp only [go_sem, avPort, avStr, avU, lower]
  · simp only [go_sem, any_idx]
def p_ranges_1 (x : NRg) (y : NRg) : Bool := y.a == x.a && y.b == x.b
theorem C_ranges_1 (x : NRg) (y : NRg) : AC Tryz.prog f_q138 [avRange y, .bp [avU x.a, .lit (.int .i64 x.b), avU x.root]] (.lit (.bool (p_ranges_1 x y))) := by
  refine ac_q138 ?_ (Nat.le_add_left 2 _)
  unfold p_ranges_1
  cases e0 : (y.a == x.a) <;> simp only [go_sem, c_q138, avRange, avStr, avU, nat_beqb, e0, Bool.true_and, Bool.false_and, Bool.true_or, Bool.false_or, Bool.or_true, Bool.or_false, bne]
theorem C_has_ranges_1 (x : NRg) (t : Tok) (e : Nat) (l : List NRg) (ht : lowTok t = t) (hf : frB t = false) (he : e = 3 ∨ l = []) (hl : l.length < 9223372036854775808) :
    AC Tryz.prog f_q137 [.sl t e (l.map avRange), .clo (.func f_q138) [] [.bp [avU x.a, .lit (.int .i64 x.b), avU x.root]]] (.lit (.bool (l.any (p_ranges_1 x)))) := by
  refine ac_q137 ?_ (Nat.le_add_left 2 _)
  simp only [go_sem, c_q137, avStr, avU, ht]
  refine callX_of (C_IndexFuncRange (asf := fun y => [avRange y, .bp [avU x.a, .lit (.int .i64 x.b), avU x.root]]) (p := p_ranges_1 x) t e l hf he hl (fun y => ?_) (fun y hy => C_ranges_1 x y)) ?_
  · simp only [go_sem, avRange, avStr, avU, lower]
  · simp only [go_sem, any_idx]
def p_source_1 (x : NSc) (y : NSc) : Bool := (y.s == x.s && y.g == x.g) || (y.s == x.s && y.lk != x.lk)
theorem C_source_1 (x : NSc) (y : NSc) : AC Tryz.prog f_q140 [avSource y, .bp [.lit (.int .i64 x.lk), avU x.s, avU x.g]] (.lit (.bool (p_source_1 x y))) := by
  refine ac_q140 ?_ (Nat.le_add_left 2 _)
  unfold p_source_1
  cases e0 : (y.s == x.s) <;> cases e1 : (y.g == x.g) <;> simp only [go_sem, c_q140, avSource, avStr, avU, nat_beqb, e0, e1, Bool.true_and, Bool.false_and, Bool.true_or, Bool.false_or, Bool.or_true, Bool.or_false, bne]
theorem C_has_source_1 (x : NSc) (t : Tok) (e : Nat) (l : List NSc) (ht : lowTok t = t) (hf : frB t = false) (he : e = 3 ∨ l = []) (hl : l.length < 9223372036854775808) :
    AC Tryz.prog f_q139 [.sl t e (l.map avSource), .clo (.func f_q140) [] [.bp [.lit (.int .i64 x.lk), avU x.s, avU x.g]]] (.lit (.bool (l.any (p_source_1 x)))) := by
  refine ac_q139 ?_ (Nat.le_add_left 2 _)
  simp only [go_sem, c_q139, avStr, avU, ht]
  refine callX_of (C_IndexFuncSource (asf := fun y => [avSource y, .bp [.lit (.int .i64 x.lk), avU x.s, avU x.g]]) (p := p_source_1 x) t e l hf he hl (fun y => ?_) (fun y hy => C_source_1 x y)) ?_
  · simp only [go_sem, avSource, avStr, avU, lower]
  · simp only [go_sem, any_idx]
def p_source_2 (x : NSc) (y : NPt) : Bool := y.a == x.s
theorem C_source_2 (x : NSc) (y : NPt) : AC Tryz.prog f_q141 [avPort y, .bp [.lit (.int .i64 x.lk), avU x.s, avU x.g]] (.lit (.bool (p_source_2 x y))) := by
  refine ac_q141 ?_ (Nat.le_add_left 2 _)
  unfold p_source_2
  simp only [go_sem, c_q141, avPort, avStr, avU, nat_beqb]
theorem C_has_source_2 (x : NSc) (t : Tok) (e : Nat) (l : List NPt) (ht : lowTok t = t) (hf : frB t = false) (he : e = 3 ∨ l = []) (hl : l.length < 9223372036854775808) :
    AC Tryz.prog f_q134 [.sl t e (l.map avPort), .clo (.func f_q141) [] [.bp [.lit (.int .i64 x.lk), avU x.s, avU x.g]]] (.lit (.bool (l.any (p_source_2 x)))) := by
  refine ac_q134 ?_ (Nat.le_add_left 2 _)
  simp only [go_sem, c_q134, avStr, avU, ht]
  refine callX_of (C_IndexFuncPort (asf := fun y => [avPort y, .bp [.lit (.int .i64 x.lk), avU x.s, avU x.g]]) (p := p_source_2 x) t e l hf he hl (fun y => ?_) (fun y hy => C_source_2 x y)) ?_
  · simp only [go_sem, avPort, avStr, avU, lower]
  · simp only [go_sem, any_idx]
end Go.Proofs.YtbgfkdpjnabhkaaGreatDoor.VL
end

section
set_option maxHeartbeats 4000000
namespace Go.Proofs.YtbgfkdpjnabhkaaGreatDoor.VL
open Go.RowKit Go.Proofs
structure NMb where
  lk : Int
  g : Nat
  only : Bool
  src : Option (List Nat)
def avMember (x : NMb) : AV := .agg [.lit (.int .i64 x.lk), avU x.g, .lit (.bool x.only), rowV 1 avU x.src]
structure Net where
  rts : Option (List NRt)
  lks : Option (List NLk)
  pts : Option (List NPt)
  ros : Option (List NRo)
  rgs : Option (List NRg)
  scs : Option (List NSc)
  mbs : Option (List NMb)
def netL (c : Net) : List AV := [rowV 2 avRouter c.rts, rowV 3 avLink c.lks, rowV 3 avPort c.pts, rowV 5 avRoute c.ros, rowV 3 avRange c.rgs, rowV 3 avSource c.scs, rowV 4 avMember c.mbs]
def amiss : Option Nat → AV
  | none => .lit .nilIface
  | some g => .gl g
def rtOf (l : List NRt) (i : Nat) (x : NRt) : Option Nat :=
  if nameOK x.nm.data.toList = false then some 6 else if (l.take i).any (p_router_1 x) = true then some 1 else if costN x.rank = false then some 2 else none
theorem headSl {α : Type} (f : α → AV) (n : Nat) (l : List α) (i : Nat) (h : i ≤ l.length) : avSl n .none n (l.map f) (some ((0 : Nat) : Int)) (some (i : Int)) = some (.sl .none n ((l.take i).map f)) := by
  rw [avSl_some n .none (l.map f) _ _ rfl ⟨by omega, by omega, by rw [List.length_map]; omega⟩]
  rw [List.map_take]
  simp [aval.cutTok]
theorem rowAgg (n : Nat) (cs : List AV) : avRow n n .none (some (.agg cs)) = if (AV.agg cs).row = true then some (rowP .none (.agg cs)) else none := avRow_some n .none (.agg cs) rfl
theorem C_router (c : Net) (l : List NRt) (hc : c.rts = some l) (i : Nat) (x : NRt) (hx : l[i]? = some x) (hl : l.length < 9223372036854775808) (hn : x.nm.size < 9223372036854775808) :
    AC Tryz.prog f_q83 [.agg (netL c), .lit (.int .i64 (i : Nat))] (amiss (rtOf l i x)) := by
  have hi : i < l.length := (List.getElem?_eq_some_iff.1 hx).1
  refine ac_q83 ?_ (Nat.le_add_left 2 _) (by unfold rtOf; split <;> (try split) <;> (try split) <;> rfl)
  obtain ⟨t2, e2, r2, lt2, gt2, ft2, _⟩ := rowV_cases 3 avLink c.lks
  obtain ⟨t3, e3, r3, lt3, gt3, ft3, _⟩ := rowV_cases 3 avPort c.pts
  obtain ⟨t4, e4, r4, lt4, gt4, ft4, _⟩ := rowV_cases 5 avRoute c.ros
  obtain ⟨t5, e5, r5, lt5, gt5, ft5, _⟩ := rowV_cases 3 avRange c.rgs
  obtain ⟨t6, e6, r6, lt6, gt6, ft6, _⟩ := rowV_cases 3 avSource c.scs
  obtain ⟨t7, e7, r7, lt7, gt7, ft7, _⟩ := rowV_cases 4 avMember c.mbs
  have r1 : rowV 2 avRouter (some l) = .sl .none 2 (l.map avRouter) := rfl
  simp only [go_sem, c_q83, netL, hc, r1, r2, r3, r4, r5, r6, r7, lt2, lt3, lt4, lt5, lt6, lt7, gt2, gt3, gt4, gt5, gt6, gt7, Int.toNat_natCast, Int.natCast_nonneg, List.getElem?_map, hx, rowAgg, avRouter, avStr]
  refine callX_of (C_Name x.nm hn) ?_
  cases h1 : nameOK x.nm.data.toList
  · simp only [go_sem, errN, h1, gs1, rtOf, amiss, Bool.false_eq_true, if_true]
  have sl1 := headSl avRouter 2 l i (by omega)
  simp only [go_sem, errN, h1, Int.toNat_natCast, Int.natCast_nonneg, sl1]
  have hC := C_has_router_1 x .none 2 (l.take i) rfl rfl (.inl rfl) (by rw [List.length_take]; omega)
  simp only [avStr] at hC
  refine callX_of hC ?_
  have g2 : (1 ∈ GS) = True := eq_true (by simp [GS])
  have g3 : (2 ∈ GS) = True := eq_true (by simp [GS])
  cases h2 : (l.take i).any (p_router_1 x)
  · simp only [go_sem, h2]
    refine callX_of (C_cost x.rank) ?_
    cases h3 : costN x.rank
    · simp only [go_sem, h3, g3, rtOf, h1, h2, amiss, Bool.not_false, Bool.true_eq_false, Bool.false_eq_true]
    · simp only [go_sem, h3, rtOf, h1, h2, amiss, Bool.not_true, Bool.true_eq_false, Bool.false_eq_true]
  · simp only [go_sem, h2, g2, rtOf, h1, amiss, Bool.true_eq_false, Bool.false_eq_true]
end Go.Proofs.YtbgfkdpjnabhkaaGreatDoor.VL
end

section
set_option maxHeartbeats 4000000
namespace Go.Proofs.YtbgfkdpjnabhkaaGreatDoor.VL
open Go.RowKit Go.Proofs
theorem g_twice : (1 ∈ GS) = True := eq_true (by simp [GS])
theorem g_range : (2 ∈ GS) = True := eq_true (by simp [GS])
theorem g_kind : (3 ∈ GS) = True := eq_true (by simp [GS])
def lkOf (l : List NLk) (i : Nat) (x : NLk) : Option Nat :=
  if nameOK x.nm.data.toList = false then some 6 else if (l.take i).any (p_link_1 x) = true then some 1 else if validN x.a x.b = false then some 2
  else if (withinN x.a x.b 3758096384 4 || withinN 3758096384 4 x.a x.b) = true then some 3 else none
theorem C_link (c : Net) (l : List NLk) (hc : c.lks = some l) (i : Nat) (x : NLk) (hx : l[i]? = some x) (hl : l.length < 9223372036854775808) (hn : x.nm.size < 9223372036854775808) (ha : x.a < 4294967296) :
    AC Tryz.prog f_q84 [.agg (netL c), .lit (.int .i64 (i : Nat))] (amiss (lkOf l i x)) := by
  have hi : i < l.length := (List.getElem?_eq_some_iff.1 hx).1
  refine ac_q84 ?_ (Nat.le_add_left 2 _) (by unfold lkOf; split <;> (try split) <;> (try split) <;> (try split) <;> rfl)
  obtain ⟨t2, e2, r2, lt2, gt2, ft2, _⟩ := rowV_cases 2 avRouter c.rts
  obtain ⟨t3, e3, r3, lt3, gt3, ft3, _⟩ := rowV_cases 3 avPort c.pts
  obtain ⟨t4, e4, r4, lt4, gt4, ft4, _⟩ := rowV_cases 5 avRoute c.ros
  obtain ⟨t5, e5, r5, lt5, gt5, ft5, _⟩ := rowV_cases 3 avRange c.rgs
  obtain ⟨t6, e6, r6, lt6, gt6, ft6, _⟩ := rowV_cases 3 avSource c.scs
  obtain ⟨t7, e7, r7, lt7, gt7, ft7, _⟩ := rowV_cases 4 avMember c.mbs
  have r1 : rowV 3 avLink (some l) = .sl .none 3 (l.map avLink) := rfl
  simp only [go_sem, c_q84, netL, hc, r1, r2, r3, r4, r5, r6, r7, lt2, lt3, lt4, lt5, lt6, lt7, gt2, gt3, gt4, gt5, gt6, gt7, Int.toNat_natCast, Int.natCast_nonneg, List.getElem?_map, hx, rowAgg, avLink, avStr, avU]
  refine callX_of (C_Name x.nm hn) ?_
  cases h1 : nameOK x.nm.data.toList
  · simp only [go_sem, errN, h1, gs1, lkOf, amiss, Bool.false_eq_true, if_true]
  have sl1 := headSl avLink 3 l i (by omega)
  simp only [go_sem, errN, h1, Int.toNat_natCast, Int.natCast_nonneg, sl1]
  have hC := C_has_link_1 x .none 3 (l.take i) rfl rfl (.inl rfl) (by rw [List.length_take]; omega)
  simp only [avStr, avU] at hC
  refine callX_of hC ?_
  cases h2 : (l.take i).any (p_link_1 x)
  · simp only [go_sem, h2]
    refine callX_of (C_Valid x.a x.b ha) ?_
    cases h3 : validN x.a x.b
    · simp only [go_sem, h3, g_range, lkOf, h1, h2, amiss, Bool.not_false, Bool.true_eq_false, Bool.false_eq_true]
    simp only [go_sem, h3, Bool.not_true]
    refine callX_of C_groups ?_
    simp only [go_sem, avPfx, avU]
    refine callX_of (C_Within x.a x.b 3758096384 4 ha (by decide)) ?_
    cases h4 : withinN x.a x.b 3758096384 4
    · simp only [go_sem, h4]
      refine callX_of C_groups ?_
      simp only [go_sem, avPfx, avU]
      refine callX_of (C_Within 3758096384 4 x.a x.b (by decide) ha) ?_
      cases h5 : withinN 3758096384 4 x.a x.b
      · simp only [go_sem, h5, lkOf, h1, h2, h3, h4, amiss, Bool.or_false, Bool.true_eq_false, Bool.false_eq_true]
      · simp only [go_sem, h5, g_kind, lkOf, h1, h2, h3, h4, amiss, Bool.false_or, Bool.true_eq_false, Bool.false_eq_true]
    · simp only [go_sem, h4, g_kind, lkOf, h1, h2, h3, amiss, Bool.true_or, Bool.true_eq_false, Bool.false_eq_true]
  · simp only [go_sem, h2, g_twice, lkOf, h1, amiss, Bool.true_eq_false, Bool.false_eq_true]
end Go.Proofs.YtbgfkdpjnabhkaaGreatDoor.VL
end

section
set_option maxHeartbeats 4000000
namespace Go.Proofs.YtbgfkdpjnabhkaaGreatDoor.VL
open Go.RowKit Go.Proofs
def onN (y : NLk) (a : Nat) : Bool := !(a == 0) && inN y.a y.b a
theorem C_on (c : Net) (l : List NLk) (hc : c.lks = some l) (k : Nat) (y : NLk) (hy : l[k]? = some y) (a : Nat) (ha : a < 4294967296) (hp : y.a < 4294967296) :
    AC Tryz.prog f_q133 [.agg (netL c), .lit (.int .i64 (k : Nat)), avU a] (.lit (.bool (onN y a))) := by
  refine ac_q133 ?_ (Nat.le_add_left 3 _)
  obtain ⟨t2, e2, r2, lt2, gt2, ft2, _⟩ := rowV_cases 2 avRouter c.rts
  obtain ⟨t3, e3, r3, lt3, gt3, ft3, _⟩ := rowV_cases 3 avPort c.pts
  obtain ⟨t4, e4, r4, lt4, gt4, ft4, _⟩ := rowV_cases 5 avRoute c.ros
  obtain ⟨t5, e5, r5, lt5, gt5, ft5, _⟩ := rowV_cases 3 avRange c.rgs
  obtain ⟨t6, e6, r6, lt6, gt6, ft6, _⟩ := rowV_cases 3 avSource c.scs
  obtain ⟨t7, e7, r7, lt7, gt7, ft7, _⟩ := rowV_cases 4 avMember c.mbs
  have r1 : rowV 3 avLink (some l) = .sl .none 3 (l.map avLink) := rfl
  have e : ((a : Int) != 0) = !(a == 0) := by rw [bne, nat_beq0]; rfl
  have hI := C_In y.a y.b a hp ha
  simp only [avPfx, avU] at hI
  unfold onN
  cases h : a == 0
  · simp only [go_sem, c_q133, netL, hc, r1, r2, r3, r4, r5, r6, r7, lt2, lt3, lt4, lt5, lt6, lt7, gt2, gt3, gt4, gt5, gt6, gt7, avU, e, h, Bool.not_false, Bool.true_and, Int.toNat_natCast, Int.natCast_nonneg, List.getElem?_map, hy, rowAgg, avLink, avStr]
    refine callX_of hI ?_
    simp only [go_sem, h, Bool.not_false]
  · simp only [go_sem, c_q133, netL, hc, r1, r2, r3, r4, r5, r6, r7, lt2, lt3, lt4, lt5, lt6, lt7, gt2, gt3, gt4, gt5, gt6, gt7, avU, e, h, Bool.not_true, Bool.false_and]
end Go.Proofs.YtbgfkdpjnabhkaaGreatDoor.VL
end

section
set_option maxHeartbeats 4000000
namespace Go.Proofs.YtbgfkdpjnabhkaaGreatDoor.VL
open Go.RowKit Go.Proofs
theorem g_none : (4 ∈ GS) = True := eq_true (by simp [GS])
theorem g_away : (5 ∈ GS) = True := eq_true (by simp [GS])
def roOf (c : Net) (x : NRo) : Option Nat :=
  if placeN x.rt (c.rts.getD []).length = false then some 4 else if (validN x.a x.b && costN x.cost) = false then some 2
  else if hostN x.via = false then some 3 else none
theorem C_route (c : Net) (l : List NRo) (hc : c.ros = some l) (i : Nat) (x : NRo) (hx : l[i]? = some x) (hl : l.length < 9223372036854775808) (ha : x.a < 4294967296) (hv : x.via < 4294967296) :
    AC Tryz.prog f_q86 [.agg (netL c), .lit (.int .i64 (i : Nat))] (amiss (roOf c x)) := by
  refine ac_q86 ?_ (Nat.le_add_left 2 _) (by unfold roOf; split <;> (try split) <;> (try split) <;> rfl)
  obtain ⟨t1, e1, r1, lt1, gt1, ft1, _⟩ := rowV_cases 2 avRouter c.rts
  obtain ⟨t2, e2, r2, lt2, gt2, ft2, _⟩ := rowV_cases 3 avLink c.lks
  obtain ⟨t3, e3, r3, lt3, gt3, ft3, _⟩ := rowV_cases 3 avPort c.pts
  obtain ⟨t5, e5, r5, lt5, gt5, ft5, _⟩ := rowV_cases 3 avRange c.rgs
  obtain ⟨t6, e6, r6, lt6, gt6, ft6, _⟩ := rowV_cases 3 avSource c.scs
  obtain ⟨t7, e7, r7, lt7, gt7, ft7, _⟩ := rowV_cases 4 avMember c.mbs
  have r4 : rowV 5 avRoute (some l) = .sl .none 5 (l.map avRoute) := rfl
  simp only [go_sem, c_q86, netL, hc, r1, r2, r3, r4, r5, r6, r7, lt1, lt2, lt3, lt5, lt6, lt7, gt1, gt2, gt3, gt5, gt6, gt7, Int.toNat_natCast, Int.natCast_nonneg, List.getElem?_map, hx, rowAgg, avRoute, avU, List.length_map]
  refine callX_of (C_place x.rt (c.rts.getD []).length) ?_
  cases h1 : placeN x.rt (c.rts.getD []).length
  · simp only [go_sem, h1, g_none, roOf, amiss, Bool.not_false]
  simp only [go_sem, h1, Bool.not_true]
  have hV := C_Valid x.a x.b ha
  simp only [avPfx, avU] at hV
  refine callX_of hV ?_
  cases h2 : validN x.a x.b
  · simp only [go_sem, h2, g_range, roOf, h1, amiss, Bool.not_false, Bool.false_and, Bool.true_eq_false]
  simp only [go_sem, h2, Bool.not_true]
  refine callX_of (C_cost x.cost) ?_
  cases h3 : costN x.cost
  · simp only [go_sem, h3, h2, g_range, roOf, h1, amiss, Bool.not_false, Bool.not_true, Bool.and_false, Bool.true_eq_false]
  simp only [go_sem, h3, Bool.not_true]
  refine callX_of (C_host x.via hv) ?_
  cases h4 : hostN x.via
  · simp only [go_sem, h4, h3, h2, g_kind, roOf, h1, amiss, Bool.not_false, Bool.and_self, Bool.true_eq_false]
  · simp only [go_sem, h4, h3, h2, roOf, h1, amiss, Bool.not_true, Bool.and_self, Bool.true_eq_false]
end Go.Proofs.YtbgfkdpjnabhkaaGreatDoor.VL
end

section
set_option maxHeartbeats 4000000
namespace Go.Proofs.YtbgfkdpjnabhkaaGreatDoor.VL
open Go.RowKit Go.Proofs
def rgOf (l : List NRg) (i : Nat) (x : NRg) : Option Nat :=
  if validN x.a x.b = false then some 2 else if (withinN x.a x.b 3758096384 4 && hostN x.root) = false then some 3
  else if (l.take i).any (p_ranges_1 x) = true then some 1 else none
theorem C_ranges (c : Net) (l : List NRg) (hc : c.rgs = some l) (i : Nat) (x : NRg) (hx : l[i]? = some x) (hl : l.length < 9223372036854775808) (ha : x.a < 4294967296) (hv : x.root < 4294967296) :
    AC Tryz.prog f_q87 [.agg (netL c), .lit (.int .i64 (i : Nat))] (amiss (rgOf l i x)) := by
  have hi : i < l.length := (List.getElem?_eq_some_iff.1 hx).1
  refine ac_q87 ?_ (Nat.le_add_left 2 _) (by unfold rgOf; split <;> (try split) <;> (try split) <;> rfl)
  obtain ⟨t1, e1, r1, lt1, gt1, ft1, _⟩ := rowV_cases 2 avRouter c.rts
  obtain ⟨t2, e2, r2, lt2, gt2, ft2, _⟩ := rowV_cases 3 avLink c.lks
  obtain ⟨t3, e3, r3, lt3, gt3, ft3, _⟩ := rowV_cases 3 avPort c.pts
  obtain ⟨t4, e4, r4, lt4, gt4, ft4, _⟩ := rowV_cases 5 avRoute c.ros
  obtain ⟨t6, e6, r6, lt6, gt6, ft6, _⟩ := rowV_cases 3 avSource c.scs
  obtain ⟨t7, e7, r7, lt7, gt7, ft7, _⟩ := rowV_cases 4 avMember c.mbs
  have r5 : rowV 3 avRange (some l) = .sl .none 3 (l.map avRange) := rfl
  have hV := C_Valid x.a x.b ha
  have hW := C_Within x.a x.b 3758096384 4 ha (by decide)
  have hC := C_has_ranges_1 x .none 3 (l.take i) rfl rfl (.inl rfl) (by rw [List.length_take]; omega)
  have sl1 := headSl avRange 3 l i (by omega)
  have hG := C_groups
  simp only [avPfx, avU] at hV hW hC hG
  simp only [go_sem, c_q87, netL, hc, r1, r2, r3, r4, r5, r6, r7, lt1, lt2, lt3, lt4, lt6, lt7, gt1, gt2, gt3, gt4, gt6, gt7, Int.toNat_natCast, Int.natCast_nonneg, List.getElem?_map, hx, rowAgg, avRange, avU, List.length_map]
  refine callX_of hV ?_
  cases h1 : validN x.a x.b
  · simp only [go_sem, h1, g_range, rgOf, amiss, Bool.not_false]
  simp only [go_sem, h1, Bool.not_true]
  refine callX_of hG ?_
  simp only [go_sem]
  refine callX_of hW ?_
  cases h2 : withinN x.a x.b 3758096384 4
  · simp only [go_sem, h2, g_kind, rgOf, h1, amiss, Bool.not_false, Bool.false_and, Bool.true_eq_false]
  simp only [go_sem, h2, Bool.not_true]
  refine callX_of (C_host x.root hv) ?_
  cases h3 : hostN x.root
  · simp only [go_sem, h3, h2, g_kind, rgOf, h1, amiss, Bool.not_false, Bool.not_true, Bool.and_false, Bool.true_eq_false]
  simp only [go_sem, h3, Bool.not_true, Int.toNat_natCast, Int.natCast_nonneg, sl1]
  refine callX_of hC ?_
  cases h4 : (l.take i).any (p_ranges_1 x)
  · simp only [go_sem, h4, h3, h2, rgOf, h1, amiss, Bool.not_true, Bool.and_self, Bool.true_eq_false, Bool.false_eq_true]
  · simp only [go_sem, h4, h3, h2, g_twice, rgOf, h1, amiss, Bool.and_self, Bool.true_eq_false]
end Go.Proofs.YtbgfkdpjnabhkaaGreatDoor.VL
end

section
set_option maxHeartbeats 4000000
namespace Go.Proofs.YtbgfkdpjnabhkaaGreatDoor.VL
open Go.RowKit Go.Proofs
def onAt (c : Net) (k : Int) (a : Nat) : Bool := match (c.lks.getD [])[k.toNat]? with
  | some y => onN y a
  | none => false
def ptOf (c : Net) (l : List NPt) (i : Nat) (x : NPt) : Option Nat :=
  if (placeN x.rt (c.rts.getD []).length && placeN x.lk (c.lks.getD []).length) = false then some 4 else if onAt c x.lk x.a = false then some 5
  else if (l.take i).any (p_port_1 x) = true then some 1 else none
theorem C_port (c : Net) (l : List NPt) (hc : c.pts = some l) (i : Nat) (x : NPt) (hx : l[i]? = some x) (hl : l.length < 9223372036854775808) (ha : x.a < 4294967296) (hp : ∀ y ∈ c.lks.getD [], y.a < 4294967296) :
    AC Tryz.prog f_q85 [.agg (netL c), .lit (.int .i64 (i : Nat))] (amiss (ptOf c l i x)) := by
  have hi : i < l.length := (List.getElem?_eq_some_iff.1 hx).1
  refine ac_q85 ?_ (Nat.le_add_left 2 _) (by unfold ptOf; split <;> (try split) <;> (try split) <;> rfl)
  obtain ⟨t1, e1, r1, lt1, gt1, ft1, _⟩ := rowV_cases 2 avRouter c.rts
  obtain ⟨t2, e2, r2, lt2, gt2, ft2, _⟩ := rowV_cases 3 avLink c.lks
  obtain ⟨t4, e4, r4, lt4, gt4, ft4, _⟩ := rowV_cases 5 avRoute c.ros
  obtain ⟨t5, e5, r5, lt5, gt5, ft5, _⟩ := rowV_cases 3 avRange c.rgs
  obtain ⟨t6, e6, r6, lt6, gt6, ft6, _⟩ := rowV_cases 3 avSource c.scs
  obtain ⟨t7, e7, r7, lt7, gt7, ft7, _⟩ := rowV_cases 4 avMember c.mbs
  have r3 : rowV 3 avPort (some l) = .sl .none 3 (l.map avPort) := rfl
  have hC := C_has_port_1 x .none 3 (l.take i) rfl rfl (.inl rfl) (by rw [List.length_take]; omega)
  have sl1 := headSl avPort 3 l i (by omega)
  simp only [avU] at hC
  simp only [go_sem, c_q85, netL, hc, r1, r2, r3, r4, r5, r6, r7, lt1, lt2, lt4, lt5, lt6, lt7, gt1, gt2, gt4, gt5, gt6, gt7, Int.toNat_natCast, Int.natCast_nonneg, List.getElem?_map, hx, rowAgg, avPort, avU, List.length_map]
  refine callX_of (C_place x.rt (c.rts.getD []).length) ?_
  cases h1 : placeN x.rt (c.rts.getD []).length
  · simp only [go_sem, h1, g_none, ptOf, amiss, Bool.not_false, Bool.false_and]
  simp only [go_sem, h1, Bool.not_true, List.length_map]
  refine callX_of (C_place x.lk (c.lks.getD []).length) ?_
  cases h2 : placeN x.lk (c.lks.getD []).length
  · simp only [go_sem, h2, h1, g_none, ptOf, amiss, Bool.not_false, Bool.and_false]
  obtain ⟨k, y, hk, hy⟩ : ∃ (k : Nat) (y : NLk), x.lk = (k : Int) ∧ (c.lks.getD [])[k]? = some y := by
    simp only [placeN, Bool.and_eq_true, decide_eq_true_eq] at h2
    exact ⟨x.lk.toNat, (c.lks.getD [])[x.lk.toNat]'(by omega), by omega, List.getElem?_eq_getElem (by omega)⟩
  obtain ⟨ls, hls⟩ : ∃ ls, c.lks = some ls := by
    cases h : c.lks with
    | none => rw [h] at hy; simp at hy
    | some ls => exact ⟨ls, rfl⟩
  have hO := C_on c ls hls k y (by rw [hls] at hy; exact hy) x.a ha (hp y (List.mem_of_getElem? hy))
  simp only [netL, hc, r1, r2, r3, r4, r5, r6, r7, avU] at hO
  have hat : onAt c x.lk x.a = onN y x.a := by simp only [onAt, hk, Int.toNat_natCast, hy]
  simp only [go_sem, h2, Bool.not_true, hk, lt1, lt2, lt4, lt5, lt6, lt7]
  refine callX_of hO ?_
  cases h3 : onN y x.a
  · simp only [go_sem, h3, ← hk, hat, h2, h1, g_away, ptOf, amiss, Bool.not_false, Bool.and_self, Bool.true_eq_false]
  simp only [go_sem, h3, Bool.not_true, Int.toNat_natCast, Int.natCast_nonneg, sl1, ← hk]
  refine callX_of hC ?_
  cases h4 : (l.take i).any (p_port_1 x)
  · simp only [go_sem, h4, hat, h3, h2, h1, ptOf, amiss, Bool.and_self, Bool.true_eq_false, Bool.false_eq_true]
  · simp only [go_sem, h4, hat, h3, h2, h1, g_twice, ptOf, amiss, Bool.and_self, Bool.true_eq_false]
end Go.Proofs.YtbgfkdpjnabhkaaGreatDoor.VL
end

section
set_option maxHeartbeats 4000000
namespace Go.Proofs.YtbgfkdpjnabhkaaGreatDoor.VL
open Go.RowKit Go.Proofs
def scOf (c : Net) (l : List NSc) (i : Nat) (x : NSc) : Option Nat :=
  if placeN x.lk (c.lks.getD []).length = false then some 4 else if onAt c x.lk x.s = false then some 5
  else if groupN x.g = false then some 3 else if ((l.take i).any (p_source_1 x) || (c.pts.getD []).any (p_source_2 x)) = true then some 1 else none
theorem C_source (c : Net) (l : List NSc) (hc : c.scs = some l) (i : Nat) (x : NSc) (hx : l[i]? = some x) (hl : l.length < 9223372036854775808) (hlp : (c.pts.getD []).length < 9223372036854775808) (ha : x.s < 4294967296) (hg : x.g < 4294967296) (hp : ∀ y ∈ c.lks.getD [], y.a < 4294967296) :
    AC Tryz.prog f_q88 [.agg (netL c), .lit (.int .i64 (i : Nat))] (amiss (scOf c l i x)) := by
  have hi : i < l.length := (List.getElem?_eq_some_iff.1 hx).1
  refine ac_q88 ?_ (Nat.le_add_left 2 _) (by unfold scOf; split <;> (try split) <;> (try split) <;> (try split) <;> rfl)
  obtain ⟨t1, e1, r1, lt1, gt1, ft1, _⟩ := rowV_cases 2 avRouter c.rts
  obtain ⟨t2, e2, r2, lt2, gt2, ft2, _⟩ := rowV_cases 3 avLink c.lks
  obtain ⟨t3, e3, r3, lt3, gt3, ft3, he3, _⟩ := rowV_cases 3 avPort c.pts
  obtain ⟨t4, e4, r4, lt4, gt4, ft4, _⟩ := rowV_cases 5 avRoute c.ros
  obtain ⟨t5, e5, r5, lt5, gt5, ft5, _⟩ := rowV_cases 3 avRange c.rgs
  obtain ⟨t7, e7, r7, lt7, gt7, ft7, _⟩ := rowV_cases 4 avMember c.mbs
  have r6 : rowV 3 avSource (some l) = .sl .none 3 (l.map avSource) := rfl
  have hC := C_has_source_1 x .none 3 (l.take i) rfl rfl (.inl rfl) (by rw [List.length_take]; omega)
  have hD := C_has_source_2 x t3 e3 (c.pts.getD []) lt3 ft3 he3 hlp
  have sl1 := headSl avSource 3 l i (by omega)
  simp only [avU] at hC hD
  simp only [go_sem, c_q88, netL, hc, r1, r2, r3, r4, r5, r6, r7, lt1, lt2, lt3, lt4, lt5, lt7, gt1, gt2, gt3, gt4, gt5, gt7, Int.toNat_natCast, Int.natCast_nonneg, List.getElem?_map, hx, rowAgg, avSource, avU, List.length_map]
  refine callX_of (C_place x.lk (c.lks.getD []).length) ?_
  cases h2 : placeN x.lk (c.lks.getD []).length
  · simp only [go_sem, h2, g_none, scOf, amiss, Bool.not_false]
  obtain ⟨k, y, hk, hy⟩ : ∃ (k : Nat) (y : NLk), x.lk = (k : Int) ∧ (c.lks.getD [])[k]? = some y := by
    simp only [placeN, Bool.and_eq_true, decide_eq_true_eq] at h2
    exact ⟨x.lk.toNat, (c.lks.getD [])[x.lk.toNat]'(by omega), by omega, List.getElem?_eq_getElem (by omega)⟩
  obtain ⟨ls, hls⟩ : ∃ ls, c.lks = some ls := by
    cases h : c.lks with
    | none => rw [h] at hy; simp at hy
    | some ls => exact ⟨ls, rfl⟩
  have hO := C_on c ls hls k y (by rw [hls] at hy; exact hy) x.s ha (hp y (List.mem_of_getElem? hy))
  simp only [netL, hc, r1, r2, r3, r4, r5, r6, r7, avU] at hO
  have hat : onAt c x.lk x.s = onN y x.s := by simp only [onAt, hk, Int.toNat_natCast, hy]
  simp only [go_sem, h2, Bool.not_true, lt1, lt2, lt3, lt4, lt5, lt7]
  rw [← hk] at hO
  refine callX_of hO ?_
  cases h3 : onN y x.s
  · simp only [go_sem, h3, hat, h2, g_away, scOf, amiss, Bool.not_false, Bool.true_eq_false]
  simp only [go_sem, h3, Bool.not_true]
  refine callX_of (C_Group x.g hg) ?_
  cases h4 : groupN x.g
  · simp only [go_sem, h4, hat, h3, h2, g_kind, scOf, amiss, Bool.not_false, Bool.true_eq_false]
  simp only [go_sem, h4, Bool.not_true, Int.toNat_natCast, Int.natCast_nonneg, sl1]
  refine callX_of hC ?_
  cases h5 : (l.take i).any (p_source_1 x)
  · simp only [go_sem, h5, lt3, gt3]
    refine callX_of hD ?_
    cases h6 : (c.pts.getD []).any (p_source_2 x)
    · simp only [go_sem, h6, h5, h4, hat, h3, h2, scOf, amiss, Bool.or_false, Bool.true_eq_false, Bool.false_eq_true]
    · simp only [go_sem, h6, h5, h4, hat, h3, h2, g_twice, scOf, amiss, Bool.false_or, Bool.true_eq_false]
  · simp only [go_sem, h5, h4, hat, h3, h2, g_twice, scOf, amiss, Bool.true_or, Bool.true_eq_false]
end Go.Proofs.YtbgfkdpjnabhkaaGreatDoor.VL
end

