import Derived.Test.YtnndbbmidoidpaaGreatDoorProg
import Derived.Lib.Strings
import Derived.Test.YtnndbbmidoidpaaGreatDoorGa9
set_option linter.unusedVariables false
set_option linter.unusedSimpArgs false
section
set_option maxRecDepth 100000
namespace Go.Proofs.YtnndbbmidoidpaaGreatDoor.VL
open Go.Proofs
def c_q151 : ACode :=
 (.seq
 (.region false [
 oo 2 (.alloc [.lit (.int .u8 0),.lit (.int .u8 0),.lit (.int .u8 0),.lit (.int .u8 0)])] [])
 (.seq
 (.region false [
 oo 3 (.alloc [.lit (.int .u8 0),.lit (.int .u8 0),.lit (.int .u8 0),.lit (.int .u8 0)])] [])
 (.seq
 (.seq
 (.region false [
 oo 5 (.mov (.const (.int .i64 0)))] [])
 (.block 0
 (.loop
 (.seq
 (.region false [
 oo 6 (.bin .lss 3 (.tmp 5) (.const (.int .i64 4)))] [])
 (.seq
 (.cond (.tmp 6)
 .skip
 (.exit 0))
 (.seq
 (.block 1
 (.seq
 (.region false [
 om 7 5,
 om 4 7] [6,7])
 (.region false [
 om 8 4,
 om 9 0,
 om 10 4,
 oo 11 (.bin .sub 3 (.const (.int .i64 3)) (.tmp 10)),
 oo 12 (.bin .mul 3 (.const (.int .i64 8)) (.tmp 11)),
 oo 13 (.bin .shr 32 (.tmp 9) (.tmp 12)),
 oo 14 (.cint .u8 (.tmp 13)),
 oo 15 (.iadra 4 1 (.tmp 3) (.tmp 8)),
 ⟨none,.store 1 (.tmp 15) (.tmp 14),none⟩] [4,8,9,10,11,12,13,14,15])) [])
 (.region false [
 oo 16 (.bin .add 3 (.tmp 5) (.const (.int .i64 1))),
 om 5 16] [16])))) [] []) [0,5,6]))
 (.seq
 (.region false [
 oo 17 (.load true 4 (.tmp 3)),
 ⟨none,.store 4 (.tmp 2) (.tmp 17),none⟩] [3,17])
 .ret))))
abbrev v_q151 : List RV:= [.cell true 4 2]
abbrev f_q151 : FuncId:= 155
theorem k_q151 : closedOf Tryz.prog Tryz.f155 = (false,some true,some v_q151,some c_q151.plain,18):= by kernel_rfl
theorem ac_q151 {args : List AV} {r : AV} (h : aw Tryz.prog c_q151 (env0 args) (endQ v_q151 r)) (hargs : args.length ≤ 18:= by decide) (hok : resOK r = true:= by rfl) : AC Tryz.prog f_q151 args r :=
  AC_mk (by kernel_rfl) Tryz.func155 k_q151 hargs hok (by decide) h
def c_q152 : ACode :=
 (.seq
 (.region false [
 oo 0 (.mov (.const (.slice none 0 0)))] [0])
 (.seq
 (.region false [
 oo 1 (.load false 1 (.global 8)),
 oo 2 (.load false 1 (.global 9)),
 oo 3 (.load false 1 (.global 3)),
 oo 4 (.load false 1 (.global 0)),
 oo 5 (.load false 1 (.global 10)),
 oo 6 (.load false 1 (.global 1)),
 oo 7 (.load false 1 (.global 11)),
 oo 8 (.load false 1 (.global 12)),
 oo 9 (.load false 1 (.global 7)),
 oo 10 (.load false 1 (.global 2)),
 oo 11 (.load false 1 (.global 5)),
 oo 12 (.load false 1 (.global 6)),
 oo 13 (.load false 1 (.global 4)),
 oo 14 (.load false 1 (.global 13)),
 oo 15 (.bslice 14 1 [.tmp 1,.tmp 2,.tmp 3,.tmp 4,.tmp 5,.tmp 6,.tmp 7,.tmp 8,.tmp 9,.tmp 10,.tmp 11,.tmp 12,.tmp 13,.tmp 14]),
 om 0 15] [1,2,3,4,5,6,7,8,9,10,11,12,13,14,15])
 .ret))
abbrev v_q152 : List RV:= [.tmp 0]
abbrev f_q152 : FuncId:= 156
theorem k_q152 : closedOf Tryz.prog Tryz.f156 = (false,some true,some v_q152,some c_q152.plain,16):= by kernel_rfl
theorem ac_q152 {args : List AV} {r : AV} (h : aw Tryz.prog c_q152 (env0 args) (endQ v_q152 r)) (hargs : args.length ≤ 16:= by decide) (hok : resOK r = true:= by rfl) : AC Tryz.prog f_q152 args r :=
  AC_mk (by kernel_rfl) Tryz.func156 k_q152 hargs hok (by decide) h
def c_q153 : ACode :=
 (.seq
 (.region false [
 oo 4 (.mov (.const (.bool false)))] [4])
 (.seq
 (.seq
 (.region false [
 om 5 0,
 oo 6 (.eqn false (.tmp 5)),
 om 7 6,
 og 8 (.mov (.tmp 1)) 7 false,
 og 9 (.eqn false (.tmp 8)) 7 false,
 oo 10 (.pick (.tmp 7) (.const (.bool true)) (.tmp 9))] [5,6,7,8,9])
 (.cond (.tmp 10)
 (.seq
 (.region false [
 om 11 0,
 oo 12 (.eqn false (.tmp 11)),
 om 13 12,
 og 14 (.mov (.tmp 1)) 13 true,
 og 15 (.eqn false (.tmp 14)) 13 true,
 oo 16 (.pick (.tmp 13) (.tmp 15) (.const (.bool false))),
 om 4 16] [0,1,10,11,12,13,14,15,16])
 .ret)
 .skip))
 (.seq
 (.region false [
 om 17 0,
 om 18 1,
 oo 19 (.eqi false (.tmp 17) (.tmp 18)),
 om 4 19] [0,1,10,17,18,19])
 .ret)))
abbrev v_q153 : List RV:= [.tmp 4]
abbrev f_q153 : FuncId:= 157
theorem k_q153 : closedOf Tryz.prog Tryz.f157 = (false,some true,some v_q153,some c_q153.plain,20):= by kernel_rfl
theorem ac_q153 {args : List AV} {r : AV} (h : aw Tryz.prog c_q153 (env0 args) (endQ v_q153 r)) (hargs : args.length ≤ 20:= by decide) (hok : resOK r = true:= by rfl) : AC Tryz.prog f_q153 args r :=
  AC_mk (by kernel_rfl) Tryz.func157 k_q153 hargs hok (by decide) h
def c_q154 : ACode :=
 (.seq
 (.region false [
 om 8 1,
 oo 9 (.bin .add 3 (.tmp 8) (.const (.int .i64 1))),
 om 6 9] [8,9])
 (.block 0
 (.loop
 (.seq
 (.seq
 (.region false [
 om 10 6,
 om 11 2,
 oo 12 (.bin .lss 3 (.tmp 10) (.tmp 11))] [10,11])
 (.cond (.tmp 12)
 .skip
 (.exit 0)))
 (.seq
 (.block 1
 (.seq
 (.region false [
 om 15 6,
 om 7 15] [12,15])
 (.block 2
 (.loop
 (.seq
 (.seq
 (.region true [
 om 16 7,
 om 17 1,
 oo 18 (.bin .gtr 3 (.tmp 16) (.tmp 17)),
 om 19 18,
 og 20 (.mov (.tmp 0)) 19 true,
 og 21 (.mov (.tmp 7)) 19 true,
 og 22 (.iaddr 1 (.tmp 20) (.tmp 21)) 19 true,
 og 23 (.load false 1 (.tmp 22)) 19 true,
 og 24 (.mov (.tmp 0)) 19 true,
 og 25 (.mov (.tmp 7)) 19 true,
 og 26 (.bin .sub 3 (.tmp 25) (.const (.int .i64 1))) 19 true,
 og 27 (.iaddr 1 (.tmp 24) (.tmp 26)) 19 true,
 og 28 (.load false 1 (.tmp 27)) 19 true,
 og 29 (.call 164 [.tmp 23,.tmp 28]) 19 true,
 oo 30 (.pick (.tmp 19) (.tmp 29) (.const (.bool false)))] [16,17,18,19,20,21,22,23,24,25,26,27,28,29])
 (.cond (.tmp 30)
 .skip
 (.exit 2)))
 (.seq
 (.block 3
 (.region true [
 om 33 0,
 om 34 7,
 om 35 0,
 om 36 7,
 oo 37 (.bin .sub 3 (.tmp 36) (.const (.int .i64 1))),
 om 38 0,
 om 39 7,
 oo 40 (.bin .sub 3 (.tmp 39) (.const (.int .i64 1))),
 oo 41 (.iaddr 1 (.tmp 38) (.tmp 40)),
 oo 42 (.load false 1 (.tmp 41)),
 om 43 0,
 om 44 7,
 oo 45 (.iaddr 1 (.tmp 43) (.tmp 44)),
 oo 46 (.load false 1 (.tmp 45)),
 oo 47 (.iaddr 1 (.tmp 33) (.tmp 34)),
 ⟨none,.store 1 (.tmp 47) (.tmp 42),none⟩,
 oo 48 (.iaddr 1 (.tmp 35) (.tmp 37)),
 ⟨none,.store 1 (.tmp 48) (.tmp 46),none⟩] [30,33,34,35,36,37,38,39,40,41,42,43,44,45,46,47,48]) [])
 (.region false [
 om 31 7,
 oo 32 (.bin .sub 3 (.tmp 31) (.const (.int .i64 1))),
 om 7 32] [31,32]))) [] []) [7,30])) [])
 (.region false [
 om 13 6,
 oo 14 (.bin .add 3 (.tmp 13) (.const (.int .i64 1))),
 om 6 14] [13,14]))) [] []) [0,1,2,6,12]))
abbrev v_q154 : List RV:= []
abbrev f_q154 : FuncId:= 158
theorem k_q154 : closedOf Tryz.prog Tryz.f158 = (false,some true,some v_q154,some c_q154.plain,49):= by kernel_rfl
theorem ac_q154 {args : List AV} {r : AV} (h : aw Tryz.prog c_q154 (env0 args) (endQ v_q154 r)) (hargs : args.length ≤ 49:= by decide) (hok : resOK r = true:= by rfl) : AC Tryz.prog f_q154 args r :=
  AC_mk (by kernel_rfl) Tryz.func158 k_q154 hargs hok (by decide) h
theorem am_q154 {args : List AV} {c0 c1 : List (Nat × List AV)} {r : AV} (h : aw Tryz.prog c_q154 (env0M args c0) (endM v_q154 r (c0.map (·.1)) c1)) (hc0 : ∀ q ∈ c0,100000 ≤ q.1) (hargs : args.length ≤ 49:= by decide) (hok : resOK r = true:= by rfl) : AM Tryz.prog f_q154 args c0 r c1 :=
  AM_mk (by kernel_rfl) Tryz.func158 k_q154 hargs hok (by decide) hc0 h
def c_q155 : ACode :=
 (.seq
 (.region false [
 om 11 1,
 om 6 11] [11])
 (.seq
 (.region false [
 oo 7 (.mov (.const (.int .i64 0)))] [])
 (.seq
 (.region false [
 om 12 2,
 om 13 1,
 oo 14 (.bin .sub 3 (.tmp 12) (.tmp 13)),
 om 8 14] [1,2,12,13,14])
 (.seq
 (.seq
 (.region false [
 om 15 8,
 oo 16 (.bin .sub 3 (.tmp 15) (.const (.int .i64 1))),
 oo 17 (.bin .quo 3 (.tmp 16) (.const (.int .i64 2))),
 om 9 17] [15,16,17])
 (.block 0
 (.loop
 (.seq
 (.seq
 (.region false [
 om 18 9,
 oo 19 (.bin .geq 3 (.tmp 18) (.const (.int .i64 0)))] [18])
 (.cond (.tmp 19)
 .skip
 (.exit 0)))
 (.seq
 (.block 1
 (.region false [
 om 22 0,
 om 23 9,
 om 24 8,
 om 25 6,
 oo 26 (.callm 201 [.tmp 22,.tmp 23,.tmp 24,.tmp 25])] [19,22,23,24,25,26]) [])
 (.region false [
 om 20 9,
 oo 21 (.bin .sub 3 (.tmp 20) (.const (.int .i64 1))),
 om 9 21] [20,21]))) [] []) [9,19]))
 (.seq
 (.region false [
 om 27 8,
 oo 28 (.bin .sub 3 (.tmp 27) (.const (.int .i64 1))),
 om 10 28] [8,27,28])
 (.block 2
 (.loop
 (.seq
 (.seq
 (.region false [
 om 29 10,
 oo 30 (.bin .geq 3 (.tmp 29) (.const (.int .i64 0)))] [29])
 (.cond (.tmp 30)
 .skip
 (.exit 2)))
 (.seq
 (.block 3
 (.seq
 (.region true [
 om 33 0,
 om 34 6,
 om 35 0,
 om 36 6,
 om 37 10,
 oo 38 (.bin .add 3 (.tmp 36) (.tmp 37)),
 om 39 0,
 om 40 6,
 om 41 10,
 oo 42 (.bin .add 3 (.tmp 40) (.tmp 41)),
 oo 43 (.iaddr 1 (.tmp 39) (.tmp 42)),
 oo 44 (.load false 1 (.tmp 43)),
 om 45 0,
 om 46 6,
 oo 47 (.iaddr 1 (.tmp 45) (.tmp 46)),
 oo 48 (.load false 1 (.tmp 47)),
 oo 49 (.iaddr 1 (.tmp 33) (.tmp 34)),
 ⟨none,.store 1 (.tmp 49) (.tmp 44),none⟩,
 oo 50 (.iaddr 1 (.tmp 35) (.tmp 38)),
 ⟨none,.store 1 (.tmp 50) (.tmp 48),none⟩] [30,33,34,35,36,37,38,39,40,41,42,43,44,45,46,47,48,49,50])
 (.region false [
 om 51 0,
 om 52 7,
 om 53 10,
 om 54 6,
 oo 55 (.callm 201 [.tmp 51,.tmp 52,.tmp 53,.tmp 54])] [51,52,53,54,55])) [])
 (.region false [
 om 31 10,
 oo 32 (.bin .sub 3 (.tmp 31) (.const (.int .i64 1))),
 om 10 32] [31,32]))) [] []) [0,6,7,10,30]))))))
abbrev v_q155 : List RV:= []
abbrev f_q155 : FuncId:= 159
theorem k_q155 : closedOf Tryz.prog Tryz.f159 = (false,some true,some v_q155,some c_q155.plain,56):= by kernel_rfl
theorem am_q155 {args : List AV} {c0 c1 : List (Nat × List AV)} {r : AV} (h : aw Tryz.prog c_q155 (env0M args c0) (endM v_q155 r (c0.map (·.1)) c1)) (hc0 : ∀ q ∈ c0,100000 ≤ q.1) (hargs : args.length ≤ 56:= by decide) (hok : resOK r = true:= by rfl) : AM Tryz.prog f_q155 args c0 r c1 :=
  AM_mk (by kernel_rfl) Tryz.func159 k_q155 hargs hok (by decide) hc0 h
def c_q156 : ACode :=
 (.seq
 (.region false [
 om 11 2,
 om 12 1,
 oo 13 (.bin .sub 3 (.tmp 11) (.tmp 12)),
 om 6 13] [2,11,12,13])
 (.seq
 (.region false [
 om 14 6,
 oo 15 (.bin .geq 3 (.tmp 14) (.const (.int .i64 8)))] [14])
 (.cond (.tmp 15)
 (.seq
 (.region false [
 om 16 6,
 oo 17 (.cint .u64 (.tmp 16)),
 oo 7 (.alloc [.lit (.int .u64 0)]),
 ⟨none,.store 1 (.tmp 7) (.tmp 17),none⟩] [15,16,17])
 (.seq
 (.region false [
 om 18 6,
 oo 19 (.callm 202 [.tmp 18]),
 om 8 19] [18,19])
 (.seq
 (.region false [
 om 20 1,
 om 21 6,
 oo 22 (.bin .quo 3 (.tmp 21) (.const (.int .i64 4))),
 oo 23 (.bin .mul 3 (.tmp 22) (.const (.int .i64 2))),
 oo 24 (.bin .add 3 (.tmp 20) (.tmp 23)),
 oo 25 (.bin .sub 3 (.tmp 24) (.const (.int .i64 1))),
 om 9 25] [20,21,22,23,24,25])
 (.block 0
 (.loop
 (.seq
 (.seq
 (.region false [
 om 26 9,
 om 27 1,
 om 28 6,
 oo 29 (.bin .quo 3 (.tmp 28) (.const (.int .i64 4))),
 oo 30 (.bin .mul 3 (.tmp 29) (.const (.int .i64 2))),
 oo 31 (.bin .add 3 (.tmp 27) (.tmp 30)),
 oo 32 (.bin .add 3 (.tmp 31) (.const (.int .i64 1))),
 oo 33 (.bin .leq 3 (.tmp 26) (.tmp 32))] [26,27,28,29,30,31,32])
 (.cond (.tmp 33)
 .skip
 (.exit 0)))
 (.seq
 (.block 1
 (.seq
 (.region false [
 oo 36 (.callm 203 [.tmp 7]),
 om 37 8,
 oo 38 (.bin .sub 167 (.tmp 37) (.const (.int .u64 1))),
 oo 39 (.bin .and 167 (.tmp 36) (.tmp 38)),
 oo 40 (.cint .i64 (.tmp 39)),
 om 10 40] [33,36,37,38,39,40])
 (.seq
 (.seq
 (.region false [
 om 41 10,
 om 42 6,
 oo 43 (.bin .geq 3 (.tmp 41) (.tmp 42))] [41,42])
 (.cond (.tmp 43)
 (.region false [
 om 44 10,
 om 45 6,
 oo 46 (.bin .sub 3 (.tmp 44) (.tmp 45)),
 om 10 46] [43,44,45,46])
 .skip))
 (.region true [
 om 47 0,
 om 48 9,
 om 49 0,
 om 50 1,
 om 51 10,
 oo 52 (.bin .add 3 (.tmp 50) (.tmp 51)),
 om 53 0,
 om 54 1,
 om 55 10,
 oo 56 (.bin .add 3 (.tmp 54) (.tmp 55)),
 oo 57 (.iaddr 1 (.tmp 53) (.tmp 56)),
 oo 58 (.load false 1 (.tmp 57)),
 om 59 0,
 om 60 9,
 oo 61 (.iaddr 1 (.tmp 59) (.tmp 60)),
 oo 62 (.load false 1 (.tmp 61)),
 oo 63 (.iaddr 1 (.tmp 47) (.tmp 48)),
 ⟨none,.store 1 (.tmp 63) (.tmp 58),none⟩,
 oo 64 (.iaddr 1 (.tmp 49) (.tmp 52)),
 ⟨none,.store 1 (.tmp 64) (.tmp 62),none⟩] [10,43,47,48,49,50,51,52,53,54,55,56,57,58,59,60,61,62,63,64]))) [])
 (.region false [
 om 34 9,
 oo 35 (.bin .add 3 (.tmp 34) (.const (.int .i64 1))),
 om 9 35] [34,35]))) [] []) [0,1,6,7,8,9,33]))))
 .skip)))
abbrev v_q156 : List RV:= []
abbrev f_q156 : FuncId:= 160
theorem k_q156 : closedOf Tryz.prog Tryz.f160 = (false,some true,some v_q156,some c_q156.plain,65):= by kernel_rfl
theorem am_q156 {args : List AV} {c0 c1 : List (Nat × List AV)} {r : AV} (h : aw Tryz.prog c_q156 (env0M args c0) (endM v_q156 r (c0.map (·.1)) c1)) (hc0 : ∀ q ∈ c0,100000 ≤ q.1) (hargs : args.length ≤ 65:= by decide) (hok : resOK r = true:= by rfl) : AM Tryz.prog f_q156 args c0 r c1 :=
  AM_mk (by kernel_rfl) Tryz.func160 k_q156 hargs hok (by decide) hc0 h
def c_q157 : ACode :=
 (.seq
 (.region false [
 oo 6 (.mov (.const (.int .i64 0))),
 oo 7 (.mov (.const (.int .i64 0)))] [6,7])
 (.seq
 (.region false [
 om 13 2,
 om 14 1,
 oo 15 (.bin .sub 3 (.tmp 13) (.tmp 14)),
 om 8 15] [2,13,14,15])
 (.seq
 (.region false [
 oo 9 (.alloc [.lit (.int .i64 0)])] [])
 (.seq
 (.region false [
 om 16 1,
 om 17 8,
 oo 18 (.bin .quo 3 (.tmp 17) (.const (.int .i64 4))),
 oo 19 (.bin .mul 3 (.tmp 18) (.const (.int .i64 1))),
 oo 20 (.bin .add 3 (.tmp 16) (.tmp 19)),
 om 10 20] [16,17,18,19,20])
 (.seq
 (.region false [
 om 21 1,
 om 22 8,
 oo 23 (.bin .quo 3 (.tmp 22) (.const (.int .i64 4))),
 oo 24 (.bin .mul 3 (.tmp 23) (.const (.int .i64 2))),
 oo 25 (.bin .add 3 (.tmp 21) (.tmp 24)),
 om 11 25] [21,22,23,24,25])
 (.seq
 (.region false [
 om 26 1,
 om 27 8,
 oo 28 (.bin .quo 3 (.tmp 27) (.const (.int .i64 4))),
 oo 29 (.bin .mul 3 (.tmp 28) (.const (.int .i64 3))),
 oo 30 (.bin .add 3 (.tmp 26) (.tmp 29)),
 om 12 30] [1,26,27,28,29,30])
 (.seq
 (.seq
 (.region false [
 om 31 8,
 oo 32 (.bin .geq 3 (.tmp 31) (.const (.int .i64 8)))] [31])
 (.cond (.tmp 32)
 (.seq
 (.seq
 (.region false [
 om 33 8,
 oo 34 (.bin .geq 3 (.tmp 33) (.const (.int .i64 50)))] [8,32,33])
 (.cond (.tmp 34)
 (.seq
 (.region false [
 om 35 0,
 om 36 10,
 oo 37 (.callm 204 [.tmp 35,.tmp 36,.tmp 9]),
 om 10 37] [34,35,36,37])
 (.seq
 (.region false [
 om 38 0,
 om 39 11,
 oo 40 (.callm 204 [.tmp 38,.tmp 39,.tmp 9]),
 om 11 40] [38,39,40])
 (.region false [
 om 41 0,
 om 42 12,
 oo 43 (.callm 204 [.tmp 41,.tmp 42,.tmp 9]),
 om 12 43] [41,42,43])))
 .skip))
 (.region false [
 om 44 0,
 om 45 10,
 om 46 11,
 om 47 12,
 oo 48 (.callm 205 [.tmp 44,.tmp 45,.tmp 46,.tmp 47,.tmp 9]),
 om 11 48] [0,10,12,34,44,45,46,47,48]))
 .skip))
 (.seq
 (.region false [
 oo 49 (.load false 1 (.tmp 9))] [0,8,9,10,12,32])
 (.block 0
 (.seq
 (.region false [
 oo 52 (.bin .eql 3 (.tmp 49) (.const (.int .i64 0))),
 om 51 52] [52])
 (.cond (.tmp 51)
 (.seq
 (.region false [
 om 53 11,
 om 6 53,
 oo 7 (.mov (.const (.int .i64 1)))] [11,49,51,53])
 .ret)
 (.seq
 (.region false [
 oo 55 (.bin .eql 3 (.tmp 49) (.const (.int .i64 12))),
 om 54 55] [49,51,55])
 (.cond (.tmp 54)
 (.seq
 (.region false [
 om 56 11,
 om 6 56,
 oo 7 (.mov (.const (.int .i64 2)))] [11,54,56])
 .ret)
 (.seq
 (.region false [
 om 50 11,
 om 6 50,
 oo 7 (.mov (.const (.int .i64 0)))] [11,50,54])
 .ret))))) [])))))))))
abbrev v_q157 : List RV:= [.tmp 6,.tmp 7]
abbrev f_q157 : FuncId:= 161
theorem k_q157 : closedOf Tryz.prog Tryz.f161 = (false,some true,some v_q157,some c_q157.plain,57):= by kernel_rfl
theorem am_q157 {args : List AV} {c0 c1 : List (Nat × List AV)} {r : AV} (h : aw Tryz.prog c_q157 (env0M args c0) (endM v_q157 r (c0.map (·.1)) c1)) (hc0 : ∀ q ∈ c0,100000 ≤ q.1) (hargs : args.length ≤ 57:= by decide) (hok : resOK r = true:= by rfl) : AM Tryz.prog f_q157 args c0 r c1 :=
  AM_mk (by kernel_rfl) Tryz.func161 k_q157 hargs hok (by decide) hc0 h
def c_q158 : ACode :=
 (.seq
 (.region false [
 om 8 1,
 om 6 8] [1,8])
 (.seq
 (.region false [
 om 9 2,
 oo 10 (.bin .sub 3 (.tmp 9) (.const (.int .i64 1))),
 om 7 10] [2,9,10])
 (.block 0
 (.loop
 (.seq
 (.seq
 (.region false [
 om 11 6,
 om 12 7,
 oo 13 (.bin .lss 3 (.tmp 11) (.tmp 12))] [11,12])
 (.cond (.tmp 13)
 .skip
 (.exit 0)))
 (.block 1
 (.seq
 (.region true [
 om 14 0,
 om 15 6,
 om 16 0,
 om 17 7,
 om 18 0,
 om 19 7,
 oo 20 (.iaddr 1 (.tmp 18) (.tmp 19)),
 oo 21 (.load false 1 (.tmp 20)),
 om 22 0,
 om 23 6,
 oo 24 (.iaddr 1 (.tmp 22) (.tmp 23)),
 oo 25 (.load false 1 (.tmp 24)),
 oo 26 (.iaddr 1 (.tmp 14) (.tmp 15)),
 ⟨none,.store 1 (.tmp 26) (.tmp 21),none⟩,
 oo 27 (.iaddr 1 (.tmp 16) (.tmp 17)),
 ⟨none,.store 1 (.tmp 27) (.tmp 25),none⟩] [13,14,15,16,17,18,19,20,21,22,23,24,25,26,27])
 (.seq
 (.region false [
 om 28 6,
 oo 29 (.bin .add 3 (.tmp 28) (.const (.int .i64 1))),
 om 6 29] [28,29])
 (.region false [
 om 30 7,
 oo 31 (.bin .sub 3 (.tmp 30) (.const (.int .i64 1))),
 om 7 31] [30,31]))) [])) [] []) [0,6,7,13])))
abbrev v_q158 : List RV:= []
abbrev f_q158 : FuncId:= 162
theorem k_q158 : closedOf Tryz.prog Tryz.f162 = (false,some true,some v_q158,some c_q158.plain,32):= by kernel_rfl
theorem am_q158 {args : List AV} {c0 c1 : List (Nat × List AV)} {r : AV} (h : aw Tryz.prog c_q158 (env0M args c0) (endM v_q158 r (c0.map (·.1)) c1)) (hc0 : ∀ q ∈ c0,100000 ≤ q.1) (hargs : args.length ≤ 32:= by decide) (hok : resOK r = true:= by rfl) : AM Tryz.prog f_q158 args c0 r c1 :=
  AM_mk (by kernel_rfl) Tryz.func162 k_q158 hargs hok (by decide) hc0 h
def c_q159 : ACode :=
 (.seq
 (.region false [
 oo 6 (.mov (.const (.bool false)))] [6])
 (.seq
 (.region false [
 om 11 1,
 oo 12 (.bin .add 3 (.tmp 11) (.const (.int .i64 1))),
 om 7 12] [11,12])
 (.seq
 (.seq
 (.region false [
 oo 8 (.mov (.const (.int .i64 0)))] [])
 (.block 0
 (.loop
 (.seq
 (.seq
 (.region false [
 om 13 8,
 oo 14 (.bin .lss 3 (.tmp 13) (.const (.int .i64 5)))] [13])
 (.cond (.tmp 14)
 .skip
 (.exit 0)))
 (.seq
 (.block 1
 (.seq
 (.block 2
 (.loop
 (.seq
 (.seq
 (.region true [
 om 17 7,
 om 18 2,
 oo 19 (.bin .lss 3 (.tmp 17) (.tmp 18)),
 om 20 19,
 og 21 (.mov (.tmp 0)) 20 true,
 og 22 (.mov (.tmp 7)) 20 true,
 og 23 (.iaddr 1 (.tmp 21) (.tmp 22)) 20 true,
 og 24 (.load false 1 (.tmp 23)) 20 true,
 og 25 (.mov (.tmp 0)) 20 true,
 og 26 (.mov (.tmp 7)) 20 true,
 og 27 (.bin .sub 3 (.tmp 26) (.const (.int .i64 1))) 20 true,
 og 28 (.iaddr 1 (.tmp 25) (.tmp 27)) 20 true,
 og 29 (.load false 1 (.tmp 28)) 20 true,
 og 30 (.call 164 [.tmp 24,.tmp 29]) 20 true,
 og 31 (.un .not (.tmp 30)) 20 true,
 oo 32 (.pick (.tmp 20) (.tmp 31) (.const (.bool false)))] [17,18,19,20,21,22,23,24,25,26,27,28,29,30,31])
 (.cond (.tmp 32)
 .skip
 (.exit 2)))
 (.block 3
 (.region false [
 om 33 7,
 oo 34 (.bin .add 3 (.tmp 33) (.const (.int .i64 1))),
 om 7 34] [32,33,34]) [])) [14] []) [32])
 (.seq
 (.seq
 (.region false [
 om 35 7,
 om 36 2,
 oo 37 (.bin .eql 3 (.tmp 35) (.tmp 36))] [35,36])
 (.cond (.tmp 37)
 (.seq
 (.region false [
 oo 6 (.mov (.const (.bool true)))] [0,1,2,7,8,37])
 .ret)
 .skip))
 (.seq
 (.seq
 (.region false [
 om 38 2,
 om 39 1,
 oo 40 (.bin .sub 3 (.tmp 38) (.tmp 39)),
 oo 41 (.bin .lss 3 (.tmp 40) (.const (.int .i64 50)))] [37,38,39,40])
 (.cond (.tmp 41)
 (.seq
 (.region false [
 oo 6 (.mov (.const (.bool false)))] [0,1,2,7,8,41])
 .ret)
 .skip))
 (.seq
 (.region true [
 om 42 0,
 om 43 7,
 om 44 0,
 om 45 7,
 oo 46 (.bin .sub 3 (.tmp 45) (.const (.int .i64 1))),
 om 47 0,
 om 48 7,
 oo 49 (.bin .sub 3 (.tmp 48) (.const (.int .i64 1))),
 oo 50 (.iaddr 1 (.tmp 47) (.tmp 49)),
 oo 51 (.load false 1 (.tmp 50)),
 om 52 0,
 om 53 7,
 oo 54 (.iaddr 1 (.tmp 52) (.tmp 53)),
 oo 55 (.load false 1 (.tmp 54)),
 oo 56 (.iaddr 1 (.tmp 42) (.tmp 43)),
 ⟨none,.store 1 (.tmp 56) (.tmp 51),none⟩,
 oo 57 (.iaddr 1 (.tmp 44) (.tmp 46)),
 ⟨none,.store 1 (.tmp 57) (.tmp 55),none⟩] [41,42,43,44,45,46,47,48,49,50,51,52,53,54,55,56,57])
 (.seq
 (.seq
 (.region false [
 om 58 7,
 om 59 1,
 oo 60 (.bin .sub 3 (.tmp 58) (.tmp 59)),
 oo 61 (.bin .geq 3 (.tmp 60) (.const (.int .i64 2)))] [58,59,60])
 (.cond (.tmp 61)
 (.seq
 (.region false [
 om 62 7,
 oo 63 (.bin .sub 3 (.tmp 62) (.const (.int .i64 1))),
 om 9 63] [61,62,63])
 (.block 4
 (.loop
 (.seq
 (.seq
 (.region false [
 om 64 9,
 oo 65 (.bin .geq 3 (.tmp 64) (.const (.int .i64 1)))] [64])
 (.cond (.tmp 65)
 .skip
 (.exit 4)))
 (.seq
 (.block 5
 (.seq
 (.seq
 (.region true [
 om 68 0,
 om 69 9,
 oo 70 (.iaddr 1 (.tmp 68) (.tmp 69)),
 oo 71 (.load false 1 (.tmp 70)),
 om 72 0,
 om 73 9,
 oo 74 (.bin .sub 3 (.tmp 73) (.const (.int .i64 1))),
 oo 75 (.iaddr 1 (.tmp 72) (.tmp 74)),
 oo 76 (.load false 1 (.tmp 75)),
 oo 77 (.call 164 [.tmp 71,.tmp 76]),
 oo 78 (.un .not (.tmp 77))] [65,68,69,70,71,72,73,74,75,76,77])
 (.cond (.tmp 78)
 (.exit 4)
 .skip))
 (.region true [
 om 79 0,
 om 80 9,
 om 81 0,
 om 82 9,
 oo 83 (.bin .sub 3 (.tmp 82) (.const (.int .i64 1))),
 om 84 0,
 om 85 9,
 oo 86 (.bin .sub 3 (.tmp 85) (.const (.int .i64 1))),
 oo 87 (.iaddr 1 (.tmp 84) (.tmp 86)),
 oo 88 (.load false 1 (.tmp 87)),
 om 89 0,
 om 90 9,
 oo 91 (.iaddr 1 (.tmp 89) (.tmp 90)),
 oo 92 (.load false 1 (.tmp 91)),
 oo 93 (.iaddr 1 (.tmp 79) (.tmp 80)),
 ⟨none,.store 1 (.tmp 93) (.tmp 88),none⟩,
 oo 94 (.iaddr 1 (.tmp 81) (.tmp 83)),
 ⟨none,.store 1 (.tmp 94) (.tmp 92),none⟩] [78,79,80,81,82,83,84,85,86,87,88,89,90,91,92,93,94])) [])
 (.region false [
 om 66 9,
 oo 67 (.bin .sub 3 (.tmp 66) (.const (.int .i64 1))),
 om 9 67] [66,67]))) [] []) [9,65,78]))
 .skip))
 (.seq
 (.region false [
 om 95 2,
 om 96 7,
 oo 97 (.bin .sub 3 (.tmp 95) (.tmp 96)),
 oo 98 (.bin .geq 3 (.tmp 97) (.const (.int .i64 2)))] [61,95,96,97])
 (.cond (.tmp 98)
 (.seq
 (.region false [
 om 99 7,
 oo 100 (.bin .add 3 (.tmp 99) (.const (.int .i64 1))),
 om 10 100] [98,99,100])
 (.block 6
 (.loop
 (.seq
 (.seq
 (.region false [
 om 101 10,
 om 102 2,
 oo 103 (.bin .lss 3 (.tmp 101) (.tmp 102))] [101,102])
 (.cond (.tmp 103)
 .skip
 (.exit 6)))
 (.seq
 (.block 7
 (.seq
 (.seq
 (.region true [
 om 106 0,
 om 107 10,
 oo 108 (.iaddr 1 (.tmp 106) (.tmp 107)),
 oo 109 (.load false 1 (.tmp 108)),
 om 110 0,
 om 111 10,
 oo 112 (.bin .sub 3 (.tmp 111) (.const (.int .i64 1))),
 oo 113 (.iaddr 1 (.tmp 110) (.tmp 112)),
 oo 114 (.load false 1 (.tmp 113)),
 oo 115 (.call 164 [.tmp 109,.tmp 114]),
 oo 116 (.un .not (.tmp 115))] [103,106,107,108,109,110,111,112,113,114,115])
 (.cond (.tmp 116)
 (.exit 6)
 .skip))
 (.region true [
 om 117 0,
 om 118 10,
 om 119 0,
 om 120 10,
 oo 121 (.bin .sub 3 (.tmp 120) (.const (.int .i64 1))),
 om 122 0,
 om 123 10,
 oo 124 (.bin .sub 3 (.tmp 123) (.const (.int .i64 1))),
 oo 125 (.iaddr 1 (.tmp 122) (.tmp 124)),
 oo 126 (.load false 1 (.tmp 125)),
 om 127 0,
 om 128 10,
 oo 129 (.iaddr 1 (.tmp 127) (.tmp 128)),
 oo 130 (.load false 1 (.tmp 129)),
 oo 131 (.iaddr 1 (.tmp 117) (.tmp 118)),
 ⟨none,.store 1 (.tmp 131) (.tmp 126),none⟩,
 oo 132 (.iaddr 1 (.tmp 119) (.tmp 121)),
 ⟨none,.store 1 (.tmp 132) (.tmp 130),none⟩] [116,117,118,119,120,121,122,123,124,125,126,127,128,129,130,131,132])) [])
 (.region false [
 om 104 10,
 oo 105 (.bin .add 3 (.tmp 104) (.const (.int .i64 1))),
 om 10 105] [104,105]))) [] []) [10,103,116]))
 .skip))))))) [98])
 (.region false [
 om 15 8,
 oo 16 (.bin .add 3 (.tmp 15) (.const (.int .i64 1))),
 om 8 16] [15,16]))) [] []) [0,1,2,7,8,14]))
 (.seq
 (.region false [
 oo 6 (.mov (.const (.bool false)))] [])
 .ret))))
abbrev v_q159 : List RV:= [.tmp 6]
abbrev f_q159 : FuncId:= 163
theorem k_q159 : closedOf Tryz.prog Tryz.f163 = (false,some true,some v_q159,some c_q159.plain,133):= by kernel_rfl
theorem am_q159 {args : List AV} {c0 c1 : List (Nat × List AV)} {r : AV} (h : aw Tryz.prog c_q159 (env0M args c0) (endM v_q159 r (c0.map (·.1)) c1)) (hc0 : ∀ q ∈ c0,100000 ≤ q.1) (hargs : args.length ≤ 133:= by decide) (hok : resOK r = true:= by rfl) : AM Tryz.prog f_q159 args c0 r c1 :=
  AM_mk (by kernel_rfl) Tryz.func163 k_q159 hargs hok (by decide) hc0 h
def c_q160 : ACode :=
 (.seq
 (.region false [
 oo 4 (.mov (.const (.bool false)))] [4])
 (.seq
 (.region false [
 om 5 0,
 oo 6 (.callm 206 [.tmp 5]),
 om 7 6,
 og 8 (.mov (.tmp 1)) 7 true,
 og 9 (.callm 206 [.tmp 8]) 7 true,
 og 10 (.un .not (.tmp 9)) 7 true,
 oo 11 (.pick (.tmp 7) (.tmp 10) (.const (.bool false))),
 om 12 11,
 og 13 (.mov (.tmp 0)) 12 false,
 og 14 (.mov (.tmp 1)) 12 false,
 og 15 (.bin .lss 32 (.tmp 13) (.tmp 14)) 12 false,
 oo 16 (.pick (.tmp 12) (.const (.bool true)) (.tmp 15)),
 om 4 16] [0,1,5,6,7,8,9,10,11,12,13,14,15,16])
 .ret))
abbrev v_q160 : List RV:= [.tmp 4]
abbrev f_q160 : FuncId:= 164
theorem k_q160 : closedOf Tryz.prog Tryz.f164 = (false,some true,some v_q160,some c_q160.plain,17):= by kernel_rfl
theorem ac_q160 {args : List AV} {r : AV} (h : aw Tryz.prog c_q160 (env0 args) (endQ v_q160 r)) (hargs : args.length ≤ 17:= by decide) (hok : resOK r = true:= by rfl) : AC Tryz.prog f_q160 args r :=
  AC_mk (by kernel_rfl) Tryz.func164 k_q160 hargs hok (by decide) h
def c_q161 : ACode :=
 (.seq
 (.region false [
 oo 8 (.mov (.const (.int .i64 0)))] [8])
 (.seq
 (.region true [
 om 11 0,
 om 12 1,
 om 13 0,
 om 14 3,
 om 15 0,
 om 16 3,
 oo 17 (.iaddr 1 (.tmp 15) (.tmp 16)),
 oo 18 (.load false 1 (.tmp 17)),
 om 19 0,
 om 20 1,
 oo 21 (.iaddr 1 (.tmp 19) (.tmp 20)),
 oo 22 (.load false 1 (.tmp 21)),
 oo 23 (.iaddr 1 (.tmp 11) (.tmp 12)),
 ⟨none,.store 1 (.tmp 23) (.tmp 18),none⟩,
 oo 24 (.iaddr 1 (.tmp 13) (.tmp 14)),
 ⟨none,.store 1 (.tmp 24) (.tmp 22),none⟩] [3,11,12,13,14,15,16,17,18,19,20,21,22,23,24])
 (.seq
 (.region false [
 om 25 1,
 oo 26 (.bin .add 3 (.tmp 25) (.const (.int .i64 1))),
 om 27 2,
 oo 28 (.bin .sub 3 (.tmp 27) (.const (.int .i64 1))),
 om 9 26,
 om 10 28] [2,25,26,27,28])
 (.seq
 (.block 0
 (.loop
 (.block 1
 (.seq
 (.block 2
 (.loop
 (.seq
 (.seq
 (.region true [
 om 29 9,
 om 30 10,
 oo 31 (.bin .leq 3 (.tmp 29) (.tmp 30)),
 om 32 31,
 og 33 (.mov (.tmp 0)) 32 true,
 og 34 (.mov (.tmp 1)) 32 true,
 og 35 (.iaddr 1 (.tmp 33) (.tmp 34)) 32 true,
 og 36 (.load false 1 (.tmp 35)) 32 true,
 og 37 (.mov (.tmp 0)) 32 true,
 og 38 (.mov (.tmp 9)) 32 true,
 og 39 (.iaddr 1 (.tmp 37) (.tmp 38)) 32 true,
 og 40 (.load false 1 (.tmp 39)) 32 true,
 og 41 (.call 164 [.tmp 36,.tmp 40]) 32 true,
 og 42 (.un .not (.tmp 41)) 32 true,
 oo 43 (.pick (.tmp 32) (.tmp 42) (.const (.bool false)))] [29,30,31,32,33,34,35,36,37,38,39,40,41,42])
 (.cond (.tmp 43)
 .skip
 (.exit 2)))
 (.block 3
 (.region false [
 om 44 9,
 oo 45 (.bin .add 3 (.tmp 44) (.const (.int .i64 1))),
 om 9 45] [43,44,45]) [])) [] []) [43])
 (.seq
 (.block 4
 (.loop
 (.seq
 (.seq
 (.region true [
 om 46 9,
 om 47 10,
 oo 48 (.bin .leq 3 (.tmp 46) (.tmp 47)),
 om 49 48,
 og 50 (.mov (.tmp 0)) 49 true,
 og 51 (.mov (.tmp 1)) 49 true,
 og 52 (.iaddr 1 (.tmp 50) (.tmp 51)) 49 true,
 og 53 (.load false 1 (.tmp 52)) 49 true,
 og 54 (.mov (.tmp 0)) 49 true,
 og 55 (.mov (.tmp 10)) 49 true,
 og 56 (.iaddr 1 (.tmp 54) (.tmp 55)) 49 true,
 og 57 (.load false 1 (.tmp 56)) 49 true,
 og 58 (.call 164 [.tmp 53,.tmp 57]) 49 true,
 oo 59 (.pick (.tmp 49) (.tmp 58) (.const (.bool false)))] [46,47,48,49,50,51,52,53,54,55,56,57,58])
 (.cond (.tmp 59)
 .skip
 (.exit 4)))
 (.block 5
 (.region false [
 om 60 10,
 oo 61 (.bin .sub 3 (.tmp 60) (.const (.int .i64 1))),
 om 10 61] [59,60,61]) [])) [] []) [59])
 (.seq
 (.seq
 (.region false [
 om 62 9,
 om 63 10,
 oo 64 (.bin .gtr 3 (.tmp 62) (.tmp 63))] [62,63])
 (.cond (.tmp 64)
 (.exit 0)
 .skip))
 (.seq
 (.region true [
 om 65 0,
 om 66 9,
 om 67 0,
 om 68 10,
 om 69 0,
 om 70 10,
 oo 71 (.iaddr 1 (.tmp 69) (.tmp 70)),
 oo 72 (.load false 1 (.tmp 71)),
 om 73 0,
 om 74 9,
 oo 75 (.iaddr 1 (.tmp 73) (.tmp 74)),
 oo 76 (.load false 1 (.tmp 75)),
 oo 77 (.iaddr 1 (.tmp 65) (.tmp 66)),
 ⟨none,.store 1 (.tmp 77) (.tmp 72),none⟩,
 oo 78 (.iaddr 1 (.tmp 67) (.tmp 68)),
 ⟨none,.store 1 (.tmp 78) (.tmp 76),none⟩] [64,65,66,67,68,69,70,71,72,73,74,75,76,77,78])
 (.seq
 (.region false [
 om 79 9,
 oo 80 (.bin .add 3 (.tmp 79) (.const (.int .i64 1))),
 om 9 80] [79,80])
 (.region false [
 om 81 10,
 oo 82 (.bin .sub 3 (.tmp 81) (.const (.int .i64 1))),
 om 10 82] [81,82])))))) []) [] []) [0,1,10,64])
 (.seq
 (.region false [
 om 83 9,
 om 8 83] [9,83])
 .ret)))))
abbrev v_q161 : List RV:= [.tmp 8]
abbrev f_q161 : FuncId:= 165
theorem k_q161 : closedOf Tryz.prog Tryz.f165 = (false,some true,some v_q161,some c_q161.plain,84):= by kernel_rfl
theorem am_q161 {args : List AV} {c0 c1 : List (Nat × List AV)} {r : AV} (h : aw Tryz.prog c_q161 (env0M args c0) (endM v_q161 r (c0.map (·.1)) c1)) (hc0 : ∀ q ∈ c0,100000 ≤ q.1) (hargs : args.length ≤ 84:= by decide) (hok : resOK r = true:= by rfl) : AM Tryz.prog f_q161 args c0 r c1 :=
  AM_mk (by kernel_rfl) Tryz.func165 k_q161 hargs hok (by decide) hc0 h
def c_q162 : ACode :=
 (.seq
 (.region false [
 oo 8 (.mov (.const (.int .i64 0))),
 oo 9 (.mov (.const (.bool false)))] [8,9])
 (.seq
 (.region true [
 om 12 0,
 om 13 1,
 om 14 0,
 om 15 3,
 om 16 0,
 om 17 3,
 oo 18 (.iaddr 1 (.tmp 16) (.tmp 17)),
 oo 19 (.load false 1 (.tmp 18)),
 om 20 0,
 om 21 1,
 oo 22 (.iaddr 1 (.tmp 20) (.tmp 21)),
 oo 23 (.load false 1 (.tmp 22)),
 oo 24 (.iaddr 1 (.tmp 12) (.tmp 13)),
 ⟨none,.store 1 (.tmp 24) (.tmp 19),none⟩,
 oo 25 (.iaddr 1 (.tmp 14) (.tmp 15)),
 ⟨none,.store 1 (.tmp 25) (.tmp 23),none⟩] [3,12,13,14,15,16,17,18,19,20,21,22,23,24,25])
 (.seq
 (.region false [
 om 26 1,
 oo 27 (.bin .add 3 (.tmp 26) (.const (.int .i64 1))),
 om 28 2,
 oo 29 (.bin .sub 3 (.tmp 28) (.const (.int .i64 1))),
 om 10 27,
 om 11 29] [2,26,27,28,29])
 (.seq
 (.block 0
 (.loop
 (.seq
 (.seq
 (.region true [
 om 30 10,
 om 31 11,
 oo 32 (.bin .leq 3 (.tmp 30) (.tmp 31)),
 om 33 32,
 og 34 (.mov (.tmp 0)) 33 true,
 og 35 (.mov (.tmp 10)) 33 true,
 og 36 (.iaddr 1 (.tmp 34) (.tmp 35)) 33 true,
 og 37 (.load false 1 (.tmp 36)) 33 true,
 og 38 (.mov (.tmp 0)) 33 true,
 og 39 (.mov (.tmp 1)) 33 true,
 og 40 (.iaddr 1 (.tmp 38) (.tmp 39)) 33 true,
 og 41 (.load false 1 (.tmp 40)) 33 true,
 og 42 (.call 164 [.tmp 37,.tmp 41]) 33 true,
 oo 43 (.pick (.tmp 33) (.tmp 42) (.const (.bool false)))] [30,31,32,33,34,35,36,37,38,39,40,41,42])
 (.cond (.tmp 43)
 .skip
 (.exit 0)))
 (.block 1
 (.region false [
 om 44 10,
 oo 45 (.bin .add 3 (.tmp 44) (.const (.int .i64 1))),
 om 10 45] [43,44,45]) [])) [] []) [43])
 (.seq
 (.block 2
 (.loop
 (.seq
 (.seq
 (.region true [
 om 46 10,
 om 47 11,
 oo 48 (.bin .leq 3 (.tmp 46) (.tmp 47)),
 om 49 48,
 og 50 (.mov (.tmp 0)) 49 true,
 og 51 (.mov (.tmp 11)) 49 true,
 og 52 (.iaddr 1 (.tmp 50) (.tmp 51)) 49 true,
 og 53 (.load false 1 (.tmp 52)) 49 true,
 og 54 (.mov (.tmp 0)) 49 true,
 og 55 (.mov (.tmp 1)) 49 true,
 og 56 (.iaddr 1 (.tmp 54) (.tmp 55)) 49 true,
 og 57 (.load false 1 (.tmp 56)) 49 true,
 og 58 (.call 164 [.tmp 53,.tmp 57]) 49 true,
 og 59 (.un .not (.tmp 58)) 49 true,
 oo 60 (.pick (.tmp 49) (.tmp 59) (.const (.bool false)))] [46,47,48,49,50,51,52,53,54,55,56,57,58,59])
 (.cond (.tmp 60)
 .skip
 (.exit 2)))
 (.block 3
 (.region false [
 om 61 11,
 oo 62 (.bin .sub 3 (.tmp 61) (.const (.int .i64 1))),
 om 11 62] [60,61,62]) [])) [] []) [60])
 (.seq
 (.seq
 (.region false [
 om 63 10,
 om 64 11,
 oo 65 (.bin .gtr 3 (.tmp 63) (.tmp 64))] [63,64])
 (.cond (.tmp 65)
 (.seq
 (.region true [
 om 66 0,
 om 67 11,
 om 68 0,
 om 69 1,
 om 70 0,
 om 71 1,
 oo 72 (.iaddr 1 (.tmp 70) (.tmp 71)),
 oo 73 (.load false 1 (.tmp 72)),
 om 74 0,
 om 75 11,
 oo 76 (.iaddr 1 (.tmp 74) (.tmp 75)),
 oo 77 (.load false 1 (.tmp 76)),
 oo 78 (.iaddr 1 (.tmp 66) (.tmp 67)),
 ⟨none,.store 1 (.tmp 78) (.tmp 73),none⟩,
 oo 79 (.iaddr 1 (.tmp 68) (.tmp 69)),
 ⟨none,.store 1 (.tmp 79) (.tmp 77),none⟩] [0,1,10,65,66,67,68,69,70,71,72,73,74,75,76,77,78,79])
 (.seq
 (.region false [
 om 80 11,
 om 8 80,
 oo 9 (.mov (.const (.bool true)))] [11,80])
 .ret))
 .skip))
 (.seq
 (.region true [
 om 81 0,
 om 82 10,
 om 83 0,
 om 84 11,
 om 85 0,
 om 86 11,
 oo 87 (.iaddr 1 (.tmp 85) (.tmp 86)),
 oo 88 (.load false 1 (.tmp 87)),
 om 89 0,
 om 90 10,
 oo 91 (.iaddr 1 (.tmp 89) (.tmp 90)),
 oo 92 (.load false 1 (.tmp 91)),
 oo 93 (.iaddr 1 (.tmp 81) (.tmp 82)),
 ⟨none,.store 1 (.tmp 93) (.tmp 88),none⟩,
 oo 94 (.iaddr 1 (.tmp 83) (.tmp 84)),
 ⟨none,.store 1 (.tmp 94) (.tmp 92),none⟩] [65,81,82,83,84,85,86,87,88,89,90,91,92,93,94])
 (.seq
 (.region false [
 om 95 10,
 oo 96 (.bin .add 3 (.tmp 95) (.const (.int .i64 1))),
 om 10 96] [95,96])
 (.seq
 (.region false [
 om 97 11,
 oo 98 (.bin .sub 3 (.tmp 97) (.const (.int .i64 1))),
 om 11 98] [97,98])
 (.seq
 (.block 4
 (.loop
 (.block 5
 (.seq
 (.block 6
 (.loop
 (.seq
 (.seq
 (.region true [
 om 99 10,
 om 100 11,
 oo 101 (.bin .leq 3 (.tmp 99) (.tmp 100)),
 om 102 101,
 og 103 (.mov (.tmp 0)) 102 true,
 og 104 (.mov (.tmp 10)) 102 true,
 og 105 (.iaddr 1 (.tmp 103) (.tmp 104)) 102 true,
 og 106 (.load false 1 (.tmp 105)) 102 true,
 og 107 (.mov (.tmp 0)) 102 true,
 og 108 (.mov (.tmp 1)) 102 true,
 og 109 (.iaddr 1 (.tmp 107) (.tmp 108)) 102 true,
 og 110 (.load false 1 (.tmp 109)) 102 true,
 og 111 (.call 164 [.tmp 106,.tmp 110]) 102 true,
 oo 112 (.pick (.tmp 102) (.tmp 111) (.const (.bool false)))] [99,100,101,102,103,104,105,106,107,108,109,110,111])
 (.cond (.tmp 112)
 .skip
 (.exit 6)))
 (.block 7
 (.region false [
 om 113 10,
 oo 114 (.bin .add 3 (.tmp 113) (.const (.int .i64 1))),
 om 10 114] [112,113,114]) [])) [] []) [112])
 (.seq
 (.block 8
 (.loop
 (.seq
 (.seq
 (.region true [
 om 115 10,
 om 116 11,
 oo 117 (.bin .leq 3 (.tmp 115) (.tmp 116)),
 om 118 117,
 og 119 (.mov (.tmp 0)) 118 true,
 og 120 (.mov (.tmp 11)) 118 true,
 og 121 (.iaddr 1 (.tmp 119) (.tmp 120)) 118 true,
 og 122 (.load false 1 (.tmp 121)) 118 true,
 og 123 (.mov (.tmp 0)) 118 true,
 og 124 (.mov (.tmp 1)) 118 true,
 og 125 (.iaddr 1 (.tmp 123) (.tmp 124)) 118 true,
 og 126 (.load false 1 (.tmp 125)) 118 true,
 og 127 (.call 164 [.tmp 122,.tmp 126]) 118 true,
 og 128 (.un .not (.tmp 127)) 118 true,
 oo 129 (.pick (.tmp 118) (.tmp 128) (.const (.bool false)))] [115,116,117,118,119,120,121,122,123,124,125,126,127,128])
 (.cond (.tmp 129)
 .skip
 (.exit 8)))
 (.block 9
 (.region false [
 om 130 11,
 oo 131 (.bin .sub 3 (.tmp 130) (.const (.int .i64 1))),
 om 11 131] [129,130,131]) [])) [] []) [129])
 (.seq
 (.seq
 (.region false [
 om 132 10,
 om 133 11,
 oo 134 (.bin .gtr 3 (.tmp 132) (.tmp 133))] [132,133])
 (.cond (.tmp 134)
 (.exit 4)
 .skip))
 (.seq
 (.region true [
 om 135 0,
 om 136 10,
 om 137 0,
 om 138 11,
 om 139 0,
 om 140 11,
 oo 141 (.iaddr 1 (.tmp 139) (.tmp 140)),
 oo 142 (.load false 1 (.tmp 141)),
 om 143 0,
 om 144 10,
 oo 145 (.iaddr 1 (.tmp 143) (.tmp 144)),
 oo 146 (.load false 1 (.tmp 145)),
 oo 147 (.iaddr 1 (.tmp 135) (.tmp 136)),
 ⟨none,.store 1 (.tmp 147) (.tmp 142),none⟩,
 oo 148 (.iaddr 1 (.tmp 137) (.tmp 138)),
 ⟨none,.store 1 (.tmp 148) (.tmp 146),none⟩] [134,135,136,137,138,139,140,141,142,143,144,145,146,147,148])
 (.seq
 (.region false [
 om 149 10,
 oo 150 (.bin .add 3 (.tmp 149) (.const (.int .i64 1))),
 om 10 150] [149,150])
 (.region false [
 om 151 11,
 oo 152 (.bin .sub 3 (.tmp 151) (.const (.int .i64 1))),
 om 11 152] [151,152])))))) []) [] []) [10,134])
 (.seq
 (.region true [
 om 153 0,
 om 154 11,
 om 155 0,
 om 156 1,
 om 157 0,
 om 158 1,
 oo 159 (.iaddr 1 (.tmp 157) (.tmp 158)),
 oo 160 (.load false 1 (.tmp 159)),
 om 161 0,
 om 162 11,
 oo 163 (.iaddr 1 (.tmp 161) (.tmp 162)),
 oo 164 (.load false 1 (.tmp 163)),
 oo 165 (.iaddr 1 (.tmp 153) (.tmp 154)),
 ⟨none,.store 1 (.tmp 165) (.tmp 160),none⟩,
 oo 166 (.iaddr 1 (.tmp 155) (.tmp 156)),
 ⟨none,.store 1 (.tmp 166) (.tmp 164),none⟩] [0,1,153,154,155,156,157,158,159,160,161,162,163,164,165,166])
 (.seq
 (.region false [
 om 167 11,
 om 8 167,
 oo 9 (.mov (.const (.bool false)))] [11,167])
 .ret))))))))))))
abbrev v_q162 : List RV:= [.tmp 8,.tmp 9]
abbrev f_q162 : FuncId:= 166
theorem k_q162 : closedOf Tryz.prog Tryz.f166 = (false,some true,some v_q162,some c_q162.plain,168):= by kernel_rfl
theorem am_q162 {args : List AV} {c0 c1 : List (Nat × List AV)} {r : AV} (h : aw Tryz.prog c_q162 (env0M args c0) (endM v_q162 r (c0.map (·.1)) c1)) (hc0 : ∀ q ∈ c0,100000 ≤ q.1) (hargs : args.length ≤ 168:= by decide) (hok : resOK r = true:= by rfl) : AM Tryz.prog f_q162 args c0 r c1 :=
  AM_mk (by kernel_rfl) Tryz.func166 k_q162 hargs hok (by decide) hc0 h
def c_q164 : ACode :=
 (.seq
 (.region false [
 oo 2 (.mov (.const (.int .i64 0)))] [])
 (.seq
 (.seq
 (.region false [
 om 3 0,
 oo 4 (.bin .geq 220 (.tmp 3) (.const (.int .u64 4294967296)))] [3])
 (.cond (.tmp 4)
 (.seq
 (.region false [
 om 5 0,
 oo 6 (.bin .shr 220 (.tmp 5) (.const (.int .u64 32))),
 om 0 6] [2,4,5,6])
 (.region false [
 oo 2 (.mov (.const (.int .i64 32)))] []))
 .skip))
 (.seq
 (.seq
 (.region false [
 om 7 0,
 oo 8 (.bin .geq 220 (.tmp 7) (.const (.int .u64 65536)))] [4,7])
 (.cond (.tmp 8)
 (.seq
 (.region false [
 om 9 0,
 oo 10 (.bin .shr 220 (.tmp 9) (.const (.int .u64 16))),
 om 0 10] [8,9,10])
 (.region false [
 om 11 2,
 oo 12 (.bin .add 3 (.tmp 11) (.const (.int .i64 16))),
 om 2 12] [11,12]))
 .skip))
 (.seq
 (.seq
 (.region false [
 om 13 0,
 oo 14 (.bin .geq 220 (.tmp 13) (.const (.int .u64 256)))] [8,13])
 (.cond (.tmp 14)
 (.seq
 (.region false [
 om 15 0,
 oo 16 (.bin .shr 220 (.tmp 15) (.const (.int .u64 8))),
 om 0 16] [14,15,16])
 (.region false [
 om 17 2,
 oo 18 (.bin .add 3 (.tmp 17) (.const (.int .i64 8))),
 om 2 18] [17,18]))
 .skip))
 (.seq
 (.region false [
 om 19 2,
 om 20 0,
 oo 21 (.cint .u8 (.tmp 20)),
 oo 22 (.idxs (.const (.string ⟨#[0,1,2,2,3,3,3,3,4,4,4,4,4,4,4,4,5,5,5,5,5,5,5,5,5,5,5,5,5,5,5,5,6,6,6,6,6,6,6,6,6,6,6,6,6,6,6,6,6,6,6,6,6,6,6,6,6,6,6,6,6,6,6,6,7,7,7,7,7,7,7,7,7,7,7,7,7,7,7,7,7,7,7,7,7,7,7,7,7,7,7,7,7,7,7,7,7,7,7,7,7,7,7,7,7,7,7,7,7,7,7,7,7,7,7,7,7,7,7,7,7,7,7,7,7,7,7,7,8,8,8,8,8,8,8,8,8,8,8,8,8,8,8,8,8,8,8,8,8,8,8,8,8,8,8,8,8,8,8,8,8,8,8,8,8,8,8,8,8,8,8,8,8,8,8,8,8,8,8,8,8,8,8,8,8,8,8,8,8,8,8,8,8,8,8,8,8,8,8,8,8,8,8,8,8,8,8,8,8,8,8,8,8,8,8,8,8,8,8,8,8,8,8,8,8,8,8,8,8,8,8,8,8,8,8,8,8,8,8,8,8,8,8,8,8,8,8,8,8,8,8,8,8,8,8,8]⟩)) (.tmp 21)),
 oo 23 (.cint .i64 (.tmp 22)),
 oo 24 (.bin .add 3 (.tmp 19) (.tmp 23)),
 om 2 24] [0,14,19,20,21,22,23,24])
 .ret)))))
abbrev v_q164 : List RV:= [.tmp 2]
abbrev f_q164 : FuncId:= 168
theorem k_q164 : closedOf Tryz.prog Tryz.f168 = (false,some true,some v_q164,some c_q164.plain,25):= by kernel_rfl
theorem ac_q164 {args : List AV} {r : AV} (h : aw Tryz.prog c_q164 (env0 args) (endQ v_q164 r)) (hargs : args.length ≤ 25:= by decide) (hok : resOK r = true:= by rfl) : AC Tryz.prog f_q164 args r :=
  AC_mk (by kernel_rfl) Tryz.func168 k_q164 hargs hok (by decide) h
def c_q165 : ACode :=
 (.seq
 (.region false [
 oo 2 (.mov (.const (.int .i64 0)))] [2])
 (.seq
 (.region false [
 om 6 0,
 oo 7 (.lens (.tmp 6)),
 oo 8 (.bin .geq 3 (.tmp 7) (.const (.int .i64 1))),
 om 9 8,
 og 10 (.mov (.tmp 0)) 9 true,
 og 11 (.lens (.tmp 10)) 9 true,
 og 12 (.bin .leq 3 (.tmp 11) (.const (.int .i64 12))) 9 true,
 oo 13 (.pick (.tmp 9) (.tmp 12) (.const (.bool false))),
 om 14 13,
 og 15 (.mov (.tmp 0)) 14 true,
 og 16 (.idxs (.tmp 15) (.const (.int .i64 0))) 14 true,
 og 17 (.bin .geq 5 (.tmp 16) (.const (.int .u8 97))) 14 true,
 oo 18 (.pick (.tmp 14) (.tmp 17) (.const (.bool false))),
 om 19 18,
 og 20 (.mov (.tmp 0)) 19 true,
 og 21 (.idxs (.tmp 20) (.const (.int .i64 0))) 19 true,
 og 22 (.bin .leq 5 (.tmp 21) (.const (.int .u8 122))) 19 true,
 oo 23 (.pick (.tmp 19) (.tmp 22) (.const (.bool false))),
 om 3 23] [6,7,8,9,10,11,12,13,14,15,16,17,18,19,20,21,22,23])
 (.seq
 (.seq
 (.region false [
 oo 4 (.mov (.const (.int .i64 0)))] [])
 (.block 0
 (.loop
 (.seq
 (.seq
 (.region false [
 om 24 4,
 om 25 0,
 oo 26 (.lens (.tmp 25)),
 oo 27 (.bin .lss 3 (.tmp 24) (.tmp 26))] [24,25,26])
 (.cond (.tmp 27)
 .skip
 (.exit 0)))
 (.seq
 (.block 1
 (.seq
 (.region false [
 om 30 0,
 om 31 4,
 oo 32 (.idxs (.tmp 30) (.tmp 31)),
 om 5 32] [27,30,31,32])
 (.region false [
 om 33 3,
 om 34 33,
 og 35 (.mov (.tmp 5)) 34 true,
 og 36 (.bin .geq 5 (.tmp 35) (.const (.int .u8 97))) 34 true,
 og 37 (.mov (.tmp 36)) 34 true,
 og 38 (.mov (.tmp 5)) 37 true,
 og 39 (.bin .leq 5 (.tmp 38) (.const (.int .u8 122))) 37 true,
 og 40 (.pick (.tmp 37) (.tmp 39) (.const (.bool false))) 34 true,
 og 41 (.mov (.tmp 40)) 34 true,
 og 42 (.mov (.tmp 5)) 41 false,
 og 43 (.bin .geq 5 (.tmp 42) (.const (.int .u8 48))) 41 false,
 og 44 (.mov (.tmp 43)) 41 false,
 og 45 (.mov (.tmp 5)) 44 true,
 og 46 (.bin .leq 5 (.tmp 45) (.const (.int .u8 57))) 44 true,
 og 47 (.pick (.tmp 44) (.tmp 46) (.const (.bool false))) 41 false,
 og 48 (.pick (.tmp 41) (.const (.bool true)) (.tmp 47)) 34 true,
 og 49 (.mov (.tmp 48)) 34 true,
 og 50 (.mov (.tmp 5)) 49 false,
 og 51 (.bin .eql 5 (.tmp 50) (.const (.int .u8 45))) 49 false,
 og 52 (.pick (.tmp 49) (.const (.bool true)) (.tmp 51)) 34 true,
 oo 53 (.pick (.tmp 34) (.tmp 52) (.const (.bool false))),
 om 3 53] [5,33,34,35,36,37,38,39,40,41,42,43,44,45,46,47,48,49,50,51,52,53])) [])
 (.region false [
 om 28 4,
 oo 29 (.bin .add 3 (.tmp 28) (.const (.int .i64 1))),
 om 4 29] [28,29]))) [] []) [0,4,27]))
 (.seq
 (.seq
 (.region false [
 om 54 3,
 oo 55 (.un .not (.tmp 54))] [3,54])
 (.cond (.tmp 55)
 (.seq
 (.region false [
 oo 2 (.mov (.const (.int .i64 109)))] [55])
 .ret)
 .skip))
 (.seq
 (.region false [
 oo 2 (.mov (.const (.int .i64 0)))] [55])
 .ret)))))
abbrev v_q165 : List RV:= [.tmp 2]
abbrev f_q165 : FuncId:= 169
theorem k_q165 : closedOf Tryz.prog Tryz.f169 = (false,some true,some v_q165,some c_q165.plain,56):= by kernel_rfl
theorem ac_q165 {args : List AV} {r : AV} (h : aw Tryz.prog c_q165 (env0 args) (endQ v_q165 r)) (hargs : args.length ≤ 56:= by decide) (hok : resOK r = true:= by rfl) : AC Tryz.prog f_q165 args r :=
  AC_mk (by kernel_rfl) Tryz.func169 k_q165 hargs hok (by decide) h
def c_q166 : ACode :=
 (.seq
 (.region false [
 oo 1 (.box (.tmp 0)),
 oo 2 (.mov (.const (.bool false)))] [0,2])
 (.seq
 (.region true [
 oo 3 (.faddr 1 1 (.tmp 1)),
 oo 4 (.load false 1 (.tmp 3)),
 oo 5 (.bin .geq 3 (.tmp 4) (.const (.int .i64 0))),
 om 6 5,
 og 7 (.faddr 1 1 (.tmp 1)) 6 true,
 og 8 (.load false 1 (.tmp 7)) 6 true,
 og 9 (.bin .leq 3 (.tmp 8) (.const (.int .i64 32))) 6 true,
 oo 10 (.pick (.tmp 6) (.tmp 9) (.const (.bool false))),
 om 11 10,
 og 12 (.faddr 0 1 (.tmp 1)) 11 true,
 og 13 (.load false 1 (.tmp 12)) 11 true,
 og 14 (.faddr 1 1 (.tmp 1)) 11 true,
 og 15 (.load false 1 (.tmp 14)) 11 true,
 og 16 (.call 207 [.tmp 15]) 11 true,
 og 17 (.bin .andNot 32 (.tmp 13) (.tmp 16)) 11 true,
 og 18 (.bin .eql 32 (.tmp 17) (.const (.int .u32 0))) 11 true,
 oo 19 (.pick (.tmp 11) (.tmp 18) (.const (.bool false))),
 om 2 19] [1,3,4,5,6,7,8,9,10,11,12,13,14,15,16,17,18,19])
 .ret))
abbrev v_q166 : List RV:= [.tmp 2]
abbrev f_q166 : FuncId:= 170
theorem k_q166 : closedOf Tryz.prog Tryz.f170 = (false,some true,some v_q166,some c_q166.plain,20):= by kernel_rfl
theorem ac_q166 {args : List AV} {r : AV} (h : aw Tryz.prog c_q166 (env0 args) (endQ v_q166 r)) (hargs : args.length ≤ 20:= by decide) (hok : resOK r = true:= by rfl) : AC Tryz.prog f_q166 args r :=
  AC_mk (by kernel_rfl) Tryz.func170 k_q166 hargs hok (by decide) h
def c_q167 : ACode :=
 (.seq
 (.region false [
 oo 2 (.box (.tmp 0)),
 oo 3 (.box (.tmp 1)),
 oo 4 (.mov (.const (.bool false)))] [0,1,4])
 (.seq
 (.region false [
 oo 5 (.load true 2 (.tmp 2)),
 oo 6 (.callm 170 [.tmp 5]),
 om 7 6,
 og 8 (.faddr 1 1 (.tmp 2)) 7 true,
 og 9 (.load false 1 (.tmp 8)) 7 true,
 og 10 (.faddr 1 1 (.tmp 3)) 7 true,
 og 11 (.load false 1 (.tmp 10)) 7 true,
 og 12 (.bin .geq 3 (.tmp 9) (.tmp 11)) 7 true,
 oo 13 (.pick (.tmp 7) (.tmp 12) (.const (.bool false))),
 om 14 13,
 og 15 (.load true 2 (.tmp 3)) 14 true,
 og 16 (.faddr 0 1 (.tmp 2)) 14 true,
 og 17 (.load false 1 (.tmp 16)) 14 true,
 og 18 (.callm 173 [.tmp 15,.tmp 17]) 14 true,
 oo 19 (.pick (.tmp 14) (.tmp 18) (.const (.bool false))),
 om 4 19] [2,3,5,6,7,8,9,10,11,12,13,14,15,16,17,18,19])
 .ret))
abbrev v_q167 : List RV:= [.tmp 4]
abbrev f_q167 : FuncId:= 171
theorem k_q167 : closedOf Tryz.prog Tryz.f171 = (false,some true,some v_q167,some c_q167.plain,20):= by kernel_rfl
theorem ac_q167 {args : List AV} {r : AV} (h : aw Tryz.prog c_q167 (env0 args) (endQ v_q167 r)) (hargs : args.length ≤ 20:= by decide) (hok : resOK r = true:= by rfl) : AC Tryz.prog f_q167 args r :=
  AC_mk (by kernel_rfl) Tryz.func171 k_q167 hargs hok (by decide) h
def c_q168 : ACode :=
 (.seq
 (.region false [
 oo 4 (.mov (.const (.bool false)))] [4])
 (.seq
 (.region false [
 om 5 0,
 oo 6 (.bin .geq 3 (.tmp 5) (.const (.int .i64 0))),
 om 7 6,
 og 8 (.mov (.tmp 0)) 7 true,
 og 9 (.mov (.tmp 1)) 7 true,
 og 10 (.bin .lss 3 (.tmp 8) (.tmp 9)) 7 true,
 oo 11 (.pick (.tmp 7) (.tmp 10) (.const (.bool false))),
 om 4 11] [0,1,5,6,7,8,9,10,11])
 .ret))
abbrev v_q168 : List RV:= [.tmp 4]
abbrev f_q168 : FuncId:= 172
theorem k_q168 : closedOf Tryz.prog Tryz.f172 = (false,some true,some v_q168,some c_q168.plain,12):= by kernel_rfl
theorem ac_q168 {args : List AV} {r : AV} (h : aw Tryz.prog c_q168 (env0 args) (endQ v_q168 r)) (hargs : args.length ≤ 12:= by decide) (hok : resOK r = true:= by rfl) : AC Tryz.prog f_q168 args r :=
  AC_mk (by kernel_rfl) Tryz.func172 k_q168 hargs hok (by decide) h
def c_q169 : ACode :=
 (.seq
 (.region false [
 oo 2 (.box (.tmp 0)),
 oo 4 (.mov (.const (.bool false)))] [0,4])
 (.seq
 (.region true [
 oo 5 (.load true 2 (.tmp 2)),
 oo 6 (.call 170 [.tmp 5]),
 om 7 6,
 og 8 (.mov (.tmp 1)) 7 true,
 og 9 (.faddr 1 1 (.tmp 2)) 7 true,
 og 10 (.load false 1 (.tmp 9)) 7 true,
 og 11 (.call 207 [.tmp 10]) 7 true,
 og 12 (.bin .and 32 (.tmp 8) (.tmp 11)) 7 true,
 og 13 (.faddr 0 1 (.tmp 2)) 7 true,
 og 14 (.load false 1 (.tmp 13)) 7 true,
 og 15 (.bin .eql 32 (.tmp 12) (.tmp 14)) 7 true,
 oo 16 (.pick (.tmp 7) (.tmp 15) (.const (.bool false))),
 om 4 16] [1,2,5,6,7,8,9,10,11,12,13,14,15,16])
 .ret))
abbrev v_q169 : List RV:= [.tmp 4]
abbrev f_q169 : FuncId:= 173
theorem k_q169 : closedOf Tryz.prog Tryz.f173 = (false,some true,some v_q169,some c_q169.plain,17):= by kernel_rfl
theorem ac_q169 {args : List AV} {r : AV} (h : aw Tryz.prog c_q169 (env0 args) (endQ v_q169 r)) (hargs : args.length ≤ 17:= by decide) (hok : resOK r = true:= by rfl) : AC Tryz.prog f_q169 args r :=
  AC_mk (by kernel_rfl) Tryz.func173 k_q169 hargs hok (by decide) h
def c_q170 : ACode :=
 (.seq
 (.region false [
 oo 2 (.mov (.const (.bool false)))] [2])
 (.seq
 (.region false [
 om 3 0,
 oo 4 (.bin .shr 32 (.tmp 3) (.const (.int .u64 28))),
 oo 5 (.bin .eql 32 (.tmp 4) (.const (.int .u32 14))),
 om 2 5] [0,3,4,5])
 .ret))
abbrev v_q170 : List RV:= [.tmp 2]
abbrev f_q170 : FuncId:= 174
theorem k_q170 : closedOf Tryz.prog Tryz.f174 = (false,some true,some v_q170,some c_q170.plain,6):= by kernel_rfl
theorem ac_q170 {args : List AV} {r : AV} (h : aw Tryz.prog c_q170 (env0 args) (endQ v_q170 r)) (hargs : args.length ≤ 6:= by decide) (hok : resOK r = true:= by rfl) : AC Tryz.prog f_q170 args r :=
  AC_mk (by kernel_rfl) Tryz.func174 k_q170 hargs hok (by decide) h
def c_q171 : ACode :=
 (.seq
 (.region false [
 oo 2 (.box (.tmp 0)),
 oo 3 (.box (.tmp 1)),
 oo 4 (.mov (.const (.bool false)))] [0,1,4])
 (.seq
 (.region false [
 oo 5 (.faddr 0 1 (.tmp 2)),
 oo 6 (.load false 1 (.tmp 5)),
 oo 7 (.faddr 0 1 (.tmp 3)),
 oo 8 (.load false 1 (.tmp 7)),
 oo 9 (.bin .eql 32 (.tmp 6) (.tmp 8)),
 om 10 9,
 og 11 (.faddr 1 1 (.tmp 2)) 10 true,
 og 12 (.load false 1 (.tmp 11)) 10 true,
 og 13 (.faddr 1 1 (.tmp 3)) 10 true,
 og 14 (.load false 1 (.tmp 13)) 10 true,
 og 15 (.bin .eql 32 (.tmp 12) (.tmp 14)) 10 true,
 oo 16 (.pick (.tmp 10) (.tmp 15) (.const (.bool false))),
 om 4 16] [2,3,5,6,7,8,9,10,11,12,13,14,15,16])
 .ret))
abbrev v_q171 : List RV:= [.tmp 4]
abbrev f_q171 : FuncId:= 175
theorem k_q171 : closedOf Tryz.prog Tryz.f175 = (false,some true,some v_q171,some c_q171.plain,17):= by kernel_rfl
theorem ac_q171 {args : List AV} {r : AV} (h : aw Tryz.prog c_q171 (env0 args) (endQ v_q171 r)) (hargs : args.length ≤ 17:= by decide) (hok : resOK r = true:= by rfl) : AC Tryz.prog f_q171 args r :=
  AC_mk (by kernel_rfl) Tryz.func175 k_q171 hargs hok (by decide) h
def c_q172 : ACode :=
 (.seq
 (.region false [
 oo 4 (.mov (.const (.bool false)))] [4])
 (.seq
 (.seq
 (.region false [
 oo 5 (.mov (.const (.int .i64 0)))] [])
 (.block 0
 (.loop
 (.seq
 (.seq
 (.region false [
 om 6 5,
 om 7 0,
 oo 8 (.lenl (.tmp 7)),
 oo 9 (.bin .lss 3 (.tmp 6) (.tmp 8))] [6,7,8])
 (.cond (.tmp 9)
 .skip
 (.exit 0)))
 (.seq
 (.block 1
 (.seq
 (.region false [
 om 12 0,
 om 13 5,
 oo 14 (.iaddr 1 (.tmp 12) (.tmp 13)),
 oo 15 (.load false 1 (.tmp 14)),
 om 16 1,
 oo 17 (.bin .eql 32 (.tmp 15) (.tmp 16))] [9,12,13,14,15,16])
 (.cond (.tmp 17)
 (.seq
 (.region false [
 oo 4 (.mov (.const (.bool true)))] [0,1,5,17])
 .ret)
 .skip)) [17])
 (.region false [
 om 10 5,
 oo 11 (.bin .add 3 (.tmp 10) (.const (.int .i64 1))),
 om 5 11] [10,11]))) [] []) [0,1,5,9]))
 (.seq
 (.region false [
 oo 4 (.mov (.const (.bool false)))] [])
 .ret)))
abbrev v_q172 : List RV:= [.tmp 4]
abbrev f_q172 : FuncId:= 176
theorem k_q172 : closedOf Tryz.prog Tryz.f176 = (false,some true,some v_q172,some c_q172.plain,18):= by kernel_rfl
theorem ac_q172 {args : List AV} {r : AV} (h : aw Tryz.prog c_q172 (env0 args) (endQ v_q172 r)) (hargs : args.length ≤ 18:= by decide) (hok : resOK r = true:= by rfl) : AC Tryz.prog f_q172 args r :=
  AC_mk (by kernel_rfl) Tryz.func176 k_q172 hargs hok (by decide) h
def c_q183 : ACode :=
 (.seq
 (.region false [
 oo 2 (.mov (.const (.bool false)))] [2])
 (.seq
 (.region false [
 om 3 0,
 oo 4 (.bin .geq 5 (.tmp 3) (.const (.int .u8 97))),
 om 5 4,
 og 6 (.mov (.tmp 0)) 5 true,
 og 7 (.bin .leq 5 (.tmp 6) (.const (.int .u8 122))) 5 true,
 oo 8 (.pick (.tmp 5) (.tmp 7) (.const (.bool false))),
 om 2 8] [0,3,4,5,6,7,8])
 .ret))
abbrev v_q183 : List RV:= [.tmp 2]
abbrev f_q183 : FuncId:= 187
theorem k_q183 : closedOf Tryz.prog Tryz.f187 = (false,some true,some v_q183,some c_q183.plain,9):= by kernel_rfl
theorem ac_q183 {args : List AV} {r : AV} (h : aw Tryz.prog c_q183 (env0 args) (endQ v_q183 r)) (hargs : args.length ≤ 9:= by decide) (hok : resOK r = true:= by rfl) : AC Tryz.prog f_q183 args r :=
  AC_mk (by kernel_rfl) Tryz.func187 k_q183 hargs hok (by decide) h
def c_q184 : ACode :=
 (.seq
 (.region false [
 oo 4 (.mov (.const (.int .i64 0)))] [4])
 (.seq
 (.seq
 (.region false [
 om 6 0,
 oo 7 (.lenl (.tmp 6)),
 oo 8 (.mov (.const (.int .i64 0)))] [6])
 (.block 0
 (.loop
 (.seq
 (.region false [
 oo 9 (.bin .lss 3 (.tmp 8) (.tmp 7))] [])
 (.seq
 (.cond (.tmp 9)
 .skip
 (.exit 0))
 (.seq
 (.block 1
 (.seq
 (.region false [
 om 10 8,
 om 5 10] [9,10])
 (.seq
 (.region false [
 om 11 1,
 om 12 0,
 om 13 5,
 oo 14 (.iaddr 2 (.tmp 12) (.tmp 13)),
 oo 15 (.load true 2 (.tmp 14)),
 oo 16 (.callvm (.tmp 11) [.tmp 15])] [11,12,13,14,15])
 (.cond (.tmp 16)
 (.seq
 (.region false [
 om 17 5,
 om 4 17] [0,1,5,7,8,16,17])
 .ret)
 .skip))) [5,16])
 (.region false [
 oo 18 (.bin .add 3 (.tmp 8) (.const (.int .i64 1))),
 om 8 18] [18])))) [] []) [0,1,7,8,9]))
 (.seq
 (.region false [
 oo 4 (.mov (.const (.int .i64 (-1))))] [])
 .ret)))
abbrev v_q184 : List RV:= [.tmp 4]
abbrev f_q184 : FuncId:= 188
theorem k_q184 : closedOf Tryz.prog Tryz.f188 = (false,some true,some v_q184,some c_q184.plain,19):= by kernel_rfl
theorem ac_q184 {args : List AV} {r : AV} (h : aw Tryz.prog c_q184 (env0 args) (endQ v_q184 r)) (hargs : args.length ≤ 19:= by decide) (hok : resOK r = true:= by rfl) : AC Tryz.prog f_q184 args r :=
  AC_mk (by kernel_rfl) Tryz.func188 k_q184 hargs hok (by decide) h
def c_q185 : ACode :=
 (.seq
 (.region false [
 oo 4 (.mov (.const (.int .i64 0)))] [4])
 (.seq
 (.seq
 (.region false [
 om 6 0,
 oo 7 (.lenl (.tmp 6)),
 oo 8 (.mov (.const (.int .i64 0)))] [6])
 (.block 0
 (.loop
 (.seq
 (.region false [
 oo 9 (.bin .lss 3 (.tmp 8) (.tmp 7))] [])
 (.seq
 (.cond (.tmp 9)
 .skip
 (.exit 0))
 (.seq
 (.block 1
 (.seq
 (.region false [
 om 10 8,
 om 5 10] [9,10])
 (.seq
 (.region false [
 om 11 1,
 om 12 0,
 om 13 5,
 oo 14 (.iaddr 3 (.tmp 12) (.tmp 13)),
 oo 15 (.load true 3 (.tmp 14)),
 oo 16 (.callvm (.tmp 11) [.tmp 15])] [11,12,13,14,15])
 (.cond (.tmp 16)
 (.seq
 (.region false [
 om 17 5,
 om 4 17] [0,1,5,7,8,16,17])
 .ret)
 .skip))) [5,16])
 (.region false [
 oo 18 (.bin .add 3 (.tmp 8) (.const (.int .i64 1))),
 om 8 18] [18])))) [] []) [0,1,7,8,9]))
 (.seq
 (.region false [
 oo 4 (.mov (.const (.int .i64 (-1))))] [])
 .ret)))
abbrev v_q185 : List RV:= [.tmp 4]
abbrev f_q185 : FuncId:= 189
theorem k_q185 : closedOf Tryz.prog Tryz.f189 = (false,some true,some v_q185,some c_q185.plain,19):= by kernel_rfl
theorem ac_q185 {args : List AV} {r : AV} (h : aw Tryz.prog c_q185 (env0 args) (endQ v_q185 r)) (hargs : args.length ≤ 19:= by decide) (hok : resOK r = true:= by rfl) : AC Tryz.prog f_q185 args r :=
  AC_mk (by kernel_rfl) Tryz.func189 k_q185 hargs hok (by decide) h
def c_q186 : ACode :=
 (.seq
 (.region false [
 oo 2 (.mov (.const (.int .u32 0)))] [2])
 (.seq
 (.region false [
 om 4 0,
 oo 5 (.mnmx true [.tmp 4,.const (.int .i64 0)]),
 oo 6 (.mnmx false [.tmp 5,.const (.int .i64 32)]),
 om 3 6] [0,4,5,6])
 (.seq
 (.region false [
 om 7 3,
 oo 8 (.bin .shr 32 (.const (.int .u32 4294967295)) (.tmp 7)),
 oo 9 (.un .xor (.tmp 8)),
 om 2 9] [3,7,8,9])
 .ret)))
abbrev v_q186 : List RV:= [.tmp 2]
abbrev f_q186 : FuncId:= 190
theorem k_q186 : closedOf Tryz.prog Tryz.f190 = (false,some true,some v_q186,some c_q186.plain,10):= by kernel_rfl
theorem ac_q186 {args : List AV} {r : AV} (h : aw Tryz.prog c_q186 (env0 args) (endQ v_q186 r)) (hargs : args.length ≤ 10:= by decide) (hok : resOK r = true:= by rfl) : AC Tryz.prog f_q186 args r :=
  AC_mk (by kernel_rfl) Tryz.func190 k_q186 hargs hok (by decide) h
def c_q187 : ACode :=
 (.seq
 (.region false [
 oo 2 (.box (.tmp 0)),
 oo 4 (.mov (.const (.bool false)))] [0,4])
 (.seq
 (.region true [
 oo 5 (.load true 2 (.tmp 2)),
 oo 6 (.call 135 [.tmp 5]),
 om 7 6,
 og 8 (.mov (.tmp 1)) 7 true,
 og 9 (.faddr 1 1 (.tmp 2)) 7 true,
 og 10 (.load false 1 (.tmp 9)) 7 true,
 og 11 (.call 190 [.tmp 10]) 7 true,
 og 12 (.bin .and 32 (.tmp 8) (.tmp 11)) 7 true,
 og 13 (.faddr 0 1 (.tmp 2)) 7 true,
 og 14 (.load false 1 (.tmp 13)) 7 true,
 og 15 (.bin .eql 32 (.tmp 12) (.tmp 14)) 7 true,
 oo 16 (.pick (.tmp 7) (.tmp 15) (.const (.bool false))),
 om 4 16] [1,2,5,6,7,8,9,10,11,12,13,14,15,16])
 .ret))
abbrev v_q187 : List RV:= [.tmp 4]
abbrev f_q187 : FuncId:= 191
theorem k_q187 : closedOf Tryz.prog Tryz.f191 = (false,some true,some v_q187,some c_q187.plain,17):= by kernel_rfl
theorem ac_q187 {args : List AV} {r : AV} (h : aw Tryz.prog c_q187 (env0 args) (endQ v_q187 r)) (hargs : args.length ≤ 17:= by decide) (hok : resOK r = true:= by rfl) : AC Tryz.prog f_q187 args r :=
  AC_mk (by kernel_rfl) Tryz.func191 k_q187 hargs hok (by decide) h
def c_q188 : ACode :=
 (.seq
 (.region false [
 oo 1 (.box (.tmp 0)),
 oo 2 (.mov (.const (.int .u32 0)))] [0,2])
 (.seq
 (.region false [
 oo 3 (.mov (.const (.int .u32 0)))] [])
 (.seq
 (.seq
 (.region false [
 oo 6 (.load true 4 (.tmp 1)),
 oo 7 (.mov (.const (.int .i64 0)))] [1])
 (.block 0
 (.loop
 (.seq
 (.region false [
 oo 8 (.bin .lss 3 (.tmp 7) (.const (.int .i64 4)))] [])
 (.seq
 (.cond (.tmp 8)
 .skip
 (.exit 0))
 (.seq
 (.block 1
 (.seq
 (.region false [
 oo 9 (.idxa false 4 1 (.tmp 6) (.tmp 7)),
 om 5 9] [8,9])
 (.region false [
 om 10 3,
 oo 11 (.bin .shl 32 (.tmp 10) (.const (.int .u64 8))),
 om 12 5,
 oo 13 (.cint .u32 (.tmp 12)),
 oo 14 (.bin .or 32 (.tmp 11) (.tmp 13)),
 om 3 14] [5,10,11,12,13,14])) [])
 (.region false [
 oo 15 (.bin .add 3 (.tmp 7) (.const (.int .i64 1))),
 om 7 15] [15])))) [] []) [6,7,8]))
 (.seq
 (.region false [
 om 16 3,
 om 2 16] [3,16])
 .ret))))
abbrev v_q188 : List RV:= [.tmp 2]
abbrev f_q188 : FuncId:= 192
theorem k_q188 : closedOf Tryz.prog Tryz.f192 = (false,some true,some v_q188,some c_q188.plain,17):= by kernel_rfl
theorem ac_q188 {args : List AV} {r : AV} (h : aw Tryz.prog c_q188 (env0 args) (endQ v_q188 r)) (hargs : args.length ≤ 17:= by decide) (hok : resOK r = true:= by rfl) : AC Tryz.prog f_q188 args r :=
  AC_mk (by kernel_rfl) Tryz.func192 k_q188 hargs hok (by decide) h
def c_q189 : ACode :=
 (.seq
 (.region false [
 oo 4 (.mov (.const (.int .i64 0)))] [4])
 (.seq
 (.seq
 (.region false [
 om 6 0,
 oo 7 (.lenl (.tmp 6)),
 oo 8 (.mov (.const (.int .i64 0)))] [6])
 (.block 0
 (.loop
 (.seq
 (.region false [
 oo 9 (.bin .lss 3 (.tmp 8) (.tmp 7))] [])
 (.seq
 (.cond (.tmp 9)
 .skip
 (.exit 0))
 (.seq
 (.block 1
 (.seq
 (.region false [
 om 10 8,
 om 5 10] [9,10])
 (.seq
 (.region false [
 om 11 1,
 om 12 0,
 om 13 5,
 oo 14 (.iaddr 3 (.tmp 12) (.tmp 13)),
 oo 15 (.load true 3 (.tmp 14)),
 oo 16 (.callvm (.tmp 11) [.tmp 15])] [11,12,13,14,15])
 (.cond (.tmp 16)
 (.seq
 (.region false [
 om 17 5,
 om 4 17] [0,1,5,7,8,16,17])
 .ret)
 .skip))) [5,16])
 (.region false [
 oo 18 (.bin .add 3 (.tmp 8) (.const (.int .i64 1))),
 om 8 18] [18])))) [] []) [0,1,7,8,9]))
 (.seq
 (.region false [
 oo 4 (.mov (.const (.int .i64 (-1))))] [])
 .ret)))
abbrev v_q189 : List RV:= [.tmp 4]
abbrev f_q189 : FuncId:= 193
theorem k_q189 : closedOf Tryz.prog Tryz.f193 = (false,some true,some v_q189,some c_q189.plain,19):= by kernel_rfl
theorem ac_q189 {args : List AV} {r : AV} (h : aw Tryz.prog c_q189 (env0 args) (endQ v_q189 r)) (hargs : args.length ≤ 19:= by decide) (hok : resOK r = true:= by rfl) : AC Tryz.prog f_q189 args r :=
  AC_mk (by kernel_rfl) Tryz.func193 k_q189 hargs hok (by decide) h
def c_q190 : ACode :=
 (.seq
 (.region false [
 oo 4 (.mov (.const (.int .i64 0)))] [4])
 (.seq
 (.seq
 (.region false [
 om 6 0,
 oo 7 (.lenl (.tmp 6)),
 oo 8 (.mov (.const (.int .i64 0)))] [6])
 (.block 0
 (.loop
 (.seq
 (.region false [
 oo 9 (.bin .lss 3 (.tmp 8) (.tmp 7))] [])
 (.seq
 (.cond (.tmp 9)
 .skip
 (.exit 0))
 (.seq
 (.block 1
 (.seq
 (.region false [
 om 10 8,
 om 5 10] [9,10])
 (.seq
 (.region false [
 om 11 1,
 om 12 0,
 om 13 5,
 oo 14 (.iaddr 3 (.tmp 12) (.tmp 13)),
 oo 15 (.load true 3 (.tmp 14)),
 oo 16 (.callvm (.tmp 11) [.tmp 15])] [11,12,13,14,15])
 (.cond (.tmp 16)
 (.seq
 (.region false [
 om 17 5,
 om 4 17] [0,1,5,7,8,16,17])
 .ret)
 .skip))) [5,16])
 (.region false [
 oo 18 (.bin .add 3 (.tmp 8) (.const (.int .i64 1))),
 om 8 18] [18])))) [] []) [0,1,7,8,9]))
 (.seq
 (.region false [
 oo 4 (.mov (.const (.int .i64 (-1))))] [])
 .ret)))
abbrev v_q190 : List RV:= [.tmp 4]
abbrev f_q190 : FuncId:= 194
theorem k_q190 : closedOf Tryz.prog Tryz.f194 = (false,some true,some v_q190,some c_q190.plain,19):= by kernel_rfl
theorem ac_q190 {args : List AV} {r : AV} (h : aw Tryz.prog c_q190 (env0 args) (endQ v_q190 r)) (hargs : args.length ≤ 19:= by decide) (hok : resOK r = true:= by rfl) : AC Tryz.prog f_q190 args r :=
  AC_mk (by kernel_rfl) Tryz.func194 k_q190 hargs hok (by decide) h
def c_q191 : ACode :=
 (.seq
 (.region false [
 oo 4 (.mov (.const (.int .i64 0)))] [4])
 (.seq
 (.seq
 (.region false [
 om 6 0,
 oo 7 (.lenl (.tmp 6)),
 oo 8 (.mov (.const (.int .i64 0)))] [6])
 (.block 0
 (.loop
 (.seq
 (.region false [
 oo 9 (.bin .lss 3 (.tmp 8) (.tmp 7))] [])
 (.seq
 (.cond (.tmp 9)
 .skip
 (.exit 0))
 (.seq
 (.block 1
 (.seq
 (.region false [
 om 10 8,
 om 5 10] [9,10])
 (.seq
 (.region false [
 om 11 1,
 om 12 0,
 om 13 5,
 oo 14 (.iaddr 3 (.tmp 12) (.tmp 13)),
 oo 15 (.load true 3 (.tmp 14)),
 oo 16 (.callvm (.tmp 11) [.tmp 15])] [11,12,13,14,15])
 (.cond (.tmp 16)
 (.seq
 (.region false [
 om 17 5,
 om 4 17] [0,1,5,7,8,16,17])
 .ret)
 .skip))) [5,16])
 (.region false [
 oo 18 (.bin .add 3 (.tmp 8) (.const (.int .i64 1))),
 om 8 18] [18])))) [] []) [0,1,7,8,9]))
 (.seq
 (.region false [
 oo 4 (.mov (.const (.int .i64 (-1))))] [])
 .ret)))
abbrev v_q191 : List RV:= [.tmp 4]
abbrev f_q191 : FuncId:= 195
theorem k_q191 : closedOf Tryz.prog Tryz.f195 = (false,some true,some v_q191,some c_q191.plain,19):= by kernel_rfl
theorem ac_q191 {args : List AV} {r : AV} (h : aw Tryz.prog c_q191 (env0 args) (endQ v_q191 r)) (hargs : args.length ≤ 19:= by decide) (hok : resOK r = true:= by rfl) : AC Tryz.prog f_q191 args r :=
  AC_mk (by kernel_rfl) Tryz.func195 k_q191 hargs hok (by decide) h
def c_q192 : ACode :=
 (.seq
 (.region false [
 oo 4 (.mov (.const (.int .i64 0)))] [4])
 (.seq
 (.seq
 (.region false [
 om 6 0,
 oo 7 (.lenl (.tmp 6)),
 oo 8 (.mov (.const (.int .i64 0)))] [6])
 (.block 0
 (.loop
 (.seq
 (.region false [
 oo 9 (.bin .lss 3 (.tmp 8) (.tmp 7))] [])
 (.seq
 (.cond (.tmp 9)
 .skip
 (.exit 0))
 (.seq
 (.block 1
 (.seq
 (.region false [
 om 10 8,
 om 5 10] [9,10])
 (.seq
 (.region false [
 om 11 1,
 om 12 0,
 om 13 5,
 oo 14 (.iaddr 1 (.tmp 12) (.tmp 13)),
 oo 15 (.load false 1 (.tmp 14)),
 oo 16 (.callvm (.tmp 11) [.tmp 15])] [11,12,13,14,15])
 (.cond (.tmp 16)
 (.seq
 (.region false [
 om 17 5,
 om 4 17] [0,1,5,7,8,16,17])
 .ret)
 .skip))) [5,16])
 (.region false [
 oo 18 (.bin .add 3 (.tmp 8) (.const (.int .i64 1))),
 om 8 18] [18])))) [] []) [0,1,7,8,9]))
 (.seq
 (.region false [
 oo 4 (.mov (.const (.int .i64 (-1))))] [])
 .ret)))
abbrev v_q192 : List RV:= [.tmp 4]
abbrev f_q192 : FuncId:= 196
theorem k_q192 : closedOf Tryz.prog Tryz.f196 = (false,some true,some v_q192,some c_q192.plain,19):= by kernel_rfl
theorem ac_q192 {args : List AV} {r : AV} (h : aw Tryz.prog c_q192 (env0 args) (endQ v_q192 r)) (hargs : args.length ≤ 19:= by decide) (hok : resOK r = true:= by rfl) : AC Tryz.prog f_q192 args r :=
  AC_mk (by kernel_rfl) Tryz.func196 k_q192 hargs hok (by decide) h
def c_q193 : ACode :=
 (.seq
 (.region false [
 oo 2 (.mov (.const (.slice none 0 0)))] [2])
 (.seq
 (.region false [
 om 3 0,
 oo 4 (.callm 222 [.const (.slice none 0 0),.tmp 3]),
 om 2 4] [0,3,4])
 .ret))
abbrev v_q193 : List RV:= [.tmp 2]
abbrev f_q193 : FuncId:= 197
theorem k_q193 : closedOf Tryz.prog Tryz.f197 = (false,some true,some v_q193,some c_q193.plain,5):= by kernel_rfl
theorem ac_q193 {args : List AV} {r : AV} (h : aw Tryz.prog c_q193 (env0 args) (endQ v_q193 r)) (hargs : args.length ≤ 5:= by decide) (hok : resOK r = true:= by rfl) : AC Tryz.prog f_q193 args r :=
  AC_mk (by kernel_rfl) Tryz.func197 k_q193 hargs hok (by decide) h
abbrev f_q194 : FuncId:= 198
def c_q195 : ACode :=
 (.seq
 (.region false [
 om 10 1,
 om 8 10] [1,10])
 (.block 0
 (.loop
 (.block 1
 (.seq
 (.region false [
 om 11 8,
 oo 12 (.bin .mul 3 (.const (.int .i64 2)) (.tmp 11)),
 oo 13 (.bin .add 3 (.tmp 12) (.const (.int .i64 1))),
 om 9 13] [11,12,13])
 (.seq
 (.seq
 (.region false [
 om 14 9,
 om 15 2,
 oo 16 (.bin .geq 3 (.tmp 14) (.tmp 15))] [14,15])
 (.cond (.tmp 16)
 (.exit 0)
 .skip))
 (.seq
 (.seq
 (.region true [
 om 17 9,
 oo 18 (.bin .add 3 (.tmp 17) (.const (.int .i64 1))),
 om 19 2,
 oo 20 (.bin .lss 3 (.tmp 18) (.tmp 19)),
 om 21 20,
 og 22 (.mov (.tmp 0)) 21 true,
 og 23 (.mov (.tmp 3)) 21 true,
 og 24 (.mov (.tmp 9)) 21 true,
 og 25 (.bin .add 3 (.tmp 23) (.tmp 24)) 21 true,
 og 26 (.iaddr 1 (.tmp 22) (.tmp 25)) 21 true,
 og 27 (.load false 1 (.tmp 26)) 21 true,
 og 28 (.mov (.tmp 0)) 21 true,
 og 29 (.mov (.tmp 3)) 21 true,
 og 30 (.mov (.tmp 9)) 21 true,
 og 31 (.bin .add 3 (.tmp 29) (.tmp 30)) 21 true,
 og 32 (.bin .add 3 (.tmp 31) (.const (.int .i64 1))) 21 true,
 og 33 (.iaddr 1 (.tmp 28) (.tmp 32)) 21 true,
 og 34 (.load false 1 (.tmp 33)) 21 true,
 og 35 (.call 164 [.tmp 27,.tmp 34]) 21 true,
 oo 36 (.pick (.tmp 21) (.tmp 35) (.const (.bool false)))] [16,17,18,19,20,21,22,23,24,25,26,27,28,29,30,31,32,33,34,35])
 (.cond (.tmp 36)
 (.region false [
 om 37 9,
 oo 38 (.bin .add 3 (.tmp 37) (.const (.int .i64 1))),
 om 9 38] [36,37,38])
 .skip))
 (.seq
 (.seq
 (.region true [
 om 39 0,
 om 40 3,
 om 41 8,
 oo 42 (.bin .add 3 (.tmp 40) (.tmp 41)),
 oo 43 (.iaddr 1 (.tmp 39) (.tmp 42)),
 oo 44 (.load false 1 (.tmp 43)),
 om 45 0,
 om 46 3,
 om 47 9,
 oo 48 (.bin .add 3 (.tmp 46) (.tmp 47)),
 oo 49 (.iaddr 1 (.tmp 45) (.tmp 48)),
 oo 50 (.load false 1 (.tmp 49)),
 oo 51 (.call 164 [.tmp 44,.tmp 50]),
 oo 52 (.un .not (.tmp 51))] [36,39,40,41,42,43,44,45,46,47,48,49,50,51])
 (.cond (.tmp 52)
 .ret
 .skip))
 (.seq
 (.region true [
 om 53 0,
 om 54 3,
 om 55 8,
 oo 56 (.bin .add 3 (.tmp 54) (.tmp 55)),
 om 57 0,
 om 58 3,
 om 59 9,
 oo 60 (.bin .add 3 (.tmp 58) (.tmp 59)),
 om 61 0,
 om 62 3,
 om 63 9,
 oo 64 (.bin .add 3 (.tmp 62) (.tmp 63)),
 oo 65 (.iaddr 1 (.tmp 61) (.tmp 64)),
 oo 66 (.load false 1 (.tmp 65)),
 om 67 0,
 om 68 3,
 om 69 8,
 oo 70 (.bin .add 3 (.tmp 68) (.tmp 69)),
 oo 71 (.iaddr 1 (.tmp 67) (.tmp 70)),
 oo 72 (.load false 1 (.tmp 71)),
 oo 73 (.iaddr 1 (.tmp 53) (.tmp 56)),
 ⟨none,.store 1 (.tmp 73) (.tmp 66),none⟩,
 oo 74 (.iaddr 1 (.tmp 57) (.tmp 60)),
 ⟨none,.store 1 (.tmp 74) (.tmp 72),none⟩] [8,52,53,54,55,56,57,58,59,60,61,62,63,64,65,66,67,68,69,70,71,72,73,74])
 (.region false [
 om 75 9,
 om 8 75] [9,75])))))) []) [] []) [0,2,3,8,9,16]))
abbrev v_q195 : List RV:= []
abbrev f_q195 : FuncId:= 201
theorem k_q195 : closedOf Tryz.prog Tryz.f201 = (false,some true,some v_q195,some c_q195.plain,76):= by kernel_rfl
theorem am_q195 {args : List AV} {c0 c1 : List (Nat × List AV)} {r : AV} (h : aw Tryz.prog c_q195 (env0M args c0) (endM v_q195 r (c0.map (·.1)) c1)) (hc0 : ∀ q ∈ c0,100000 ≤ q.1) (hargs : args.length ≤ 76:= by decide) (hok : resOK r = true:= by rfl) : AM Tryz.prog f_q195 args c0 r c1 :=
  AM_mk (by kernel_rfl) Tryz.func201 k_q195 hargs hok (by decide) hc0 h
def c_q196 : ACode :=
 (.seq
 (.region false [
 oo 2 (.mov (.const (.int .u64 0)))] [2])
 (.seq
 (.region false [
 om 3 0,
 oo 4 (.cint .u64 (.tmp 3)),
 oo 5 (.callm 105 [.tmp 4]),
 oo 6 (.bin .shl 167 (.const (.int .u64 1)) (.tmp 5)),
 om 2 6] [0,3,4,5,6])
 .ret))
abbrev v_q196 : List RV:= [.tmp 2]
abbrev f_q196 : FuncId:= 202
theorem k_q196 : closedOf Tryz.prog Tryz.f202 = (false,some true,some v_q196,some c_q196.plain,7):= by kernel_rfl
theorem ac_q196 {args : List AV} {r : AV} (h : aw Tryz.prog c_q196 (env0 args) (endQ v_q196 r)) (hargs : args.length ≤ 7:= by decide) (hok : resOK r = true:= by rfl) : AC Tryz.prog f_q196 args r :=
  AC_mk (by kernel_rfl) Tryz.func202 k_q196 hargs hok (by decide) h
def c_q197 : ACode :=
 (.seq
 (.region false [
 oo 2 (.mov (.const (.int .u64 0)))] [2])
 (.seq
 (.region true [
 om 3 0,
 oo 4 (.nilchk (.tmp 3)),
 oo 5 (.load false 1 (.tmp 4)),
 om 6 0,
 oo 7 (.nilchk (.tmp 6)),
 oo 8 (.load false 1 (.tmp 7)),
 oo 9 (.bin .shl 241 (.tmp 8) (.const (.int .u64 13))),
 oo 10 (.bin .xor 241 (.tmp 5) (.tmp 9)),
 oo 11 (.nilchk (.tmp 3)),
 ⟨none,.store 1 (.tmp 11) (.tmp 10),none⟩] [3,4,5,6,7,8,9,10,11])
 (.seq
 (.region true [
 om 12 0,
 oo 13 (.nilchk (.tmp 12)),
 oo 14 (.load false 1 (.tmp 13)),
 om 15 0,
 oo 16 (.nilchk (.tmp 15)),
 oo 17 (.load false 1 (.tmp 16)),
 oo 18 (.bin .shr 241 (.tmp 17) (.const (.int .u64 7))),
 oo 19 (.bin .xor 241 (.tmp 14) (.tmp 18)),
 oo 20 (.nilchk (.tmp 12)),
 ⟨none,.store 1 (.tmp 20) (.tmp 19),none⟩] [12,13,14,15,16,17,18,19,20])
 (.seq
 (.region true [
 om 21 0,
 oo 22 (.nilchk (.tmp 21)),
 oo 23 (.load false 1 (.tmp 22)),
 om 24 0,
 oo 25 (.nilchk (.tmp 24)),
 oo 26 (.load false 1 (.tmp 25)),
 oo 27 (.bin .shl 241 (.tmp 26) (.const (.int .u64 17))),
 oo 28 (.bin .xor 241 (.tmp 23) (.tmp 27)),
 oo 29 (.nilchk (.tmp 21)),
 ⟨none,.store 1 (.tmp 29) (.tmp 28),none⟩] [21,22,23,24,25,26,27,28,29])
 (.seq
 (.region false [
 om 30 0,
 oo 31 (.nilchk (.tmp 30)),
 oo 32 (.load false 1 (.tmp 31)),
 om 2 32] [0,30,31,32])
 .ret)))))
abbrev v_q197 : List RV:= [.tmp 2]
abbrev f_q197 : FuncId:= 203
theorem k_q197 : closedOf Tryz.prog Tryz.f203 = (false,some true,some v_q197,some c_q197.plain,33):= by kernel_rfl
theorem am_q197 {args : List AV} {c0 c1 : List (Nat × List AV)} {r : AV} (h : aw Tryz.prog c_q197 (env0M args c0) (endM v_q197 r (c0.map (·.1)) c1)) (hc0 : ∀ q ∈ c0,100000 ≤ q.1) (hargs : args.length ≤ 33:= by decide) (hok : resOK r = true:= by rfl) : AM Tryz.prog f_q197 args c0 r c1 :=
  AM_mk (by kernel_rfl) Tryz.func203 k_q197 hargs hok (by decide) hc0 h
def c_q198 : ACode :=
 (.seq
 (.region false [
 oo 6 (.mov (.const (.int .i64 0)))] [6])
 (.seq
 (.region false [
 om 7 0,
 om 8 1,
 oo 9 (.bin .sub 3 (.tmp 8) (.const (.int .i64 1))),
 om 10 1,
 om 11 1,
 oo 12 (.bin .add 3 (.tmp 11) (.const (.int .i64 1))),
 om 13 2,
 oo 14 (.callm 205 [.tmp 7,.tmp 9,.tmp 10,.tmp 12,.tmp 13]),
 om 6 14] [0,1,2,7,8,9,10,11,12,13,14])
 .ret))
abbrev v_q198 : List RV:= [.tmp 6]
abbrev f_q198 : FuncId:= 204
theorem k_q198 : closedOf Tryz.prog Tryz.f204 = (false,some true,some v_q198,some c_q198.plain,15):= by kernel_rfl
theorem am_q198 {args : List AV} {c0 c1 : List (Nat × List AV)} {r : AV} (h : aw Tryz.prog c_q198 (env0M args c0) (endM v_q198 r (c0.map (·.1)) c1)) (hc0 : ∀ q ∈ c0,100000 ≤ q.1) (hargs : args.length ≤ 15:= by decide) (hok : resOK r = true:= by rfl) : AM Tryz.prog f_q198 args c0 r c1 :=
  AM_mk (by kernel_rfl) Tryz.func204 k_q198 hargs hok (by decide) hc0 h
def c_q199 : ACode :=
 (.seq
 (.region false [
 oo 10 (.mov (.const (.int .i64 0)))] [10])
 (.seq
 (.region false [
 om 12 0,
 om 13 1,
 om 14 2,
 om 15 4,
 oo 16 (.callm 225 [.tmp 12,.tmp 13,.tmp 14,.tmp 15]),
 om 11 16,
 oo 17 (.ext (.tmp 11) 0),
 oo 18 (.ext (.tmp 11) 1),
 om 1 17,
 om 2 18] [11,12,13,14,15,16,17,18])
 (.seq
 (.region false [
 om 20 0,
 om 21 2,
 om 22 3,
 om 23 4,
 oo 24 (.callm 225 [.tmp 20,.tmp 21,.tmp 22,.tmp 23]),
 om 19 24,
 oo 25 (.ext (.tmp 19) 0),
 oo 26 (.ext (.tmp 19) 1),
 om 2 25,
 om 3 26] [3,19,20,21,22,23,24,25,26])
 (.seq
 (.region false [
 om 28 0,
 om 29 1,
 om 30 2,
 om 31 4,
 oo 32 (.callm 225 [.tmp 28,.tmp 29,.tmp 30,.tmp 31]),
 om 27 32,
 oo 33 (.ext (.tmp 27) 0),
 oo 34 (.ext (.tmp 27) 1),
 om 1 33,
 om 2 34] [0,1,4,27,28,29,30,31,32,33,34])
 (.seq
 (.region false [
 om 35 2,
 om 10 35] [2,35])
 .ret)))))
abbrev v_q199 : List RV:= [.tmp 10]
abbrev f_q199 : FuncId:= 205
theorem k_q199 : closedOf Tryz.prog Tryz.f205 = (false,some true,some v_q199,some c_q199.plain,36):= by kernel_rfl
theorem am_q199 {args : List AV} {c0 c1 : List (Nat × List AV)} {r : AV} (h : aw Tryz.prog c_q199 (env0M args c0) (endM v_q199 r (c0.map (·.1)) c1)) (hc0 : ∀ q ∈ c0,100000 ≤ q.1) (hargs : args.length ≤ 36:= by decide) (hok : resOK r = true:= by rfl) : AM Tryz.prog f_q199 args c0 r c1 :=
  AM_mk (by kernel_rfl) Tryz.func205 k_q199 hargs hok (by decide) hc0 h
def c_q200 : ACode :=
 (.seq
 (.region false [
 oo 2 (.mov (.const (.bool false)))] [2])
 (.seq
 (.region false [
 om 3 0,
 om 4 0,
 oo 5 (.bin .neq 32 (.tmp 3) (.tmp 4)),
 om 2 5] [0,3,4,5])
 .ret))
abbrev v_q200 : List RV:= [.tmp 2]
abbrev f_q200 : FuncId:= 206
theorem k_q200 : closedOf Tryz.prog Tryz.f206 = (false,some true,some v_q200,some c_q200.plain,6):= by kernel_rfl
theorem ac_q200 {args : List AV} {r : AV} (h : aw Tryz.prog c_q200 (env0 args) (endQ v_q200 r)) (hargs : args.length ≤ 6:= by decide) (hok : resOK r = true:= by rfl) : AC Tryz.prog f_q200 args r :=
  AC_mk (by kernel_rfl) Tryz.func206 k_q200 hargs hok (by decide) h
def c_q201 : ACode :=
 (.seq
 (.region false [
 oo 2 (.mov (.const (.int .u32 0)))] [2])
 (.seq
 (.region false [
 oo 3 (.mov (.const (.int .u32 0)))] [])
 (.seq
 (.seq
 (.region false [
 oo 4 (.mov (.const (.int .i64 0)))] [])
 (.block 0
 (.loop
 (.seq
 (.seq
 (.region false [
 om 5 4,
 om 6 0,
 oo 7 (.bin .lss 3 (.tmp 5) (.tmp 6)),
 om 8 7,
 og 9 (.mov (.tmp 4)) 8 true,
 og 10 (.bin .lss 3 (.tmp 9) (.const (.int .i64 32))) 8 true,
 oo 11 (.pick (.tmp 8) (.tmp 10) (.const (.bool false)))] [5,6,7,8,9,10])
 (.cond (.tmp 11)
 .skip
 (.exit 0)))
 (.seq
 (.block 1
 (.region false [
 om 14 3,
 om 15 4,
 oo 16 (.bin .sub 3 (.const (.int .i64 31)) (.tmp 15)),
 oo 17 (.cint .u64 (.tmp 16)),
 oo 18 (.bin .shl 32 (.const (.int .u32 1)) (.tmp 17)),
 oo 19 (.bin .or 32 (.tmp 14) (.tmp 18)),
 om 3 19] [11,14,15,16,17,18,19]) [])
 (.region false [
 om 12 4,
 oo 13 (.bin .add 3 (.tmp 12) (.const (.int .i64 1))),
 om 4 13] [12,13]))) [] []) [0,4,11]))
 (.seq
 (.region false [
 om 20 3,
 om 2 20] [3,20])
 .ret))))
abbrev v_q201 : List RV:= [.tmp 2]
abbrev f_q201 : FuncId:= 207
theorem k_q201 : closedOf Tryz.prog Tryz.f207 = (false,some true,some v_q201,some c_q201.plain,21):= by kernel_rfl
theorem ac_q201 {args : List AV} {r : AV} (h : aw Tryz.prog c_q201 (env0 args) (endQ v_q201 r)) (hargs : args.length ≤ 21:= by decide) (hok : resOK r = true:= by rfl) : AC Tryz.prog f_q201 args r :=
  AC_mk (by kernel_rfl) Tryz.func207 k_q201 hargs hok (by decide) h
def c_q216 : ACode :=
 (.seq
 (.region false [
 oo 8 (.mov (.const (.int .i64 0))),
 oo 9 (.mov (.const (.int .i64 0)))] [8,9])
 (.seq
 (.seq
 (.region true [
 om 10 0,
 om 11 2,
 oo 12 (.iaddr 1 (.tmp 10) (.tmp 11)),
 oo 13 (.load false 1 (.tmp 12)),
 om 14 0,
 om 15 1,
 oo 16 (.iaddr 1 (.tmp 14) (.tmp 15)),
 oo 17 (.load false 1 (.tmp 16)),
 oo 18 (.call 164 [.tmp 13,.tmp 17])] [0,10,11,12,13,14,15,16,17])
 (.cond (.tmp 18)
 (.seq
 (.region false [
 om 19 3,
 oo 20 (.nilchk (.tmp 19)),
 oo 21 (.load false 1 (.tmp 20)),
 oo 22 (.bin .add 3 (.tmp 21) (.const (.int .i64 1))),
 oo 23 (.nilchk (.tmp 19)),
 ⟨none,.store 1 (.tmp 23) (.tmp 22),none⟩] [3,18,19,20,21,22,23])
 (.seq
 (.region false [
 om 24 2,
 om 25 1,
 om 8 24,
 om 9 25] [1,2,24,25])
 .ret))
 .skip))
 (.seq
 (.region false [
 om 26 1,
 om 27 2,
 om 8 26,
 om 9 27] [1,2,3,18,26,27])
 .ret)))
abbrev v_q216 : List RV:= [.tmp 8,.tmp 9]
abbrev f_q216 : FuncId:= 225
theorem k_q216 : closedOf Tryz.prog Tryz.f225 = (false,some true,some v_q216,some c_q216.plain,28):= by kernel_rfl
theorem am_q216 {args : List AV} {c0 c1 : List (Nat × List AV)} {r : AV} (h : aw Tryz.prog c_q216 (env0M args c0) (endM v_q216 r (c0.map (·.1)) c1)) (hc0 : ∀ q ∈ c0,100000 ≤ q.1) (hargs : args.length ≤ 28:= by decide) (hok : resOK r = true:= by rfl) : AM Tryz.prog f_q216 args c0 r c1 :=
  AM_mk (by kernel_rfl) Tryz.func225 k_q216 hargs hok (by decide) hc0 h
end Go.Proofs.YtnndbbmidoidpaaGreatDoor.VL
end

attribute [go_sem_proc] Nat.reduceAdd Nat.reduceLT Nat.reduceEqDiff Nat.reduceBEq Nat.reduceLeDiff Nat.reduceSub Int.reduceToNat reduceCtorEq
attribute [go_sem_proc ↓] reduceIte
section
set_option maxHeartbeats 4000000
namespace Go.Proofs.YtnndbbmidoidpaaGreatDoor.VL
open Go.RowKit Go.Proofs
def avU (a : Nat) : AV:= .lit (.int .u32 (a : Nat))
def avB (b : Nat) : AV:= .lit (.int .u8 (b : Nat))
def avPfx (a : Nat) (b : Int) : AV:= .agg [avU a,.lit (.int .i64 b)]
theorem nat_beq0 (n : Nat) : ((n : Int) == 0) = decide (n = 0):= by
 rw [Bool.eq_iff_iff]
 simp only [beq_iff_eq,decide_eq_true_eq]
 omega
theorem nat_beq (n m : Nat) : ((n : Int) == (m : Int)) = decide (n = m):= by
 rw [Bool.eq_iff_iff]
 simp only [beq_iff_eq,decide_eq_true_eq]
 omega
theorem c0 : ((0 : Nat) : Int) = 0:= rfl
theorem c1 : ((1 : Nat) : Int) = 1:= rfl
theorem c2 : ((2 : Nat) : Int) = 2:= rfl
theorem c3 : ((3 : Nat) : Int) = 3:= rfl
theorem c4 : ((4 : Nat) : Int) = 4:= rfl
theorem v0 : IntKind.i64.wrap 0 = 0:= by decide
theorem v1 : IntKind.i64.wrap 1 = 1:= by decide
theorem v2 : IntKind.i64.wrap 2 = 2:= by decide
theorem v3 : IntKind.i64.wrap 3 = 3:= by decide
theorem v4 : IntKind.i64.wrap 4 = 4:= by decide
theorem v8 : IntKind.i64.wrap 8 = 8:= by decide
theorem v16 : IntKind.i64.wrap 16 = 16:= by decide
theorem v24 : IntKind.i64.wrap 24 = 24:= by decide
def avStr (s : ByteArray) : AV:= .lit (.string s)
def cl32 (b : Int) : Nat:= if b < 0 then 0 else if 32 < b then 32 else b.toNat
theorem cl32_le (b : Int) : cl32 b ≤ 32:= by unfold cl32; split <;> (try split) <;> omega
theorem cl32_eq (b : Int) (h0 : 0 ≤ b) (h1 : b ≤ 32) : cl32 b = b.toNat:= by unfold cl32; rw [if_neg (by omega),if_neg (by omega)]
theorem C_Mask (b : Int) : AC Tryz.prog f_q186 [.lit (.int .i64 b)] (avU (mskN (cl32 b))):= by
 refine ac_q186 ?_ (Nat.le_add_left 1 9)
 have hc:= cl32_le b
 have e : (if (32 : Int) < (if b < 0 then 0 else b) then (32 : Int) else (if b < 0 then 0 else b)) = ((cl32 b : Nat) : Int):= by
  unfold cl32
  split <;> split <;> (try split) <;> omega
 have e2:= avBin_shr 32 .u32 .i64 4294967295 ((cl32 b : Nat) : Int) (by omega) (by simp [IntKind.bits]; omega)
 simp only [go_sem,c_q186,avMm_max2,avMm_min2,e,e2,avU]
 have hp:= pow32_le (32 - cl32 b) (by omega)
 have e3 : (4294967295 : Int) / 2 ^ (((cl32 b : Nat) : Int).toNat) = ((2 ^ (32 - cl32 b) - 1 : Nat) : Int):= by
  rw [Int.toNat_natCast]
  have h1 : 2 ^ 32 = 2 ^ (cl32 b) * 2 ^ (32 - cl32 b):= by rw [← Nat.pow_add]; congr 1; omega
  have h2 : (4294967295 : Nat) / 2 ^ (cl32 b) = 2 ^ (32 - cl32 b) - 1:= by
   have hq:= Nat.one_le_two_pow (n:= cl32 b)
   rw [Nat.div_eq_iff (by omega)]
   constructor
   ·have : (2 ^ (32 - cl32 b) - 1) * 2 ^ (cl32 b) = 2 ^ 32 - 2 ^ (cl32 b):= by rw [Nat.sub_mul,Nat.one_mul,Nat.mul_comm,← h1]
    rw [this]
    have : (2 : Nat) ^ 32 = 4294967296:= rfl
    omega
   ·have : (2 ^ (32 - cl32 b) - 1) * 2 ^ (cl32 b) = 2 ^ 32 - 2 ^ (cl32 b):= by rw [Nat.sub_mul,Nat.one_mul,Nat.mul_comm,← h1]
    have : (2 : Nat) ^ 32 = 4294967296:= rfl
    have : 2 ^ (cl32 b) ≤ 2 ^ 32:= Nat.pow_le_pow_right (by decide) hc
    omega
  have h3 : ((4294967295 : Nat) : Int) / ((2 ^ (cl32 b) : Nat) : Int) = ((4294967295 / 2 ^ (cl32 b) : Nat) : Int):= (Int.natCast_ediv _ _).symm
  rw [h2] at h3
  rw [← h3]
  simp
 have e4 : bits .xor .u32 (if IntKind.u32.signed = true then -1 else IntKind.u32.max) ((2 ^ (32 - cl32 b) - 1 : Nat) : Int) = ((mskN (cl32 b) : Nat) : Int):= by
  have : (if IntKind.u32.signed = true then (-1 : Int) else IntKind.u32.max) = ((4294967295 : Nat) : Int):= by decide
  rw [this,u32_xor_nat _ _ (by decide) (by omega),xor_max _ (by omega)]
  unfold mskN
  congr 1
  omega
 rw [e3,e4]
def validN (a : Nat) (b : Int) : Bool:= decide (0 ≤ b) && (decide (b ≤ 32) && decide (a % 2 ^ (32 - b.toNat) = 0))
theorem C_Valid (a : Nat) (b : Int) (ha : a < 4294967296) : AC Tryz.prog f_q131 [avPfx a b] (.lit (.bool (validN a b))):= by
 refine ac_q131 ?_ (Nat.le_add_left 1 19)
 by_cases h0 : 0 ≤ b
 ·by_cases h1 : b ≤ 32
  ·have e0 : decide (0 ≤ b) = true:= by simpa using h0
   have e1 : decide (b ≤ 32) = true:= by simpa using h1
   simp only [go_sem,c_q131,avPfx,avU,e0,e1]
   refine callX_of (C_Mask b) ?_
   simp only [go_sem,c_q131,avU,e0,e1,u32_nmsk a _ ha]
   rw [cl32_eq b h0 h1,nat_beq0]
   simp [validN,e0,e1]
  ·have e0 : decide (0 ≤ b) = true:= by simpa using h0
   have e1 : decide (b ≤ 32) = false:= by simpa using h1
   simp only [go_sem,c_q131,avPfx,avU,e0,e1]
   simp [validN,e0,e1]
 ·have e0 : decide (0 ≤ b) = false:= by simpa using h0
  simp only [go_sem,c_q131,avPfx,avU,e0]
  simp [validN,e0]
def inN (p : Nat) (b : Int) (x : Nat) : Bool:= validN p b && decide (x - x % 2 ^ (32 - b.toNat) = p)
theorem validN_bounds {a : Nat} {b : Int} (h : validN a b = true) : 0 ≤ b ∧ b ≤ 32:= by
 simp only [validN,Bool.and_eq_true,decide_eq_true_eq] at h
 exact ⟨h.1,h.2.1⟩
theorem C_In (p : Nat) (b : Int) (x : Nat) (hp : p < 4294967296) (hx : x < 4294967296) : AC Tryz.prog f_q187 [avPfx p b,avU x] (.lit (.bool (inN p b x))):= by
 refine ac_q187 ?_ (Nat.le_add_left 2 15)
 cases hv : validN p b with
 | false =>
  simp only [go_sem,c_q187,avPfx,avU]
  refine callX_of (C_Valid p b hp) ?_
  simp only [go_sem,hv]
  simp [inN,hv]
 | true =>
  obtain ⟨h0,h1⟩:= validN_bounds hv
  simp only [go_sem,c_q187,avPfx,avU]
  refine callX_of (C_Valid p b hp) ?_
  simp only [go_sem,hv]
  refine callX_of (C_Mask b) ?_
  simp only [go_sem,avU,u32_msk x _ hx]
  rw [cl32_eq b h0 h1,nat_beq]
  simp [inN,hv]
def withinN (p : Nat) (b : Int) (q : Nat) (c : Int) : Bool:= validN p b && (decide (c ≤ b) && inN q c p)
theorem C_Within (p : Nat) (b : Int) (q : Nat) (c : Int) (hp : p < 4294967296) (hq : q < 4294967296) : AC Tryz.prog f_q132 [avPfx p b,avPfx q c] (.lit (.bool (withinN p b q c))):= by
 refine ac_q132 ?_ (Nat.le_add_left 2 18)
 cases hv : validN p b with
 | false =>
  simp only [go_sem,c_q132,avPfx,avU]
  refine callX_of (C_Valid p b hp) ?_
  simp only [go_sem,hv]
  simp [withinN,hv]
 | true =>
  cases hc : decide (c ≤ b) with
  | false =>
   simp only [go_sem,c_q132,avPfx,avU]
   refine callX_of (C_Valid p b hp) ?_
   simp only [go_sem,hv,hc]
   simp [withinN,hv,hc]
  | true =>
   simp only [go_sem,c_q132,avPfx,avU]
   refine callX_of (C_Valid p b hp) ?_
   simp only [go_sem,hv,hc]
   refine callX_of (C_In q c p hq hp) ?_
   simp only [go_sem,hv,hc]
   simp [withinN,hv,hc]
def bytN (a i : Nat) : Nat:= a / 2 ^ (8 * (3 - i)) % 256
def avBytes (b : Nat → Nat) : AV:= .agg [avB (b 0),avB (b 1),avB (b 2),avB (b 3)]
def bytesTo (a : Nat) (k : Nat) : List AV:= [avB (if 0 < k then bytN a 0 else 0),avB (if 1 < k then bytN a 1 else 0),avB (if 2 < k then bytN a 2 else 0),avB (if 3 < k then bytN a 3 else 0)]
theorem byte_wrap (a s : Nat) : IntKind.u8.wrap ((a : Int) / 2 ^ s) = ((a / 2 ^ s % 256 : Nat) : Int):= by
 rw [IntKind.wrap_u8]
 simp
theorem C_Bytes (a : Nat) (ha : a < 4294967296) : AC Tryz.prog f_q151 [avU a] (avBytes (bytN a)):= by
 refine ac_q151 ?_ (Nat.le_add_left 1 17)
 simp only [go_sem,c_q151,avU]
 refine aw_loop (fun m E => ∃ k : Nat,k + m = 4 ∧ E = mkE [(0,avU a),(2,.lp 2 0),(3,.lp 3 0),(5,.lit (.int .i64 (k : Nat)))] [(2,[.lit (.int .u8 0),.lit (.int .u8 0),.lit (.int .u8 0),.lit (.int .u8 0)]),(3,bytesTo a k)]) 4 ?_ ?_
 ·exact ⟨0,by omega,by simp only [go_sem]; rfl⟩
 ·rintro m _ ⟨k,hk,rfl⟩
  have s0:= avBin_shr 32 .u32 .i64 (a : Int)
  have w24:= s0 24 (by decide) (by decide)
  have w16:= s0 16 (by decide) (by decide)
  have w8:= s0 8 (by decide) (by decide)
  have w0:= s0 0 (by decide) (by decide)
  have b24:= byte_wrap a 24
  have b16:= byte_wrap a 16
  have b8:= byte_wrap a 8
  have b0:= byte_wrap a 0
  match k,hk with
  | 0,hk =>
   simp only [go_sem,bytesTo,avU,avB,w24,b24,c0,c1,c2,c3,c4,Int.reduceSub,Int.reduceMul,Int.reduceAdd,Int.reduceLT,Int.reduceLE,Nat.reduceMul,decide_true,decide_false,v0,v1,v2,v3,v4,v8,v16,v24]
   exact ⟨m - 1,by omega,1,by omega,rfl⟩
  | 1,hk =>
   simp only [go_sem,bytesTo,avU,avB,w16,b16,c0,c1,c2,c3,c4,Int.reduceSub,Int.reduceMul,Int.reduceAdd,Int.reduceLT,Int.reduceLE,Nat.reduceMul,decide_true,decide_false,v0,v1,v2,v3,v4,v8,v16,v24]
   exact ⟨m - 1,by omega,2,by omega,rfl⟩
  | 2,hk =>
   simp only [go_sem,bytesTo,avU,avB,w8,b8,c0,c1,c2,c3,c4,Int.reduceSub,Int.reduceMul,Int.reduceAdd,Int.reduceLT,Int.reduceLE,Nat.reduceMul,decide_true,decide_false,v0,v1,v2,v3,v4,v8,v16,v24]
   exact ⟨m - 1,by omega,3,by omega,rfl⟩
  | 3,hk =>
   simp only [go_sem,bytesTo,avU,avB,w0,b0,c0,c1,c2,c3,c4,Int.reduceSub,Int.reduceMul,Int.reduceAdd,Int.reduceLT,Int.reduceLE,Nat.reduceMul,decide_true,decide_false,v0,v1,v2,v3,v4,v8,v16,v24]
   exact ⟨m - 1,by omega,4,by omega,rfl⟩
  | 4,hk =>
   simp only [go_sem,bytesTo,avBytes,avB,c0,c1,c2,c3,c4,Int.reduceSub,Int.reduceMul,Int.reduceAdd,Int.reduceLT,Int.reduceLE,Nat.reduceMul,decide_true,decide_false,v0,v1,v2,v3,v4,v8,v16,v24]
  | k + 5,hk => omega
def ofB (b : Nat → Nat) : Nat → Nat
 | 0 => 0
 | k + 1 => ofB b k * 256 + b k
theorem ofB_lt (b : Nat → Nat) : ∀ k,(∀ i,i < k → b i < 256) → ofB b k < 256 ^ k
 | 0,_ => by simp [ofB]
 | k + 1,h => by
  have h1:= ofB_lt b k fun i hi => h i (by omega)
  have h2:= h k (by omega)
  simp only [ofB,Nat.pow_succ]
  omega
theorem or_join (x b : Nat) (hx : x < 16777216) (hb : b < 256) : bits .or .u32 (IntKind.u32.wrap ((x : Int) * 2 ^ 8)) (IntKind.u32.wrap (b : Int)) = ((x * 256 + b : Nat) : Int):= by
 have e1 : IntKind.u32.wrap ((x : Int) * 2 ^ 8) = ((x * 256 : Nat) : Int):= by
  rw [IntKind.wrap_u32,show (2 : Int) ^ 8 = 256 from rfl]
  omega
 have e2 : IntKind.u32.wrap (b : Int) = ((b : Nat) : Int):= by rw [IntKind.wrap_u32]; omega
 rw [e1,e2,u32_or_nat _ _ (by omega) (by omega),nat_join 8 _ _ (by simp [Nat.mul_mod_left]) hb]
theorem C_Of (b : Nat → Nat) (hb : ∀ i,i < 4 → b i < 256) : AC Tryz.prog f_q188 [avBytes b] (avU (ofB b 4)):= by
 refine ac_q188 ?_ (Nat.le_add_left 1 16)
 simp only [go_sem,c_q188,avBytes,avB]
 refine aw_loop (fun m E => ∃ k : Nat,k + m = 4 ∧ E = mkE [(3,avU (ofB b k)),(6,avBytes b),(7,.lit (.int .i64 (k : Nat)))] [(1,[avB (b 0),avB (b 1),avB (b 2),avB (b 3)])]) 4 ?_ ?_
 ·exact ⟨0,by omega,by simp only [go_sem]; rfl⟩
 ·rintro m _ ⟨k,hk,rfl⟩
  have hs:= fun u => avBin_shl 32 .u32 .u64 u 8 (by decide) (by decide)
  match k,hk with
  | 0,hk =>
   have hj:= or_join (ofB b 0) (b 0) (Nat.lt_of_lt_of_le (ofB_lt b 0 fun i hi => hb i (by omega)) (by decide)) (hb 0 (by decide))
   simp only [go_sem,avBytes,avU,avB,hs,hj,c0,c1,c2,c3,c4,Int.reduceSub,Int.reduceMul,Int.reduceAdd,Int.reduceLT,Int.reduceLE,Nat.reduceMul,decide_true,decide_false,v0,v1,v2,v3,v4,v8,v16,v24]
   exact ⟨m - 1,by omega,1,by omega,rfl⟩
  | 1,hk =>
   have hj:= or_join (ofB b 1) (b 1) (Nat.lt_of_lt_of_le (ofB_lt b 1 fun i hi => hb i (by omega)) (by decide)) (hb 1 (by decide))
   simp only [go_sem,avBytes,avU,avB,hs,hj,c0,c1,c2,c3,c4,Int.reduceSub,Int.reduceMul,Int.reduceAdd,Int.reduceLT,Int.reduceLE,Nat.reduceMul,decide_true,decide_false,v0,v1,v2,v3,v4,v8,v16,v24]
   exact ⟨m - 1,by omega,2,by omega,rfl⟩
  | 2,hk =>
   have hj:= or_join (ofB b 2) (b 2) (Nat.lt_of_lt_of_le (ofB_lt b 2 fun i hi => hb i (by omega)) (by decide)) (hb 2 (by decide))
   simp only [go_sem,avBytes,avU,avB,hs,hj,c0,c1,c2,c3,c4,Int.reduceSub,Int.reduceMul,Int.reduceAdd,Int.reduceLT,Int.reduceLE,Nat.reduceMul,decide_true,decide_false,v0,v1,v2,v3,v4,v8,v16,v24]
   exact ⟨m - 1,by omega,3,by omega,rfl⟩
  | 3,hk =>
   have hj:= or_join (ofB b 3) (b 3) (Nat.lt_of_lt_of_le (ofB_lt b 3 fun i hi => hb i (by omega)) (by decide)) (hb 3 (by decide))
   simp only [go_sem,avBytes,avU,avB,hs,hj,c0,c1,c2,c3,c4,Int.reduceSub,Int.reduceMul,Int.reduceAdd,Int.reduceLT,Int.reduceLE,Nat.reduceMul,decide_true,decide_false,v0,v1,v2,v3,v4,v8,v16,v24]
   exact ⟨m - 1,by omega,4,by omega,rfl⟩
  | 4,hk => simp only [go_sem,avU,c0,c1,c2,c3,c4,Int.reduceSub,Int.reduceMul,Int.reduceAdd,Int.reduceLT,Int.reduceLE,Nat.reduceMul,decide_true,decide_false,v0,v1,v2,v3,v4,v8,v16,v24]
  | k + 5,hk => omega
def groupN (a : Nat) : Bool:= decide (3758096384 ≤ a) && decide (a < 4026531840)
theorem C_Group (a : Nat) (ha : a < 4294967296) : AC Tryz.prog f_q141 [avU a] (.lit (.bool (groupN a))):= by
 refine ac_q141 ?_ (Nat.le_add_left 1 _)
 simp only [go_sem,c_q141,avU]
 refine callX_of (C_Bytes a ha) ?_
 have e0 : bytN a 0 = a / 16777216:= by simp only [bytN,Nat.sub_zero,Nat.reduceMul,Nat.reducePow]; omega
 simp only [go_sem,avBytes,avB,c0,c1,c2,c3,c4,Int.reduceLT,Int.reduceLE,Nat.reduceMul,e0]
 by_cases h : 224 ≤ a / 16777216
 ·have h1 : ((224 : Int) ≤ ((a / 16777216 : Nat) : Int)) = True:= eq_true (by omega)
  have h2 : decide (3758096384 ≤ a) = true:= by simp only [decide_eq_true_eq]; omega
  have h3 : decide (((a / 16777216 : Nat) : Int) ≤ 239) = decide (a < 4026531840):= by rw [decide_eq_decide]; omega
  simp only [go_sem,h1,decide_true,c4,c0,Int.reduceLT,Int.reduceLE,Nat.reduceMul,h3,groupN,h2,Bool.true_and]
 ·have h1 : ((224 : Int) ≤ ((a / 16777216 : Nat) : Int)) = False:= eq_false (by omega)
  have h2 : decide (3758096384 ≤ a) = false:= by simp only [decide_eq_false_iff_not]; omega
  simp only [go_sem,h1,decide_false,groupN,h2,Bool.false_and]
end Go.Proofs.YtnndbbmidoidpaaGreatDoor.VL
end

section
set_option maxHeartbeats 4000000
namespace Go.Proofs.YtnndbbmidoidpaaGreatDoor.VL
open Go.RowKit Go.Proofs
theorem wrap_nat (n : Nat) (h : n < 9223372036854775808) : IntKind.i64.wrap (n : Int) = n:= by
 have:= (IntKind.wrap_i64 (n : Int))
 omega
theorem wrap_succ (k : Nat) (h : k + 1 < 9223372036854775808) : IntKind.i64.wrap ((k : Int) + 1) = ((k + 1 : Nat) : Int):= wrap_nat (k + 1) h
end Go.Proofs.YtnndbbmidoidpaaGreatDoor.VL
end

section
set_option maxHeartbeats 4000000
namespace Go.Proofs.YtnndbbmidoidpaaGreatDoor.VL
open Go.RowKit Go.Proofs
theorem avIxs_l (s : ByteArray) (q : IntKind) (k : Nat) (b : UInt8) (h : s.data.toList[k]? = some b) : avIxs (.lit (.string s)) (.lit (.int q (k : Nat))) = some (.lit (.int .u8 ((b.toNat : Nat) : Int))):= by
 have hk : k < s.data.toList.length:= (List.getElem?_eq_some_iff.1 h).1
 have hk' : k < s.size:= by rw [Lib.size_eq]; exact hk
 rw [avIxs_at s q k hk']
 have e : s[k] = b:= by
  have h2:= (List.getElem?_eq_some_iff.1 h).2
  rw [← h2]
  simp [ByteArray.getElem_eq_getElem_data]
 rw [e]
def letterN (c : Nat) : Bool:= decide (97 ≤ c) && decide (c ≤ 122)
theorem C_letter (c : Nat) : AC Tryz.prog f_q183 [.lit (.int .u8 (c : Nat))] (.lit (.bool (letterN c))):= by
 refine ac_q183 ?_ (Nat.le_add_left 1 _)
 have e1 : decide ((97 : Int) ≤ (c : Int)) = decide (97 ≤ c):= by rw [decide_eq_decide]; omega
 have e2 : decide ((c : Int) ≤ 122) = decide (c ≤ 122):= by rw [decide_eq_decide]; omega
 unfold letterN
 cases h : decide (97 ≤ c)
 ·simp only [go_sem,c_q183,e1,e2,h,Bool.false_and]
 ·simp only [go_sem,c_q183,e1,e2,h,Bool.true_and]
def signN (c : Nat) : Bool:= letterN c || (c == 45 || (decide (48 ≤ c) && decide (c ≤ 57)))
def hd0 : Option UInt8 → Bool
 | some b => letterN b.toNat
 | none => false
def nameOK (l : List UInt8) : Bool:= decide (1 ≤ l.length) && (decide (l.length ≤ 12) && (hd0 l[0]? && l.all fun b => signN b.toNat))
def errN (ok : Bool) : AV:= if ok = true then .lit .nilIface else .gl 7
theorem gs1 : (7 ∈ GS) = True:= eq_true (by simp [GS])
theorem C_Name (s : ByteArray) (hs : s.size < 9223372036854775808) : AC Tryz.prog f_q125 [avStr s] (errN (nameOK s.data.toList)):= by
 refine ac_q125 ?_ (Nat.le_add_left 1 _) (by unfold errN; split <;> rfl)
 have hsz : s.size = s.data.toList.length:= Lib.size_eq s
 simp only [go_sem,c_q125,avStr]
 generalize hL : s.data.toList = l at hsz
 by_cases h1 : l.length < 1
 ·have e1 : ((s.size : Int) < 1) = True:= eq_true (by omega)
  have e : nameOK l = false:= by simp [nameOK]; omega
  simp only [go_sem,e1,decide_true,e,errN,gs1,Bool.false_eq_true]
 have e1 : ((s.size : Int) < 1) = False:= eq_false (by omega)
 by_cases h2 : 12 < l.length
 ·have e2 : ((12 : Int) < (s.size : Int)) = True:= eq_true (by omega)
  have e : nameOK l = false:= by simp [nameOK]; omega
  simp only [go_sem,e1,e2,decide_true,decide_false,e,errN,gs1,Bool.false_eq_true]
 have e2 : ((12 : Int) < (s.size : Int)) = False:= eq_false (by omega)
 obtain ⟨b0,hb0⟩ : ∃ b,l[0]? = some b:= ⟨l[0],List.getElem?_eq_getElem (by omega)⟩
 have i0:= avIxs_l s .i64 0 b0 (by rw [hL]; exact hb0)
 rw [show ((0 : Nat) : Int) = 0 from rfl] at i0
 simp only [go_sem,e1,e2,decide_true,decide_false,i0]
 refine callX_of (C_letter b0.toNat) ?_
 cases h3 : letterN b0.toNat
 ·have e : nameOK l = false:= by simp [nameOK,hd0,hb0,h3]
  simp only [go_sem,h3,e,errN,gs1,Bool.false_eq_true]
 simp only [go_sem,h3]
 have e0 : nameOK l = l.all fun b => signN b.toNat:= by
  have g1 : decide (1 ≤ l.length) = true:= by simp only [decide_eq_true_eq]; omega
  have g2 : decide (l.length ≤ 12) = true:= by simp only [decide_eq_true_eq]; omega
  simp only [nameOK,hd0,g1,g2,hb0,h3,Bool.true_and]
 rw [e0]
 refine aw_loop (fun m E => ∃ k : Nat,k + m = l.length ∧ (l.take k).all (fun b => signN b.toNat) = true ∧ E = mkE [(0,.lit (.string s)),(21,.lit (.int .i64 (s.size : Nat))),(22,.lit (.int .i64 (k : Nat)))] []) l.length ?_ ?_
 ·exact ⟨0,by omega,rfl,by simp only [go_sem]; rfl⟩
 ·rintro m _ ⟨k,hk,hall,rfl⟩
  by_cases hkl : k < l.length
  ·have f1 : ((k : Int) < (s.size : Int)) = True:= eq_true (by omega)
   obtain ⟨b,hb⟩ : ∃ b,l[k]? = some b:= ⟨l[k],List.getElem?_eq_getElem hkl⟩
   have ib:= avIxs_l s .i64 k b (by rw [hL]; exact hb)
   have w1:= wrap_succ k (by omega)
   have hstep : (l.take (k + 1)).all (fun b => signN b.toNat) = signN b.toNat:= by
    rw [List.take_add_one,hb,List.all_append,hall]
    simp
   have hbad : signN b.toNat = false → (l.all fun b => signN b.toNat) = false:= fun h => by
    rw [List.all_eq_false]
    exact ⟨b,List.mem_of_getElem? hb,by simp [h]⟩
   simp only [go_sem,f1,decide_true,ib]
   refine callX_of (C_letter b.toNat) ?_
   cases hl : letterN b.toNat
   ·by_cases h45 : b.toNat = 45
    ·have e45 : (((b.toNat : Nat) : Int) != 45) = false:= by rw [h45]; rfl
     have hs1 : signN b.toNat = true:= by simp [signN,h45]
     simp only [go_sem,hl,e45,w1]
     exact ⟨m - 1,by omega,k + 1,by omega,by rw [hstep,hs1],rfl⟩
    ·have e45 : (((b.toNat : Nat) : Int) != 45) = true:= by simp only [bne_iff_ne,ne_eq]; omega
     by_cases h48 : b.toNat < 48
     ·have e48 : (((b.toNat : Nat) : Int) < 48) = True:= eq_true (by omega)
      have hs1 : signN b.toNat = false:= by simp [signN,hl,h45]; omega
      simp only [go_sem,hl,e45,e48,decide_true,hbad hs1,errN,gs1,Bool.false_eq_true]
     ·have e48 : (((b.toNat : Nat) : Int) < 48) = False:= eq_false (by omega)
      by_cases h57 : 57 < b.toNat
      ·have e57 : ((57 : Int) < ((b.toNat : Nat) : Int)) = True:= eq_true (by omega)
       have hs1 : signN b.toNat = false:= by simp [signN,hl,h45]; omega
       simp only [go_sem,hl,e45,e48,e57,decide_true,decide_false,hbad hs1,errN,gs1,Bool.false_eq_true]
      ·have e57 : ((57 : Int) < ((b.toNat : Nat) : Int)) = False:= eq_false (by omega)
       have hs1 : signN b.toNat = true:= by simp [signN]; omega
       simp only [go_sem,hl,e45,e48,e57,decide_false,w1]
       exact ⟨m - 1,by omega,k + 1,by omega,by rw [hstep,hs1],rfl⟩
   ·have hs1 : signN b.toNat = true:= by simp [signN,hl]
    simp only [go_sem,hl,w1]
    exact ⟨m - 1,by omega,k + 1,by omega,by rw [hstep,hs1],rfl⟩
  ·have f1 : ((k : Int) < (s.size : Int)) = False:= eq_false (by omega)
   rw [List.take_of_length_le (by omega)] at hall
   simp only [go_sem,f1,decide_false,hall,errN]
end Go.Proofs.YtnndbbmidoidpaaGreatDoor.VL
end

section
set_option maxHeartbeats 4000000
namespace Go.Proofs.YtnndbbmidoidpaaGreatDoor.VL
open Go.RowKit Go.Proofs
def costN (n : Int) : Bool:= decide (0 ≤ n) && decide (n ≤ 65535)
theorem C_cost (n : Int) : AC Tryz.prog f_q128 [.lit (.int .i64 n)] (.lit (.bool (costN n))):= by
 refine ac_q128 ?_ (Nat.le_add_left 1 _)
 unfold costN
 cases h : decide (0 ≤ n)
 ·simp only [go_sem,c_q128,h,Bool.false_and]
 ·simp only [go_sem,c_q128,h,Bool.true_and]
def placeN (i n : Int) : Bool:= decide (0 ≤ i) && decide (i < n)
theorem C_place (i n : Int) : AC Tryz.prog f_q134 [.lit (.int .i64 i),.lit (.int .i64 n)] (.lit (.bool (placeN i n))):= by
 refine ac_q134 ?_ (Nat.le_add_left 2 _)
 unfold placeN
 cases h : decide (0 ≤ i)
 ·simp only [go_sem,c_q134,h,Bool.false_and]
 ·simp only [go_sem,c_q134,h,Bool.true_and]
def hostN (a : Nat) : Bool:= !(a == 0) && !groupN a
theorem C_host (a : Nat) (ha : a < 4294967296) : AC Tryz.prog f_q138 [avU a] (.lit (.bool (hostN a))):= by
 refine ac_q138 ?_ (Nat.le_add_left 1 _)
 unfold hostN
 have e : ((a : Int) != 0) = !(a == 0):= by rw [bne,nat_beq0]; rfl
 cases h : a == 0
 ·simp only [go_sem,c_q138,avU,e,h,Bool.not_false,Bool.true_and]
  refine callX_of (C_Group a ha) ?_
  simp only [go_sem,h,Bool.not_false]
 ·simp only [go_sem,c_q138,avU,e,h,Bool.not_true,Bool.false_and]
theorem C_groups : AC Tryz.prog f_q133 [] (avPfx 3758096384 4):= by
 refine ac_q133 ?_ (Nat.zero_le _)
 have h:= C_Of (fun i => if i = 0 then 224 else 0) (fun i _ => by show (if i = 0 then 224 else 0) < 256; split <;> decide)
 have e : ofB (fun i => if i = 0 then 224 else 0) 4 = 3758096384:= by decide
 rw [e] at h
 simp only [go_sem,c_q133,avPfx]
 refine callX_of h ?_
 simp only [go_sem,avU]
 try rfl
end Go.Proofs.YtnndbbmidoidpaaGreatDoor.VL
end

