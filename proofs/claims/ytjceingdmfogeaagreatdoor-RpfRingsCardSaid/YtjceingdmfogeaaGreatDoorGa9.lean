import Derived.Test.YtjceingdmfogeaaGreatDoorProg
import Derived.Lib.Strings
import Derived.Test.YtjceingdmfogeaaGreatDoorGa8
set_option linter.unusedVariables false
set_option linter.unusedSimpArgs false
section
set_option maxRecDepth 100000
namespace Go.Proofs.YtjceingdmfogeaaGreatDoor.VL
open Go.Proofs
def c_q85 : ACode :=
 (.seq
 (.region false [
 om 11 1,
 om 6 11] [11])
 (.seq
 (.region false [
 oo 7 (.mov (.const (.int .i64 0)))] [])
 (.seq
 (.region false [
 om 12 2,
 om 13 1,
 oo 14 (.bin .sub 3 (.tmp 12) (.tmp 13)),
 om 8 14] [1,2,12,13,14])
 (.seq
 (.seq
 (.region false [
 om 15 8,
 oo 16 (.bin .sub 3 (.tmp 15) (.const (.int .i64 1))),
 oo 17 (.bin .quo 3 (.tmp 16) (.const (.int .i64 2))),
 om 9 17] [15,16,17])
 (.block 0
 (.loop
 (.seq
 (.seq
 (.region false [
 om 18 9,
 oo 19 (.bin .geq 3 (.tmp 18) (.const (.int .i64 0)))] [18])
 (.cond (.tmp 19)
 .skip
 (.exit 0)))
 (.seq
 (.block 1
 (.region false [
 om 22 0,
 om 23 9,
 om 24 8,
 om 25 6,
 oo 26 (.callm 115 [.tmp 22,.tmp 23,.tmp 24,.tmp 25])] [19,22,23,24,25,26]) [])
 (.region false [
 om 20 9,
 oo 21 (.bin .sub 3 (.tmp 20) (.const (.int .i64 1))),
 om 9 21] [20,21]))) [] []) [9,19]))
 (.seq
 (.region false [
 om 27 8,
 oo 28 (.bin .sub 3 (.tmp 27) (.const (.int .i64 1))),
 om 10 28] [8,27,28])
 (.block 2
 (.loop
 (.seq
 (.seq
 (.region false [
 om 29 10,
 oo 30 (.bin .geq 3 (.tmp 29) (.const (.int .i64 0)))] [29])
 (.cond (.tmp 30)
 .skip
 (.exit 2)))
 (.seq
 (.block 3
 (.seq
 (.region true [
 om 33 0,
 om 34 6,
 om 35 0,
 om 36 6,
 om 37 10,
 oo 38 (.bin .add 3 (.tmp 36) (.tmp 37)),
 om 39 0,
 om 40 6,
 om 41 10,
 oo 42 (.bin .add 3 (.tmp 40) (.tmp 41)),
 oo 43 (.iaddr 1 (.tmp 39) (.tmp 42)),
 oo 44 (.load false 1 (.tmp 43)),
 om 45 0,
 om 46 6,
 oo 47 (.iaddr 1 (.tmp 45) (.tmp 46)),
 oo 48 (.load false 1 (.tmp 47)),
 oo 49 (.iaddr 1 (.tmp 33) (.tmp 34)),
 ⟨none,.store 1 (.tmp 49) (.tmp 44),none⟩,
 oo 50 (.iaddr 1 (.tmp 35) (.tmp 38)),
 ⟨none,.store 1 (.tmp 50) (.tmp 48),none⟩] [30,33,34,35,36,37,38,39,40,41,42,43,44,45,46,47,48,49,50])
 (.region false [
 om 51 0,
 om 52 7,
 om 53 10,
 om 54 6,
 oo 55 (.callm 115 [.tmp 51,.tmp 52,.tmp 53,.tmp 54])] [51,52,53,54,55])) [])
 (.region false [
 om 31 10,
 oo 32 (.bin .sub 3 (.tmp 31) (.const (.int .i64 1))),
 om 10 32] [31,32]))) [] []) [0,6,7,10,30]))))))
abbrev v_q85 : List RV:= []
abbrev f_q85 : FuncId:= 88
theorem k_q85 : closedOf Tryz.prog Tryz.f88 = (false,some true,some v_q85,some c_q85.plain,56):= by kernel_rfl
theorem am_q85 {args : List AV} {c0 c1 : List (Nat × List AV)} {r : AV} (h : aw Tryz.prog c_q85 (env0M args c0) (endM v_q85 r (c0.map (·.1)) c1)) (hc0 : ∀ q ∈ c0,100000 ≤ q.1) (hargs : args.length ≤ 56:= by decide) (hok : resOK r = true:= by rfl) : AM Tryz.prog f_q85 args c0 r c1 :=
  AM_mk (by kernel_rfl) Tryz.func88 k_q85 hargs hok (by decide) hc0 h
def c_q86 : ACode :=
 (.seq
 (.region false [
 om 11 2,
 om 12 1,
 oo 13 (.bin .sub 3 (.tmp 11) (.tmp 12)),
 om 6 13] [2,11,12,13])
 (.seq
 (.region false [
 om 14 6,
 oo 15 (.bin .geq 3 (.tmp 14) (.const (.int .i64 8)))] [14])
 (.cond (.tmp 15)
 (.seq
 (.region false [
 om 16 6,
 oo 17 (.cint .u64 (.tmp 16)),
 oo 7 (.alloc [.lit (.int .u64 0)]),
 ⟨none,.store 1 (.tmp 7) (.tmp 17),none⟩] [15,16,17])
 (.seq
 (.region false [
 om 18 6,
 oo 19 (.callm 116 [.tmp 18]),
 om 8 19] [18,19])
 (.seq
 (.region false [
 om 20 1,
 om 21 6,
 oo 22 (.bin .quo 3 (.tmp 21) (.const (.int .i64 4))),
 oo 23 (.bin .mul 3 (.tmp 22) (.const (.int .i64 2))),
 oo 24 (.bin .add 3 (.tmp 20) (.tmp 23)),
 oo 25 (.bin .sub 3 (.tmp 24) (.const (.int .i64 1))),
 om 9 25] [20,21,22,23,24,25])
 (.block 0
 (.loop
 (.seq
 (.seq
 (.region false [
 om 26 9,
 om 27 1,
 om 28 6,
 oo 29 (.bin .quo 3 (.tmp 28) (.const (.int .i64 4))),
 oo 30 (.bin .mul 3 (.tmp 29) (.const (.int .i64 2))),
 oo 31 (.bin .add 3 (.tmp 27) (.tmp 30)),
 oo 32 (.bin .add 3 (.tmp 31) (.const (.int .i64 1))),
 oo 33 (.bin .leq 3 (.tmp 26) (.tmp 32))] [26,27,28,29,30,31,32])
 (.cond (.tmp 33)
 .skip
 (.exit 0)))
 (.seq
 (.block 1
 (.seq
 (.region false [
 oo 36 (.callm 117 [.tmp 7]),
 om 37 8,
 oo 38 (.bin .sub 49 (.tmp 37) (.const (.int .u64 1))),
 oo 39 (.bin .and 49 (.tmp 36) (.tmp 38)),
 oo 40 (.cint .i64 (.tmp 39)),
 om 10 40] [33,36,37,38,39,40])
 (.seq
 (.seq
 (.region false [
 om 41 10,
 om 42 6,
 oo 43 (.bin .geq 3 (.tmp 41) (.tmp 42))] [41,42])
 (.cond (.tmp 43)
 (.region false [
 om 44 10,
 om 45 6,
 oo 46 (.bin .sub 3 (.tmp 44) (.tmp 45)),
 om 10 46] [43,44,45,46])
 .skip))
 (.region true [
 om 47 0,
 om 48 9,
 om 49 0,
 om 50 1,
 om 51 10,
 oo 52 (.bin .add 3 (.tmp 50) (.tmp 51)),
 om 53 0,
 om 54 1,
 om 55 10,
 oo 56 (.bin .add 3 (.tmp 54) (.tmp 55)),
 oo 57 (.iaddr 1 (.tmp 53) (.tmp 56)),
 oo 58 (.load false 1 (.tmp 57)),
 om 59 0,
 om 60 9,
 oo 61 (.iaddr 1 (.tmp 59) (.tmp 60)),
 oo 62 (.load false 1 (.tmp 61)),
 oo 63 (.iaddr 1 (.tmp 47) (.tmp 48)),
 ⟨none,.store 1 (.tmp 63) (.tmp 58),none⟩,
 oo 64 (.iaddr 1 (.tmp 49) (.tmp 52)),
 ⟨none,.store 1 (.tmp 64) (.tmp 62),none⟩] [10,43,47,48,49,50,51,52,53,54,55,56,57,58,59,60,61,62,63,64]))) [])
 (.region false [
 om 34 9,
 oo 35 (.bin .add 3 (.tmp 34) (.const (.int .i64 1))),
 om 9 35] [34,35]))) [] []) [0,1,6,7,8,9,33]))))
 .skip)))
abbrev v_q86 : List RV:= []
abbrev f_q86 : FuncId:= 89
theorem k_q86 : closedOf Tryz.prog Tryz.f89 = (false,some true,some v_q86,some c_q86.plain,65):= by kernel_rfl
theorem am_q86 {args : List AV} {c0 c1 : List (Nat × List AV)} {r : AV} (h : aw Tryz.prog c_q86 (env0M args c0) (endM v_q86 r (c0.map (·.1)) c1)) (hc0 : ∀ q ∈ c0,100000 ≤ q.1) (hargs : args.length ≤ 65:= by decide) (hok : resOK r = true:= by rfl) : AM Tryz.prog f_q86 args c0 r c1 :=
  AM_mk (by kernel_rfl) Tryz.func89 k_q86 hargs hok (by decide) hc0 h
def c_q87 : ACode :=
 (.seq
 (.region false [
 oo 6 (.mov (.const (.int .i64 0))),
 oo 7 (.mov (.const (.int .i64 0)))] [6,7])
 (.seq
 (.region false [
 om 13 2,
 om 14 1,
 oo 15 (.bin .sub 3 (.tmp 13) (.tmp 14)),
 om 8 15] [2,13,14,15])
 (.seq
 (.region false [
 oo 9 (.alloc [.lit (.int .i64 0)])] [])
 (.seq
 (.region false [
 om 16 1,
 om 17 8,
 oo 18 (.bin .quo 3 (.tmp 17) (.const (.int .i64 4))),
 oo 19 (.bin .mul 3 (.tmp 18) (.const (.int .i64 1))),
 oo 20 (.bin .add 3 (.tmp 16) (.tmp 19)),
 om 10 20] [16,17,18,19,20])
 (.seq
 (.region false [
 om 21 1,
 om 22 8,
 oo 23 (.bin .quo 3 (.tmp 22) (.const (.int .i64 4))),
 oo 24 (.bin .mul 3 (.tmp 23) (.const (.int .i64 2))),
 oo 25 (.bin .add 3 (.tmp 21) (.tmp 24)),
 om 11 25] [21,22,23,24,25])
 (.seq
 (.region false [
 om 26 1,
 om 27 8,
 oo 28 (.bin .quo 3 (.tmp 27) (.const (.int .i64 4))),
 oo 29 (.bin .mul 3 (.tmp 28) (.const (.int .i64 3))),
 oo 30 (.bin .add 3 (.tmp 26) (.tmp 29)),
 om 12 30] [1,26,27,28,29,30])
 (.seq
 (.seq
 (.region false [
 om 31 8,
 oo 32 (.bin .geq 3 (.tmp 31) (.const (.int .i64 8)))] [31])
 (.cond (.tmp 32)
 (.seq
 (.seq
 (.region false [
 om 33 8,
 oo 34 (.bin .geq 3 (.tmp 33) (.const (.int .i64 50)))] [8,32,33])
 (.cond (.tmp 34)
 (.seq
 (.region false [
 om 35 0,
 om 36 10,
 oo 37 (.callm 118 [.tmp 35,.tmp 36,.tmp 9]),
 om 10 37] [34,35,36,37])
 (.seq
 (.region false [
 om 38 0,
 om 39 11,
 oo 40 (.callm 118 [.tmp 38,.tmp 39,.tmp 9]),
 om 11 40] [38,39,40])
 (.region false [
 om 41 0,
 om 42 12,
 oo 43 (.callm 118 [.tmp 41,.tmp 42,.tmp 9]),
 om 12 43] [41,42,43])))
 .skip))
 (.region false [
 om 44 0,
 om 45 10,
 om 46 11,
 om 47 12,
 oo 48 (.callm 119 [.tmp 44,.tmp 45,.tmp 46,.tmp 47,.tmp 9]),
 om 11 48] [0,10,12,34,44,45,46,47,48]))
 .skip))
 (.seq
 (.region false [
 oo 49 (.load false 1 (.tmp 9))] [0,8,9,10,12,32])
 (.block 0
 (.seq
 (.region false [
 oo 52 (.bin .eql 3 (.tmp 49) (.const (.int .i64 0))),
 om 51 52] [52])
 (.cond (.tmp 51)
 (.seq
 (.region false [
 om 53 11,
 om 6 53,
 oo 7 (.mov (.const (.int .i64 1)))] [11,49,51,53])
 .ret)
 (.seq
 (.region false [
 oo 55 (.bin .eql 3 (.tmp 49) (.const (.int .i64 12))),
 om 54 55] [49,51,55])
 (.cond (.tmp 54)
 (.seq
 (.region false [
 om 56 11,
 om 6 56,
 oo 7 (.mov (.const (.int .i64 2)))] [11,54,56])
 .ret)
 (.seq
 (.region false [
 om 50 11,
 om 6 50,
 oo 7 (.mov (.const (.int .i64 0)))] [11,50,54])
 .ret))))) [])))))))))
abbrev v_q87 : List RV:= [.tmp 6,.tmp 7]
abbrev f_q87 : FuncId:= 90
theorem k_q87 : closedOf Tryz.prog Tryz.f90 = (false,some true,some v_q87,some c_q87.plain,57):= by kernel_rfl
theorem am_q87 {args : List AV} {c0 c1 : List (Nat × List AV)} {r : AV} (h : aw Tryz.prog c_q87 (env0M args c0) (endM v_q87 r (c0.map (·.1)) c1)) (hc0 : ∀ q ∈ c0,100000 ≤ q.1) (hargs : args.length ≤ 57:= by decide) (hok : resOK r = true:= by rfl) : AM Tryz.prog f_q87 args c0 r c1 :=
  AM_mk (by kernel_rfl) Tryz.func90 k_q87 hargs hok (by decide) hc0 h
def c_q88 : ACode :=
 (.seq
 (.region false [
 om 8 1,
 om 6 8] [1,8])
 (.seq
 (.region false [
 om 9 2,
 oo 10 (.bin .sub 3 (.tmp 9) (.const (.int .i64 1))),
 om 7 10] [2,9,10])
 (.block 0
 (.loop
 (.seq
 (.seq
 (.region false [
 om 11 6,
 om 12 7,
 oo 13 (.bin .lss 3 (.tmp 11) (.tmp 12))] [11,12])
 (.cond (.tmp 13)
 .skip
 (.exit 0)))
 (.block 1
 (.seq
 (.region true [
 om 14 0,
 om 15 6,
 om 16 0,
 om 17 7,
 om 18 0,
 om 19 7,
 oo 20 (.iaddr 1 (.tmp 18) (.tmp 19)),
 oo 21 (.load false 1 (.tmp 20)),
 om 22 0,
 om 23 6,
 oo 24 (.iaddr 1 (.tmp 22) (.tmp 23)),
 oo 25 (.load false 1 (.tmp 24)),
 oo 26 (.iaddr 1 (.tmp 14) (.tmp 15)),
 ⟨none,.store 1 (.tmp 26) (.tmp 21),none⟩,
 oo 27 (.iaddr 1 (.tmp 16) (.tmp 17)),
 ⟨none,.store 1 (.tmp 27) (.tmp 25),none⟩] [13,14,15,16,17,18,19,20,21,22,23,24,25,26,27])
 (.seq
 (.region false [
 om 28 6,
 oo 29 (.bin .add 3 (.tmp 28) (.const (.int .i64 1))),
 om 6 29] [28,29])
 (.region false [
 om 30 7,
 oo 31 (.bin .sub 3 (.tmp 30) (.const (.int .i64 1))),
 om 7 31] [30,31]))) [])) [] []) [0,6,7,13])))
abbrev v_q88 : List RV:= []
abbrev f_q88 : FuncId:= 91
theorem k_q88 : closedOf Tryz.prog Tryz.f91 = (false,some true,some v_q88,some c_q88.plain,32):= by kernel_rfl
theorem am_q88 {args : List AV} {c0 c1 : List (Nat × List AV)} {r : AV} (h : aw Tryz.prog c_q88 (env0M args c0) (endM v_q88 r (c0.map (·.1)) c1)) (hc0 : ∀ q ∈ c0,100000 ≤ q.1) (hargs : args.length ≤ 32:= by decide) (hok : resOK r = true:= by rfl) : AM Tryz.prog f_q88 args c0 r c1 :=
  AM_mk (by kernel_rfl) Tryz.func91 k_q88 hargs hok (by decide) hc0 h
def c_q89 : ACode :=
 (.seq
 (.region false [
 oo 6 (.mov (.const (.bool false)))] [6])
 (.seq
 (.region false [
 om 11 1,
 oo 12 (.bin .add 3 (.tmp 11) (.const (.int .i64 1))),
 om 7 12] [11,12])
 (.seq
 (.seq
 (.region false [
 oo 8 (.mov (.const (.int .i64 0)))] [])
 (.block 0
 (.loop
 (.seq
 (.seq
 (.region false [
 om 13 8,
 oo 14 (.bin .lss 3 (.tmp 13) (.const (.int .i64 5)))] [13])
 (.cond (.tmp 14)
 .skip
 (.exit 0)))
 (.seq
 (.block 1
 (.seq
 (.block 2
 (.loop
 (.seq
 (.seq
 (.region true [
 om 17 7,
 om 18 2,
 oo 19 (.bin .lss 3 (.tmp 17) (.tmp 18)),
 om 20 19,
 og 21 (.mov (.tmp 0)) 20 true,
 og 22 (.mov (.tmp 7)) 20 true,
 og 23 (.iaddr 1 (.tmp 21) (.tmp 22)) 20 true,
 og 24 (.load false 1 (.tmp 23)) 20 true,
 og 25 (.mov (.tmp 0)) 20 true,
 og 26 (.mov (.tmp 7)) 20 true,
 og 27 (.bin .sub 3 (.tmp 26) (.const (.int .i64 1))) 20 true,
 og 28 (.iaddr 1 (.tmp 25) (.tmp 27)) 20 true,
 og 29 (.load false 1 (.tmp 28)) 20 true,
 og 30 (.call 93 [.tmp 24,.tmp 29]) 20 true,
 og 31 (.un .not (.tmp 30)) 20 true,
 oo 32 (.pick (.tmp 20) (.tmp 31) (.const (.bool false)))] [17,18,19,20,21,22,23,24,25,26,27,28,29,30,31])
 (.cond (.tmp 32)
 .skip
 (.exit 2)))
 (.block 3
 (.region false [
 om 33 7,
 oo 34 (.bin .add 3 (.tmp 33) (.const (.int .i64 1))),
 om 7 34] [32,33,34]) [])) [14] []) [32])
 (.seq
 (.seq
 (.region false [
 om 35 7,
 om 36 2,
 oo 37 (.bin .eql 3 (.tmp 35) (.tmp 36))] [35,36])
 (.cond (.tmp 37)
 (.seq
 (.region false [
 oo 6 (.mov (.const (.bool true)))] [0,1,2,7,8,37])
 .ret)
 .skip))
 (.seq
 (.seq
 (.region false [
 om 38 2,
 om 39 1,
 oo 40 (.bin .sub 3 (.tmp 38) (.tmp 39)),
 oo 41 (.bin .lss 3 (.tmp 40) (.const (.int .i64 50)))] [37,38,39,40])
 (.cond (.tmp 41)
 (.seq
 (.region false [
 oo 6 (.mov (.const (.bool false)))] [0,1,2,7,8,41])
 .ret)
 .skip))
 (.seq
 (.region true [
 om 42 0,
 om 43 7,
 om 44 0,
 om 45 7,
 oo 46 (.bin .sub 3 (.tmp 45) (.const (.int .i64 1))),
 om 47 0,
 om 48 7,
 oo 49 (.bin .sub 3 (.tmp 48) (.const (.int .i64 1))),
 oo 50 (.iaddr 1 (.tmp 47) (.tmp 49)),
 oo 51 (.load false 1 (.tmp 50)),
 om 52 0,
 om 53 7,
 oo 54 (.iaddr 1 (.tmp 52) (.tmp 53)),
 oo 55 (.load false 1 (.tmp 54)),
 oo 56 (.iaddr 1 (.tmp 42) (.tmp 43)),
 ⟨none,.store 1 (.tmp 56) (.tmp 51),none⟩,
 oo 57 (.iaddr 1 (.tmp 44) (.tmp 46)),
 ⟨none,.store 1 (.tmp 57) (.tmp 55),none⟩] [41,42,43,44,45,46,47,48,49,50,51,52,53,54,55,56,57])
 (.seq
 (.seq
 (.region false [
 om 58 7,
 om 59 1,
 oo 60 (.bin .sub 3 (.tmp 58) (.tmp 59)),
 oo 61 (.bin .geq 3 (.tmp 60) (.const (.int .i64 2)))] [58,59,60])
 (.cond (.tmp 61)
 (.seq
 (.region false [
 om 62 7,
 oo 63 (.bin .sub 3 (.tmp 62) (.const (.int .i64 1))),
 om 9 63] [61,62,63])
 (.block 4
 (.loop
 (.seq
 (.seq
 (.region false [
 om 64 9,
 oo 65 (.bin .geq 3 (.tmp 64) (.const (.int .i64 1)))] [64])
 (.cond (.tmp 65)
 .skip
 (.exit 4)))
 (.seq
 (.block 5
 (.seq
 (.seq
 (.region true [
 om 68 0,
 om 69 9,
 oo 70 (.iaddr 1 (.tmp 68) (.tmp 69)),
 oo 71 (.load false 1 (.tmp 70)),
 om 72 0,
 om 73 9,
 oo 74 (.bin .sub 3 (.tmp 73) (.const (.int .i64 1))),
 oo 75 (.iaddr 1 (.tmp 72) (.tmp 74)),
 oo 76 (.load false 1 (.tmp 75)),
 oo 77 (.call 93 [.tmp 71,.tmp 76]),
 oo 78 (.un .not (.tmp 77))] [65,68,69,70,71,72,73,74,75,76,77])
 (.cond (.tmp 78)
 (.exit 4)
 .skip))
 (.region true [
 om 79 0,
 om 80 9,
 om 81 0,
 om 82 9,
 oo 83 (.bin .sub 3 (.tmp 82) (.const (.int .i64 1))),
 om 84 0,
 om 85 9,
 oo 86 (.bin .sub 3 (.tmp 85) (.const (.int .i64 1))),
 oo 87 (.iaddr 1 (.tmp 84) (.tmp 86)),
 oo 88 (.load false 1 (.tmp 87)),
 om 89 0,
 om 90 9,
 oo 91 (.iaddr 1 (.tmp 89) (.tmp 90)),
 oo 92 (.load false 1 (.tmp 91)),
 oo 93 (.iaddr 1 (.tmp 79) (.tmp 80)),
 ⟨none,.store 1 (.tmp 93) (.tmp 88),none⟩,
 oo 94 (.iaddr 1 (.tmp 81) (.tmp 83)),
 ⟨none,.store 1 (.tmp 94) (.tmp 92),none⟩] [78,79,80,81,82,83,84,85,86,87,88,89,90,91,92,93,94])) [])
 (.region false [
 om 66 9,
 oo 67 (.bin .sub 3 (.tmp 66) (.const (.int .i64 1))),
 om 9 67] [66,67]))) [] []) [9,65,78]))
 .skip))
 (.seq
 (.region false [
 om 95 2,
 om 96 7,
 oo 97 (.bin .sub 3 (.tmp 95) (.tmp 96)),
 oo 98 (.bin .geq 3 (.tmp 97) (.const (.int .i64 2)))] [61,95,96,97])
 (.cond (.tmp 98)
 (.seq
 (.region false [
 om 99 7,
 oo 100 (.bin .add 3 (.tmp 99) (.const (.int .i64 1))),
 om 10 100] [98,99,100])
 (.block 6
 (.loop
 (.seq
 (.seq
 (.region false [
 om 101 10,
 om 102 2,
 oo 103 (.bin .lss 3 (.tmp 101) (.tmp 102))] [101,102])
 (.cond (.tmp 103)
 .skip
 (.exit 6)))
 (.seq
 (.block 7
 (.seq
 (.seq
 (.region true [
 om 106 0,
 om 107 10,
 oo 108 (.iaddr 1 (.tmp 106) (.tmp 107)),
 oo 109 (.load false 1 (.tmp 108)),
 om 110 0,
 om 111 10,
 oo 112 (.bin .sub 3 (.tmp 111) (.const (.int .i64 1))),
 oo 113 (.iaddr 1 (.tmp 110) (.tmp 112)),
 oo 114 (.load false 1 (.tmp 113)),
 oo 115 (.call 93 [.tmp 109,.tmp 114]),
 oo 116 (.un .not (.tmp 115))] [103,106,107,108,109,110,111,112,113,114,115])
 (.cond (.tmp 116)
 (.exit 6)
 .skip))
 (.region true [
 om 117 0,
 om 118 10,
 om 119 0,
 om 120 10,
 oo 121 (.bin .sub 3 (.tmp 120) (.const (.int .i64 1))),
 om 122 0,
 om 123 10,
 oo 124 (.bin .sub 3 (.tmp 123) (.const (.int .i64 1))),
 oo 125 (.iaddr 1 (.tmp 122) (.tmp 124)),
 oo 126 (.load false 1 (.tmp 125)),
 om 127 0,
 om 128 10,
 oo 129 (.iaddr 1 (.tmp 127) (.tmp 128)),
 oo 130 (.load false 1 (.tmp 129)),
 oo 131 (.iaddr 1 (.tmp 117) (.tmp 118)),
 ⟨none,.store 1 (.tmp 131) (.tmp 126),none⟩,
 oo 132 (.iaddr 1 (.tmp 119) (.tmp 121)),
 ⟨none,.store 1 (.tmp 132) (.tmp 130),none⟩] [116,117,118,119,120,121,122,123,124,125,126,127,128,129,130,131,132])) [])
 (.region false [
 om 104 10,
 oo 105 (.bin .add 3 (.tmp 104) (.const (.int .i64 1))),
 om 10 105] [104,105]))) [] []) [10,103,116]))
 .skip))))))) [98])
 (.region false [
 om 15 8,
 oo 16 (.bin .add 3 (.tmp 15) (.const (.int .i64 1))),
 om 8 16] [15,16]))) [] []) [0,1,2,7,8,14]))
 (.seq
 (.region false [
 oo 6 (.mov (.const (.bool false)))] [])
 .ret))))
abbrev v_q89 : List RV:= [.tmp 6]
abbrev f_q89 : FuncId:= 92
theorem k_q89 : closedOf Tryz.prog Tryz.f92 = (false,some true,some v_q89,some c_q89.plain,133):= by kernel_rfl
theorem am_q89 {args : List AV} {c0 c1 : List (Nat × List AV)} {r : AV} (h : aw Tryz.prog c_q89 (env0M args c0) (endM v_q89 r (c0.map (·.1)) c1)) (hc0 : ∀ q ∈ c0,100000 ≤ q.1) (hargs : args.length ≤ 133:= by decide) (hok : resOK r = true:= by rfl) : AM Tryz.prog f_q89 args c0 r c1 :=
  AM_mk (by kernel_rfl) Tryz.func92 k_q89 hargs hok (by decide) hc0 h
def c_q90 : ACode :=
 (.seq
 (.region false [
 oo 4 (.mov (.const (.bool false)))] [4])
 (.seq
 (.region false [
 om 5 0,
 oo 6 (.callm 120 [.tmp 5]),
 om 7 6,
 og 8 (.mov (.tmp 1)) 7 true,
 og 9 (.callm 120 [.tmp 8]) 7 true,
 og 10 (.un .not (.tmp 9)) 7 true,
 oo 11 (.pick (.tmp 7) (.tmp 10) (.const (.bool false))),
 om 12 11,
 og 13 (.mov (.tmp 0)) 12 false,
 og 14 (.mov (.tmp 1)) 12 false,
 og 15 (.bin .lss 37 (.tmp 13) (.tmp 14)) 12 false,
 oo 16 (.pick (.tmp 12) (.const (.bool true)) (.tmp 15)),
 om 4 16] [0,1,5,6,7,8,9,10,11,12,13,14,15,16])
 .ret))
abbrev v_q90 : List RV:= [.tmp 4]
abbrev f_q90 : FuncId:= 93
theorem k_q90 : closedOf Tryz.prog Tryz.f93 = (false,some true,some v_q90,some c_q90.plain,17):= by kernel_rfl
theorem ac_q90 {args : List AV} {r : AV} (h : aw Tryz.prog c_q90 (env0 args) (endQ v_q90 r)) (hargs : args.length ≤ 17:= by decide) (hok : resOK r = true:= by rfl) : AC Tryz.prog f_q90 args r :=
  AC_mk (by kernel_rfl) Tryz.func93 k_q90 hargs hok (by decide) h
def c_q91 : ACode :=
 (.seq
 (.region false [
 oo 8 (.mov (.const (.int .i64 0)))] [8])
 (.seq
 (.region true [
 om 11 0,
 om 12 1,
 om 13 0,
 om 14 3,
 om 15 0,
 om 16 3,
 oo 17 (.iaddr 1 (.tmp 15) (.tmp 16)),
 oo 18 (.load false 1 (.tmp 17)),
 om 19 0,
 om 20 1,
 oo 21 (.iaddr 1 (.tmp 19) (.tmp 20)),
 oo 22 (.load false 1 (.tmp 21)),
 oo 23 (.iaddr 1 (.tmp 11) (.tmp 12)),
 ⟨none,.store 1 (.tmp 23) (.tmp 18),none⟩,
 oo 24 (.iaddr 1 (.tmp 13) (.tmp 14)),
 ⟨none,.store 1 (.tmp 24) (.tmp 22),none⟩] [3,11,12,13,14,15,16,17,18,19,20,21,22,23,24])
 (.seq
 (.region false [
 om 25 1,
 oo 26 (.bin .add 3 (.tmp 25) (.const (.int .i64 1))),
 om 27 2,
 oo 28 (.bin .sub 3 (.tmp 27) (.const (.int .i64 1))),
 om 9 26,
 om 10 28] [2,25,26,27,28])
 (.seq
 (.block 0
 (.loop
 (.block 1
 (.seq
 (.block 2
 (.loop
 (.seq
 (.seq
 (.region true [
 om 29 9,
 om 30 10,
 oo 31 (.bin .leq 3 (.tmp 29) (.tmp 30)),
 om 32 31,
 og 33 (.mov (.tmp 0)) 32 true,
 og 34 (.mov (.tmp 1)) 32 true,
 og 35 (.iaddr 1 (.tmp 33) (.tmp 34)) 32 true,
 og 36 (.load false 1 (.tmp 35)) 32 true,
 og 37 (.mov (.tmp 0)) 32 true,
 og 38 (.mov (.tmp 9)) 32 true,
 og 39 (.iaddr 1 (.tmp 37) (.tmp 38)) 32 true,
 og 40 (.load false 1 (.tmp 39)) 32 true,
 og 41 (.call 93 [.tmp 36,.tmp 40]) 32 true,
 og 42 (.un .not (.tmp 41)) 32 true,
 oo 43 (.pick (.tmp 32) (.tmp 42) (.const (.bool false)))] [29,30,31,32,33,34,35,36,37,38,39,40,41,42])
 (.cond (.tmp 43)
 .skip
 (.exit 2)))
 (.block 3
 (.region false [
 om 44 9,
 oo 45 (.bin .add 3 (.tmp 44) (.const (.int .i64 1))),
 om 9 45] [43,44,45]) [])) [] []) [43])
 (.seq
 (.block 4
 (.loop
 (.seq
 (.seq
 (.region true [
 om 46 9,
 om 47 10,
 oo 48 (.bin .leq 3 (.tmp 46) (.tmp 47)),
 om 49 48,
 og 50 (.mov (.tmp 0)) 49 true,
 og 51 (.mov (.tmp 1)) 49 true,
 og 52 (.iaddr 1 (.tmp 50) (.tmp 51)) 49 true,
 og 53 (.load false 1 (.tmp 52)) 49 true,
 og 54 (.mov (.tmp 0)) 49 true,
 og 55 (.mov (.tmp 10)) 49 true,
 og 56 (.iaddr 1 (.tmp 54) (.tmp 55)) 49 true,
 og 57 (.load false 1 (.tmp 56)) 49 true,
 og 58 (.call 93 [.tmp 53,.tmp 57]) 49 true,
 oo 59 (.pick (.tmp 49) (.tmp 58) (.const (.bool false)))] [46,47,48,49,50,51,52,53,54,55,56,57,58])
 (.cond (.tmp 59)
 .skip
 (.exit 4)))
 (.block 5
 (.region false [
 om 60 10,
 oo 61 (.bin .sub 3 (.tmp 60) (.const (.int .i64 1))),
 om 10 61] [59,60,61]) [])) [] []) [59])
 (.seq
 (.seq
 (.region false [
 om 62 9,
 om 63 10,
 oo 64 (.bin .gtr 3 (.tmp 62) (.tmp 63))] [62,63])
 (.cond (.tmp 64)
 (.exit 0)
 .skip))
 (.seq
 (.region true [
 om 65 0,
 om 66 9,
 om 67 0,
 om 68 10,
 om 69 0,
 om 70 10,
 oo 71 (.iaddr 1 (.tmp 69) (.tmp 70)),
 oo 72 (.load false 1 (.tmp 71)),
 om 73 0,
 om 74 9,
 oo 75 (.iaddr 1 (.tmp 73) (.tmp 74)),
 oo 76 (.load false 1 (.tmp 75)),
 oo 77 (.iaddr 1 (.tmp 65) (.tmp 66)),
 ⟨none,.store 1 (.tmp 77) (.tmp 72),none⟩,
 oo 78 (.iaddr 1 (.tmp 67) (.tmp 68)),
 ⟨none,.store 1 (.tmp 78) (.tmp 76),none⟩] [64,65,66,67,68,69,70,71,72,73,74,75,76,77,78])
 (.seq
 (.region false [
 om 79 9,
 oo 80 (.bin .add 3 (.tmp 79) (.const (.int .i64 1))),
 om 9 80] [79,80])
 (.region false [
 om 81 10,
 oo 82 (.bin .sub 3 (.tmp 81) (.const (.int .i64 1))),
 om 10 82] [81,82])))))) []) [] []) [0,1,10,64])
 (.seq
 (.region false [
 om 83 9,
 om 8 83] [9,83])
 .ret)))))
abbrev v_q91 : List RV:= [.tmp 8]
abbrev f_q91 : FuncId:= 94
theorem k_q91 : closedOf Tryz.prog Tryz.f94 = (false,some true,some v_q91,some c_q91.plain,84):= by kernel_rfl
theorem am_q91 {args : List AV} {c0 c1 : List (Nat × List AV)} {r : AV} (h : aw Tryz.prog c_q91 (env0M args c0) (endM v_q91 r (c0.map (·.1)) c1)) (hc0 : ∀ q ∈ c0,100000 ≤ q.1) (hargs : args.length ≤ 84:= by decide) (hok : resOK r = true:= by rfl) : AM Tryz.prog f_q91 args c0 r c1 :=
  AM_mk (by kernel_rfl) Tryz.func94 k_q91 hargs hok (by decide) hc0 h
def c_q92 : ACode :=
 (.seq
 (.region false [
 oo 8 (.mov (.const (.int .i64 0))),
 oo 9 (.mov (.const (.bool false)))] [8,9])
 (.seq
 (.region true [
 om 12 0,
 om 13 1,
 om 14 0,
 om 15 3,
 om 16 0,
 om 17 3,
 oo 18 (.iaddr 1 (.tmp 16) (.tmp 17)),
 oo 19 (.load false 1 (.tmp 18)),
 om 20 0,
 om 21 1,
 oo 22 (.iaddr 1 (.tmp 20) (.tmp 21)),
 oo 23 (.load false 1 (.tmp 22)),
 oo 24 (.iaddr 1 (.tmp 12) (.tmp 13)),
 ⟨none,.store 1 (.tmp 24) (.tmp 19),none⟩,
 oo 25 (.iaddr 1 (.tmp 14) (.tmp 15)),
 ⟨none,.store 1 (.tmp 25) (.tmp 23),none⟩] [3,12,13,14,15,16,17,18,19,20,21,22,23,24,25])
 (.seq
 (.region false [
 om 26 1,
 oo 27 (.bin .add 3 (.tmp 26) (.const (.int .i64 1))),
 om 28 2,
 oo 29 (.bin .sub 3 (.tmp 28) (.const (.int .i64 1))),
 om 10 27,
 om 11 29] [2,26,27,28,29])
 (.seq
 (.block 0
 (.loop
 (.seq
 (.seq
 (.region true [
 om 30 10,
 om 31 11,
 oo 32 (.bin .leq 3 (.tmp 30) (.tmp 31)),
 om 33 32,
 og 34 (.mov (.tmp 0)) 33 true,
 og 35 (.mov (.tmp 10)) 33 true,
 og 36 (.iaddr 1 (.tmp 34) (.tmp 35)) 33 true,
 og 37 (.load false 1 (.tmp 36)) 33 true,
 og 38 (.mov (.tmp 0)) 33 true,
 og 39 (.mov (.tmp 1)) 33 true,
 og 40 (.iaddr 1 (.tmp 38) (.tmp 39)) 33 true,
 og 41 (.load false 1 (.tmp 40)) 33 true,
 og 42 (.call 93 [.tmp 37,.tmp 41]) 33 true,
 oo 43 (.pick (.tmp 33) (.tmp 42) (.const (.bool false)))] [30,31,32,33,34,35,36,37,38,39,40,41,42])
 (.cond (.tmp 43)
 .skip
 (.exit 0)))
 (.block 1
 (.region false [
 om 44 10,
 oo 45 (.bin .add 3 (.tmp 44) (.const (.int .i64 1))),
 om 10 45] [43,44,45]) [])) [] []) [43])
 (.seq
 (.block 2
 (.loop
 (.seq
 (.seq
 (.region true [
 om 46 10,
 om 47 11,
 oo 48 (.bin .leq 3 (.tmp 46) (.tmp 47)),
 om 49 48,
 og 50 (.mov (.tmp 0)) 49 true,
 og 51 (.mov (.tmp 11)) 49 true,
 og 52 (.iaddr 1 (.tmp 50) (.tmp 51)) 49 true,
 og 53 (.load false 1 (.tmp 52)) 49 true,
 og 54 (.mov (.tmp 0)) 49 true,
 og 55 (.mov (.tmp 1)) 49 true,
 og 56 (.iaddr 1 (.tmp 54) (.tmp 55)) 49 true,
 og 57 (.load false 1 (.tmp 56)) 49 true,
 og 58 (.call 93 [.tmp 53,.tmp 57]) 49 true,
 og 59 (.un .not (.tmp 58)) 49 true,
 oo 60 (.pick (.tmp 49) (.tmp 59) (.const (.bool false)))] [46,47,48,49,50,51,52,53,54,55,56,57,58,59])
 (.cond (.tmp 60)
 .skip
 (.exit 2)))
 (.block 3
 (.region false [
 om 61 11,
 oo 62 (.bin .sub 3 (.tmp 61) (.const (.int .i64 1))),
 om 11 62] [60,61,62]) [])) [] []) [60])
 (.seq
 (.seq
 (.region false [
 om 63 10,
 om 64 11,
 oo 65 (.bin .gtr 3 (.tmp 63) (.tmp 64))] [63,64])
 (.cond (.tmp 65)
 (.seq
 (.region true [
 om 66 0,
 om 67 11,
 om 68 0,
 om 69 1,
 om 70 0,
 om 71 1,
 oo 72 (.iaddr 1 (.tmp 70) (.tmp 71)),
 oo 73 (.load false 1 (.tmp 72)),
 om 74 0,
 om 75 11,
 oo 76 (.iaddr 1 (.tmp 74) (.tmp 75)),
 oo 77 (.load false 1 (.tmp 76)),
 oo 78 (.iaddr 1 (.tmp 66) (.tmp 67)),
 ⟨none,.store 1 (.tmp 78) (.tmp 73),none⟩,
 oo 79 (.iaddr 1 (.tmp 68) (.tmp 69)),
 ⟨none,.store 1 (.tmp 79) (.tmp 77),none⟩] [0,1,10,65,66,67,68,69,70,71,72,73,74,75,76,77,78,79])
 (.seq
 (.region false [
 om 80 11,
 om 8 80,
 oo 9 (.mov (.const (.bool true)))] [11,80])
 .ret))
 .skip))
 (.seq
 (.region true [
 om 81 0,
 om 82 10,
 om 83 0,
 om 84 11,
 om 85 0,
 om 86 11,
 oo 87 (.iaddr 1 (.tmp 85) (.tmp 86)),
 oo 88 (.load false 1 (.tmp 87)),
 om 89 0,
 om 90 10,
 oo 91 (.iaddr 1 (.tmp 89) (.tmp 90)),
 oo 92 (.load false 1 (.tmp 91)),
 oo 93 (.iaddr 1 (.tmp 81) (.tmp 82)),
 ⟨none,.store 1 (.tmp 93) (.tmp 88),none⟩,
 oo 94 (.iaddr 1 (.tmp 83) (.tmp 84)),
 ⟨none,.store 1 (.tmp 94) (.tmp 92),none⟩] [65,81,82,83,84,85,86,87,88,89,90,91,92,93,94])
 (.seq
 (.region false [
 om 95 10,
 oo 96 (.bin .add 3 (.tmp 95) (.const (.int .i64 1))),
 om 10 96] [95,96])
 (.seq
 (.region false [
 om 97 11,
 oo 98 (.bin .sub 3 (.tmp 97) (.const (.int .i64 1))),
 om 11 98] [97,98])
 (.seq
 (.block 4
 (.loop
 (.block 5
 (.seq
 (.block 6
 (.loop
 (.seq
 (.seq
 (.region true [
 om 99 10,
 om 100 11,
 oo 101 (.bin .leq 3 (.tmp 99) (.tmp 100)),
 om 102 101,
 og 103 (.mov (.tmp 0)) 102 true,
 og 104 (.mov (.tmp 10)) 102 true,
 og 105 (.iaddr 1 (.tmp 103) (.tmp 104)) 102 true,
 og 106 (.load false 1 (.tmp 105)) 102 true,
 og 107 (.mov (.tmp 0)) 102 true,
 og 108 (.mov (.tmp 1)) 102 true,
 og 109 (.iaddr 1 (.tmp 107) (.tmp 108)) 102 true,
 og 110 (.load false 1 (.tmp 109)) 102 true,
 og 111 (.call 93 [.tmp 106,.tmp 110]) 102 true,
 oo 112 (.pick (.tmp 102) (.tmp 111) (.const (.bool false)))] [99,100,101,102,103,104,105,106,107,108,109,110,111])
 (.cond (.tmp 112)
 .skip
 (.exit 6)))
 (.block 7
 (.region false [
 om 113 10,
 oo 114 (.bin .add 3 (.tmp 113) (.const (.int .i64 1))),
 om 10 114] [112,113,114]) [])) [] []) [112])
 (.seq
 (.block 8
 (.loop
 (.seq
 (.seq
 (.region true [
 om 115 10,
 om 116 11,
 oo 117 (.bin .leq 3 (.tmp 115) (.tmp 116)),
 om 118 117,
 og 119 (.mov (.tmp 0)) 118 true,
 og 120 (.mov (.tmp 11)) 118 true,
 og 121 (.iaddr 1 (.tmp 119) (.tmp 120)) 118 true,
 og 122 (.load false 1 (.tmp 121)) 118 true,
 og 123 (.mov (.tmp 0)) 118 true,
 og 124 (.mov (.tmp 1)) 118 true,
 og 125 (.iaddr 1 (.tmp 123) (.tmp 124)) 118 true,
 og 126 (.load false 1 (.tmp 125)) 118 true,
 og 127 (.call 93 [.tmp 122,.tmp 126]) 118 true,
 og 128 (.un .not (.tmp 127)) 118 true,
 oo 129 (.pick (.tmp 118) (.tmp 128) (.const (.bool false)))] [115,116,117,118,119,120,121,122,123,124,125,126,127,128])
 (.cond (.tmp 129)
 .skip
 (.exit 8)))
 (.block 9
 (.region false [
 om 130 11,
 oo 131 (.bin .sub 3 (.tmp 130) (.const (.int .i64 1))),
 om 11 131] [129,130,131]) [])) [] []) [129])
 (.seq
 (.seq
 (.region false [
 om 132 10,
 om 133 11,
 oo 134 (.bin .gtr 3 (.tmp 132) (.tmp 133))] [132,133])
 (.cond (.tmp 134)
 (.exit 4)
 .skip))
 (.seq
 (.region true [
 om 135 0,
 om 136 10,
 om 137 0,
 om 138 11,
 om 139 0,
 om 140 11,
 oo 141 (.iaddr 1 (.tmp 139) (.tmp 140)),
 oo 142 (.load false 1 (.tmp 141)),
 om 143 0,
 om 144 10,
 oo 145 (.iaddr 1 (.tmp 143) (.tmp 144)),
 oo 146 (.load false 1 (.tmp 145)),
 oo 147 (.iaddr 1 (.tmp 135) (.tmp 136)),
 ⟨none,.store 1 (.tmp 147) (.tmp 142),none⟩,
 oo 148 (.iaddr 1 (.tmp 137) (.tmp 138)),
 ⟨none,.store 1 (.tmp 148) (.tmp 146),none⟩] [134,135,136,137,138,139,140,141,142,143,144,145,146,147,148])
 (.seq
 (.region false [
 om 149 10,
 oo 150 (.bin .add 3 (.tmp 149) (.const (.int .i64 1))),
 om 10 150] [149,150])
 (.region false [
 om 151 11,
 oo 152 (.bin .sub 3 (.tmp 151) (.const (.int .i64 1))),
 om 11 152] [151,152])))))) []) [] []) [10,134])
 (.seq
 (.region true [
 om 153 0,
 om 154 11,
 om 155 0,
 om 156 1,
 om 157 0,
 om 158 1,
 oo 159 (.iaddr 1 (.tmp 157) (.tmp 158)),
 oo 160 (.load false 1 (.tmp 159)),
 om 161 0,
 om 162 11,
 oo 163 (.iaddr 1 (.tmp 161) (.tmp 162)),
 oo 164 (.load false 1 (.tmp 163)),
 oo 165 (.iaddr 1 (.tmp 153) (.tmp 154)),
 ⟨none,.store 1 (.tmp 165) (.tmp 160),none⟩,
 oo 166 (.iaddr 1 (.tmp 155) (.tmp 156)),
 ⟨none,.store 1 (.tmp 166) (.tmp 164),none⟩] [0,1,153,154,155,156,157,158,159,160,161,162,163,164,165,166])
 (.seq
 (.region false [
 om 167 11,
 om 8 167,
 oo 9 (.mov (.const (.bool false)))] [11,167])
 .ret))))))))))))
abbrev v_q92 : List RV:= [.tmp 8,.tmp 9]
abbrev f_q92 : FuncId:= 95
theorem k_q92 : closedOf Tryz.prog Tryz.f95 = (false,some true,some v_q92,some c_q92.plain,168):= by kernel_rfl
theorem am_q92 {args : List AV} {c0 c1 : List (Nat × List AV)} {r : AV} (h : aw Tryz.prog c_q92 (env0M args c0) (endM v_q92 r (c0.map (·.1)) c1)) (hc0 : ∀ q ∈ c0,100000 ≤ q.1) (hargs : args.length ≤ 168:= by decide) (hok : resOK r = true:= by rfl) : AM Tryz.prog f_q92 args c0 r c1 :=
  AM_mk (by kernel_rfl) Tryz.func95 k_q92 hargs hok (by decide) hc0 h
def c_q94 : ACode :=
 (.seq
 (.region false [
 oo 2 (.mov (.const (.int .i64 0)))] [])
 (.seq
 (.seq
 (.region false [
 om 3 0,
 oo 4 (.bin .geq 151 (.tmp 3) (.const (.int .u64 4294967296)))] [3])
 (.cond (.tmp 4)
 (.seq
 (.region false [
 om 5 0,
 oo 6 (.bin .shr 151 (.tmp 5) (.const (.int .u64 32))),
 om 0 6] [2,4,5,6])
 (.region false [
 oo 2 (.mov (.const (.int .i64 32)))] []))
 .skip))
 (.seq
 (.seq
 (.region false [
 om 7 0,
 oo 8 (.bin .geq 151 (.tmp 7) (.const (.int .u64 65536)))] [4,7])
 (.cond (.tmp 8)
 (.seq
 (.region false [
 om 9 0,
 oo 10 (.bin .shr 151 (.tmp 9) (.const (.int .u64 16))),
 om 0 10] [8,9,10])
 (.region false [
 om 11 2,
 oo 12 (.bin .add 3 (.tmp 11) (.const (.int .i64 16))),
 om 2 12] [11,12]))
 .skip))
 (.seq
 (.seq
 (.region false [
 om 13 0,
 oo 14 (.bin .geq 151 (.tmp 13) (.const (.int .u64 256)))] [8,13])
 (.cond (.tmp 14)
 (.seq
 (.region false [
 om 15 0,
 oo 16 (.bin .shr 151 (.tmp 15) (.const (.int .u64 8))),
 om 0 16] [14,15,16])
 (.region false [
 om 17 2,
 oo 18 (.bin .add 3 (.tmp 17) (.const (.int .i64 8))),
 om 2 18] [17,18]))
 .skip))
 (.seq
 (.region false [
 om 19 2,
 om 20 0,
 oo 21 (.cint .u8 (.tmp 20)),
 oo 22 (.idxs (.const (.string ⟨#[0,1,2,2,3,3,3,3,4,4,4,4,4,4,4,4,5,5,5,5,5,5,5,5,5,5,5,5,5,5,5,5,6,6,6,6,6,6,6,6,6,6,6,6,6,6,6,6,6,6,6,6,6,6,6,6,6,6,6,6,6,6,6,6,7,7,7,7,7,7,7,7,7,7,7,7,7,7,7,7,7,7,7,7,7,7,7,7,7,7,7,7,7,7,7,7,7,7,7,7,7,7,7,7,7,7,7,7,7,7,7,7,7,7,7,7,7,7,7,7,7,7,7,7,7,7,7,7,8,8,8,8,8,8,8,8,8,8,8,8,8,8,8,8,8,8,8,8,8,8,8,8,8,8,8,8,8,8,8,8,8,8,8,8,8,8,8,8,8,8,8,8,8,8,8,8,8,8,8,8,8,8,8,8,8,8,8,8,8,8,8,8,8,8,8,8,8,8,8,8,8,8,8,8,8,8,8,8,8,8,8,8,8,8,8,8,8,8,8,8,8,8,8,8,8,8,8,8,8,8,8,8,8,8,8,8,8,8,8,8,8,8,8,8,8,8,8,8,8,8,8,8,8,8,8,8]⟩)) (.tmp 21)),
 oo 23 (.cint .i64 (.tmp 22)),
 oo 24 (.bin .add 3 (.tmp 19) (.tmp 23)),
 om 2 24] [0,14,19,20,21,22,23,24])
 .ret)))))
abbrev v_q94 : List RV:= [.tmp 2]
abbrev f_q94 : FuncId:= 97
theorem k_q94 : closedOf Tryz.prog Tryz.f97 = (false,some true,some v_q94,some c_q94.plain,25):= by kernel_rfl
theorem ac_q94 {args : List AV} {r : AV} (h : aw Tryz.prog c_q94 (env0 args) (endQ v_q94 r)) (hargs : args.length ≤ 25:= by decide) (hok : resOK r = true:= by rfl) : AC Tryz.prog f_q94 args r :=
  AC_mk (by kernel_rfl) Tryz.func97 k_q94 hargs hok (by decide) h
def c_q95 : ACode :=
 (.seq
 (.region false [
 oo 2 (.mov (.const (.slice none 0 0)))] [2])
 (.seq
 (.seq
 (.region false [
 om 3 0,
 oo 4 (.eqs false (.tmp 3))] [3])
 (.cond (.tmp 4)
 (.seq
 (.region false [
 oo 2 (.mov (.const (.slice none 0 0)))] [0,4])
 .ret)
 .skip))
 (.seq
 (.shift
 (.region false [
 oo 5 (.bsl0 1),
 om 6 0,
 oo 7 (.app 1 8 [] (.tmp 5) (.tmp 6)),
 om 2 7] [0,4,5,6,7]))
 .ret)))
abbrev v_q95 : List RV:= [.tmp 2]
abbrev f_q95 : FuncId:= 98
theorem k_q95 : closedOf Tryz.prog Tryz.f98 = (false,some true,some v_q95,some c_q95.plain,8):= by kernel_rfl
theorem ac_q95 {args : List AV} {r : AV} (h : aw Tryz.prog c_q95 (env0 args) (endQ v_q95 r)) (hargs : args.length ≤ 8:= by decide) (hok : resOK r = true:= by rfl) : AC Tryz.prog f_q95 args r :=
  AC_mk (by kernel_rfl) Tryz.func98 k_q95 hargs hok (by decide) h
def c_q96 : ACode :=
 (.seq
 (.region false [
 oo 4 (.mov (.const (.int .i64 0)))] [4])
 (.seq
 (.seq
 (.region false [
 om 6 0,
 oo 7 (.lenl (.tmp 6)),
 oo 8 (.mov (.const (.int .i64 0)))] [6])
 (.block 0
 (.loop
 (.seq
 (.region false [
 oo 9 (.bin .lss 3 (.tmp 8) (.tmp 7))] [])
 (.seq
 (.cond (.tmp 9)
 .skip
 (.exit 0))
 (.seq
 (.block 1
 (.seq
 (.region false [
 om 10 8,
 om 5 10] [9,10])
 (.seq
 (.region false [
 om 11 1,
 om 12 0,
 om 13 5,
 oo 14 (.iaddr 1 (.tmp 12) (.tmp 13)),
 oo 15 (.load false 1 (.tmp 14)),
 oo 16 (.callvm (.tmp 11) [.tmp 15])] [11,12,13,14,15])
 (.cond (.tmp 16)
 (.seq
 (.region false [
 om 17 5,
 om 4 17] [0,1,5,7,8,16,17])
 .ret)
 .skip))) [5,16])
 (.region false [
 oo 18 (.bin .add 3 (.tmp 8) (.const (.int .i64 1))),
 om 8 18] [18])))) [] []) [0,1,7,8,9]))
 (.seq
 (.region false [
 oo 4 (.mov (.const (.int .i64 (-1))))] [])
 .ret)))
abbrev v_q96 : List RV:= [.tmp 4]
abbrev f_q96 : FuncId:= 99
theorem k_q96 : closedOf Tryz.prog Tryz.f99 = (false,some true,some v_q96,some c_q96.plain,19):= by kernel_rfl
theorem ac_q96 {args : List AV} {r : AV} (h : aw Tryz.prog c_q96 (env0 args) (endQ v_q96 r)) (hargs : args.length ≤ 19:= by decide) (hok : resOK r = true:= by rfl) : AC Tryz.prog f_q96 args r :=
  AC_mk (by kernel_rfl) Tryz.func99 k_q96 hargs hok (by decide) h
def c_q97 : ACode :=
 (.seq
 (.region false [
 oo 2 (.mov (.const (.string ⟨#[]⟩)))] [2])
 (.seq
 (.seq
 (.region false [
 om 3 0,
 oo 4 (.bin .lss 3 (.tmp 3) (.const (.int .i64 10)))] [3])
 (.cond (.tmp 4)
 (.seq
 (.region false [
 om 5 0,
 om 6 0,
 oo 7 (.bin .add 3 (.tmp 6) (.const (.int .i64 1))),
 oo 8 (.slcs (.const (.string ⟨#[48,49,50,51,52,53,54,55,56,57,97,98,99,100,101,102,103,104,105,106,107,108,109,110,111,112,113,114,115,116,117,118,119,120,121,122]⟩)) (some (.tmp 5)) (some (.tmp 7))),
 om 2 8] [0,4,5,6,7,8])
 .ret)
 .skip))
 (.seq
 (.region false [
 om 9 0,
 oo 10 (.bin .mul 3 (.tmp 9) (.const (.int .i64 2))),
 om 11 0,
 oo 12 (.bin .mul 3 (.tmp 11) (.const (.int .i64 2))),
 oo 13 (.bin .add 3 (.tmp 12) (.const (.int .i64 2))),
 oo 14 (.slcs (.const (.string ⟨#[48,48,48,49,48,50,48,51,48,52,48,53,48,54,48,55,48,56,48,57,49,48,49,49,49,50,49,51,49,52,49,53,49,54,49,55,49,56,49,57,50,48,50,49,50,50,50,51,50,52,50,53,50,54,50,55,50,56,50,57,51,48,51,49,51,50,51,51,51,52,51,53,51,54,51,55,51,56,51,57,52,48,52,49,52,50,52,51,52,52,52,53,52,54,52,55,52,56,52,57,53,48,53,49,53,50,53,51,53,52,53,53,53,54,53,55,53,56,53,57,54,48,54,49,54,50,54,51,54,52,54,53,54,54,54,55,54,56,54,57,55,48,55,49,55,50,55,51,55,52,55,53,55,54,55,55,55,56,55,57,56,48,56,49,56,50,56,51,56,52,56,53,56,54,56,55,56,56,56,57,57,48,57,49,57,50,57,51,57,52,57,53,57,54,57,55,57,56,57,57]⟩)) (some (.tmp 10)) (some (.tmp 13))),
 om 2 14] [0,4,9,10,11,12,13,14])
 .ret)))
abbrev v_q97 : List RV:= [.tmp 2]
abbrev f_q97 : FuncId:= 100
theorem k_q97 : closedOf Tryz.prog Tryz.f100 = (false,some true,some v_q97,some c_q97.plain,15):= by kernel_rfl
theorem ac_q97 {args : List AV} {r : AV} (h : aw Tryz.prog c_q97 (env0 args) (endQ v_q97 r)) (hargs : args.length ≤ 15:= by decide) (hok : resOK r = true:= by rfl) : AC Tryz.prog f_q97 args r :=
  AC_mk (by kernel_rfl) Tryz.func100 k_q97 hargs hok (by decide) h
def c_q101 : ACode :=
 (.seq
 (.region false [
 oo 2 (.mov (.const (.bool false)))] [2])
 (.seq
 (.region false [
 om 3 0,
 oo 4 (.bin .geq 5 (.tmp 3) (.const (.int .u8 97))),
 om 5 4,
 og 6 (.mov (.tmp 0)) 5 true,
 og 7 (.bin .leq 5 (.tmp 6) (.const (.int .u8 122))) 5 true,
 oo 8 (.pick (.tmp 5) (.tmp 7) (.const (.bool false))),
 om 2 8] [0,3,4,5,6,7,8])
 .ret))
abbrev v_q101 : List RV:= [.tmp 2]
abbrev f_q101 : FuncId:= 104
theorem k_q101 : closedOf Tryz.prog Tryz.f104 = (false,some true,some v_q101,some c_q101.plain,9):= by kernel_rfl
theorem ac_q101 {args : List AV} {r : AV} (h : aw Tryz.prog c_q101 (env0 args) (endQ v_q101 r)) (hargs : args.length ≤ 9:= by decide) (hok : resOK r = true:= by rfl) : AC Tryz.prog f_q101 args r :=
  AC_mk (by kernel_rfl) Tryz.func104 k_q101 hargs hok (by decide) h
def c_q102 : ACode :=
 (.seq
 (.region false [
 oo 4 (.mov (.const (.int .i64 0)))] [4])
 (.seq
 (.seq
 (.region false [
 om 6 0,
 oo 7 (.lenl (.tmp 6)),
 oo 8 (.mov (.const (.int .i64 0)))] [6])
 (.block 0
 (.loop
 (.seq
 (.region false [
 oo 9 (.bin .lss 3 (.tmp 8) (.tmp 7))] [])
 (.seq
 (.cond (.tmp 9)
 .skip
 (.exit 0))
 (.seq
 (.block 1
 (.seq
 (.region false [
 om 10 8,
 om 5 10] [9,10])
 (.seq
 (.region false [
 om 11 1,
 om 12 0,
 om 13 5,
 oo 14 (.iaddr 2 (.tmp 12) (.tmp 13)),
 oo 15 (.load true 2 (.tmp 14)),
 oo 16 (.callvm (.tmp 11) [.tmp 15])] [11,12,13,14,15])
 (.cond (.tmp 16)
 (.seq
 (.region false [
 om 17 5,
 om 4 17] [0,1,5,7,8,16,17])
 .ret)
 .skip))) [5,16])
 (.region false [
 oo 18 (.bin .add 3 (.tmp 8) (.const (.int .i64 1))),
 om 8 18] [18])))) [] []) [0,1,7,8,9]))
 (.seq
 (.region false [
 oo 4 (.mov (.const (.int .i64 (-1))))] [])
 .ret)))
abbrev v_q102 : List RV:= [.tmp 4]
abbrev f_q102 : FuncId:= 105
theorem k_q102 : closedOf Tryz.prog Tryz.f105 = (false,some true,some v_q102,some c_q102.plain,19):= by kernel_rfl
theorem ac_q102 {args : List AV} {r : AV} (h : aw Tryz.prog c_q102 (env0 args) (endQ v_q102 r)) (hargs : args.length ≤ 19:= by decide) (hok : resOK r = true:= by rfl) : AC Tryz.prog f_q102 args r :=
  AC_mk (by kernel_rfl) Tryz.func105 k_q102 hargs hok (by decide) h
def c_q103 : ACode :=
 (.seq
 (.region false [
 oo 4 (.mov (.const (.int .i64 0)))] [4])
 (.seq
 (.seq
 (.region false [
 om 6 0,
 oo 7 (.lenl (.tmp 6)),
 oo 8 (.mov (.const (.int .i64 0)))] [6])
 (.block 0
 (.loop
 (.seq
 (.region false [
 oo 9 (.bin .lss 3 (.tmp 8) (.tmp 7))] [])
 (.seq
 (.cond (.tmp 9)
 .skip
 (.exit 0))
 (.seq
 (.block 1
 (.seq
 (.region false [
 om 10 8,
 om 5 10] [9,10])
 (.seq
 (.region false [
 om 11 1,
 om 12 0,
 om 13 5,
 oo 14 (.iaddr 3 (.tmp 12) (.tmp 13)),
 oo 15 (.load true 3 (.tmp 14)),
 oo 16 (.callvm (.tmp 11) [.tmp 15])] [11,12,13,14,15])
 (.cond (.tmp 16)
 (.seq
 (.region false [
 om 17 5,
 om 4 17] [0,1,5,7,8,16,17])
 .ret)
 .skip))) [5,16])
 (.region false [
 oo 18 (.bin .add 3 (.tmp 8) (.const (.int .i64 1))),
 om 8 18] [18])))) [] []) [0,1,7,8,9]))
 (.seq
 (.region false [
 oo 4 (.mov (.const (.int .i64 (-1))))] [])
 .ret)))
abbrev v_q103 : List RV:= [.tmp 4]
abbrev f_q103 : FuncId:= 106
theorem k_q103 : closedOf Tryz.prog Tryz.f106 = (false,some true,some v_q103,some c_q103.plain,19):= by kernel_rfl
theorem ac_q103 {args : List AV} {r : AV} (h : aw Tryz.prog c_q103 (env0 args) (endQ v_q103 r)) (hargs : args.length ≤ 19:= by decide) (hok : resOK r = true:= by rfl) : AC Tryz.prog f_q103 args r :=
  AC_mk (by kernel_rfl) Tryz.func106 k_q103 hargs hok (by decide) h
def c_q104 : ACode :=
 (.seq
 (.region false [
 oo 1 (.box (.tmp 0)),
 oo 2 (.mov (.const (.int .u32 0)))] [0,2])
 (.seq
 (.region false [
 oo 3 (.mov (.const (.int .u32 0)))] [])
 (.seq
 (.seq
 (.region false [
 oo 6 (.load true 4 (.tmp 1)),
 oo 7 (.mov (.const (.int .i64 0)))] [1])
 (.block 0
 (.loop
 (.seq
 (.region false [
 oo 8 (.bin .lss 3 (.tmp 7) (.const (.int .i64 4)))] [])
 (.seq
 (.cond (.tmp 8)
 .skip
 (.exit 0))
 (.seq
 (.block 1
 (.seq
 (.region false [
 oo 9 (.idxa false 4 1 (.tmp 6) (.tmp 7)),
 om 5 9] [8,9])
 (.region false [
 om 10 3,
 oo 11 (.bin .shl 37 (.tmp 10) (.const (.int .u64 8))),
 om 12 5,
 oo 13 (.cint .u32 (.tmp 12)),
 oo 14 (.bin .or 37 (.tmp 11) (.tmp 13)),
 om 3 14] [5,10,11,12,13,14])) [])
 (.region false [
 oo 15 (.bin .add 3 (.tmp 7) (.const (.int .i64 1))),
 om 7 15] [15])))) [] []) [6,7,8]))
 (.seq
 (.region false [
 om 16 3,
 om 2 16] [3,16])
 .ret))))
abbrev v_q104 : List RV:= [.tmp 2]
abbrev f_q104 : FuncId:= 107
theorem k_q104 : closedOf Tryz.prog Tryz.f107 = (false,some true,some v_q104,some c_q104.plain,17):= by kernel_rfl
theorem ac_q104 {args : List AV} {r : AV} (h : aw Tryz.prog c_q104 (env0 args) (endQ v_q104 r)) (hargs : args.length ≤ 17:= by decide) (hok : resOK r = true:= by rfl) : AC Tryz.prog f_q104 args r :=
  AC_mk (by kernel_rfl) Tryz.func107 k_q104 hargs hok (by decide) h
def c_q105 : ACode :=
 (.seq
 (.region false [
 oo 4 (.mov (.const (.int .i64 0)))] [4])
 (.seq
 (.seq
 (.region false [
 om 6 0,
 oo 7 (.lenl (.tmp 6)),
 oo 8 (.mov (.const (.int .i64 0)))] [6])
 (.block 0
 (.loop
 (.seq
 (.region false [
 oo 9 (.bin .lss 3 (.tmp 8) (.tmp 7))] [])
 (.seq
 (.cond (.tmp 9)
 .skip
 (.exit 0))
 (.seq
 (.block 1
 (.seq
 (.region false [
 om 10 8,
 om 5 10] [9,10])
 (.seq
 (.region false [
 om 11 1,
 om 12 0,
 om 13 5,
 oo 14 (.iaddr 3 (.tmp 12) (.tmp 13)),
 oo 15 (.load true 3 (.tmp 14)),
 oo 16 (.callvm (.tmp 11) [.tmp 15])] [11,12,13,14,15])
 (.cond (.tmp 16)
 (.seq
 (.region false [
 om 17 5,
 om 4 17] [0,1,5,7,8,16,17])
 .ret)
 .skip))) [5,16])
 (.region false [
 oo 18 (.bin .add 3 (.tmp 8) (.const (.int .i64 1))),
 om 8 18] [18])))) [] []) [0,1,7,8,9]))
 (.seq
 (.region false [
 oo 4 (.mov (.const (.int .i64 (-1))))] [])
 .ret)))
abbrev v_q105 : List RV:= [.tmp 4]
abbrev f_q105 : FuncId:= 108
theorem k_q105 : closedOf Tryz.prog Tryz.f108 = (false,some true,some v_q105,some c_q105.plain,19):= by kernel_rfl
theorem ac_q105 {args : List AV} {r : AV} (h : aw Tryz.prog c_q105 (env0 args) (endQ v_q105 r)) (hargs : args.length ≤ 19:= by decide) (hok : resOK r = true:= by rfl) : AC Tryz.prog f_q105 args r :=
  AC_mk (by kernel_rfl) Tryz.func108 k_q105 hargs hok (by decide) h
def c_q106 : ACode :=
 (.seq
 (.region false [
 oo 4 (.mov (.const (.int .i64 0)))] [4])
 (.seq
 (.seq
 (.region false [
 om 6 0,
 oo 7 (.lenl (.tmp 6)),
 oo 8 (.mov (.const (.int .i64 0)))] [6])
 (.block 0
 (.loop
 (.seq
 (.region false [
 oo 9 (.bin .lss 3 (.tmp 8) (.tmp 7))] [])
 (.seq
 (.cond (.tmp 9)
 .skip
 (.exit 0))
 (.seq
 (.block 1
 (.seq
 (.region false [
 om 10 8,
 om 5 10] [9,10])
 (.seq
 (.region false [
 om 11 1,
 om 12 0,
 om 13 5,
 oo 14 (.iaddr 3 (.tmp 12) (.tmp 13)),
 oo 15 (.load true 3 (.tmp 14)),
 oo 16 (.callvm (.tmp 11) [.tmp 15])] [11,12,13,14,15])
 (.cond (.tmp 16)
 (.seq
 (.region false [
 om 17 5,
 om 4 17] [0,1,5,7,8,16,17])
 .ret)
 .skip))) [5,16])
 (.region false [
 oo 18 (.bin .add 3 (.tmp 8) (.const (.int .i64 1))),
 om 8 18] [18])))) [] []) [0,1,7,8,9]))
 (.seq
 (.region false [
 oo 4 (.mov (.const (.int .i64 (-1))))] [])
 .ret)))
abbrev v_q106 : List RV:= [.tmp 4]
abbrev f_q106 : FuncId:= 109
theorem k_q106 : closedOf Tryz.prog Tryz.f109 = (false,some true,some v_q106,some c_q106.plain,19):= by kernel_rfl
theorem ac_q106 {args : List AV} {r : AV} (h : aw Tryz.prog c_q106 (env0 args) (endQ v_q106 r)) (hargs : args.length ≤ 19:= by decide) (hok : resOK r = true:= by rfl) : AC Tryz.prog f_q106 args r :=
  AC_mk (by kernel_rfl) Tryz.func109 k_q106 hargs hok (by decide) h
def c_q107 : ACode :=
 (.seq
 (.region false [
 oo 2 (.alloc [.lit (.int .u8 0),.lit (.int .u8 0),.lit (.int .u8 0),.lit (.int .u8 0)])] [])
 (.seq
 (.region false [
 oo 3 (.alloc [.lit (.int .u8 0),.lit (.int .u8 0),.lit (.int .u8 0),.lit (.int .u8 0)])] [])
 (.seq
 (.seq
 (.region false [
 oo 5 (.mov (.const (.int .i64 0)))] [])
 (.block 0
 (.loop
 (.seq
 (.region false [
 oo 6 (.bin .lss 3 (.tmp 5) (.const (.int .i64 4)))] [])
 (.seq
 (.cond (.tmp 6)
 .skip
 (.exit 0))
 (.seq
 (.block 1
 (.seq
 (.region false [
 om 7 5,
 om 4 7] [6,7])
 (.region false [
 om 8 4,
 om 9 0,
 om 10 4,
 oo 11 (.bin .sub 3 (.const (.int .i64 3)) (.tmp 10)),
 oo 12 (.bin .mul 3 (.const (.int .i64 8)) (.tmp 11)),
 oo 13 (.bin .shr 37 (.tmp 9) (.tmp 12)),
 oo 14 (.cint .u8 (.tmp 13)),
 oo 15 (.iadra 4 1 (.tmp 3) (.tmp 8)),
 ⟨none,.store 1 (.tmp 15) (.tmp 14),none⟩] [4,8,9,10,11,12,13,14,15])) [])
 (.region false [
 oo 16 (.bin .add 3 (.tmp 5) (.const (.int .i64 1))),
 om 5 16] [16])))) [] []) [0,5,6]))
 (.seq
 (.region false [
 oo 17 (.load true 4 (.tmp 3)),
 ⟨none,.store 4 (.tmp 2) (.tmp 17),none⟩] [3,17])
 .ret))))
abbrev v_q107 : List RV:= [.cell true 4 2]
abbrev f_q107 : FuncId:= 110
theorem k_q107 : closedOf Tryz.prog Tryz.f110 = (false,some true,some v_q107,some c_q107.plain,18):= by kernel_rfl
theorem ac_q107 {args : List AV} {r : AV} (h : aw Tryz.prog c_q107 (env0 args) (endQ v_q107 r)) (hargs : args.length ≤ 18:= by decide) (hok : resOK r = true:= by rfl) : AC Tryz.prog f_q107 args r :=
  AC_mk (by kernel_rfl) Tryz.func110 k_q107 hargs hok (by decide) h
def c_q108 : ACode :=
 (.seq
 (.region false [
 oo 4 (.mov (.const (.int .i64 0)))] [4])
 (.seq
 (.seq
 (.region false [
 om 6 0,
 oo 7 (.lenl (.tmp 6)),
 oo 8 (.mov (.const (.int .i64 0)))] [6])
 (.block 0
 (.loop
 (.seq
 (.region false [
 oo 9 (.bin .lss 3 (.tmp 8) (.tmp 7))] [])
 (.seq
 (.cond (.tmp 9)
 .skip
 (.exit 0))
 (.seq
 (.block 1
 (.seq
 (.region false [
 om 10 8,
 om 5 10] [9,10])
 (.seq
 (.region false [
 om 11 1,
 om 12 0,
 om 13 5,
 oo 14 (.iaddr 3 (.tmp 12) (.tmp 13)),
 oo 15 (.load true 3 (.tmp 14)),
 oo 16 (.callvm (.tmp 11) [.tmp 15])] [11,12,13,14,15])
 (.cond (.tmp 16)
 (.seq
 (.region false [
 om 17 5,
 om 4 17] [0,1,5,7,8,16,17])
 .ret)
 .skip))) [5,16])
 (.region false [
 oo 18 (.bin .add 3 (.tmp 8) (.const (.int .i64 1))),
 om 8 18] [18])))) [] []) [0,1,7,8,9]))
 (.seq
 (.region false [
 oo 4 (.mov (.const (.int .i64 (-1))))] [])
 .ret)))
abbrev v_q108 : List RV:= [.tmp 4]
abbrev f_q108 : FuncId:= 111
theorem k_q108 : closedOf Tryz.prog Tryz.f111 = (false,some true,some v_q108,some c_q108.plain,19):= by kernel_rfl
theorem ac_q108 {args : List AV} {r : AV} (h : aw Tryz.prog c_q108 (env0 args) (endQ v_q108 r)) (hargs : args.length ≤ 19:= by decide) (hok : resOK r = true:= by rfl) : AC Tryz.prog f_q108 args r :=
  AC_mk (by kernel_rfl) Tryz.func111 k_q108 hargs hok (by decide) h
def c_q109 : ACode :=
 (.seq
 (.region false [
 oo 4 (.mov (.const (.int .i64 0)))] [4])
 (.seq
 (.seq
 (.region false [
 om 6 0,
 oo 7 (.lenl (.tmp 6)),
 oo 8 (.mov (.const (.int .i64 0)))] [6])
 (.block 0
 (.loop
 (.seq
 (.region false [
 oo 9 (.bin .lss 3 (.tmp 8) (.tmp 7))] [])
 (.seq
 (.cond (.tmp 9)
 .skip
 (.exit 0))
 (.seq
 (.block 1
 (.seq
 (.region false [
 om 10 8,
 om 5 10] [9,10])
 (.seq
 (.region false [
 om 11 1,
 om 12 0,
 om 13 5,
 oo 14 (.iaddr 1 (.tmp 12) (.tmp 13)),
 oo 15 (.load false 1 (.tmp 14)),
 oo 16 (.callvm (.tmp 11) [.tmp 15])] [11,12,13,14,15])
 (.cond (.tmp 16)
 (.seq
 (.region false [
 om 17 5,
 om 4 17] [0,1,5,7,8,16,17])
 .ret)
 .skip))) [5,16])
 (.region false [
 oo 18 (.bin .add 3 (.tmp 8) (.const (.int .i64 1))),
 om 8 18] [18])))) [] []) [0,1,7,8,9]))
 (.seq
 (.region false [
 oo 4 (.mov (.const (.int .i64 (-1))))] [])
 .ret)))
abbrev v_q109 : List RV:= [.tmp 4]
abbrev f_q109 : FuncId:= 112
theorem k_q109 : closedOf Tryz.prog Tryz.f112 = (false,some true,some v_q109,some c_q109.plain,19):= by kernel_rfl
theorem ac_q109 {args : List AV} {r : AV} (h : aw Tryz.prog c_q109 (env0 args) (endQ v_q109 r)) (hargs : args.length ≤ 19:= by decide) (hok : resOK r = true:= by rfl) : AC Tryz.prog f_q109 args r :=
  AC_mk (by kernel_rfl) Tryz.func112 k_q109 hargs hok (by decide) h
def c_q110 : ACode :=
 (.seq
 (.region false [
 oo 2 (.mov (.const (.slice none 0 0)))] [2])
 (.seq
 (.region false [
 om 3 0,
 oo 4 (.callm 125 [.const (.slice none 0 0),.tmp 3]),
 om 2 4] [0,3,4])
 .ret))
abbrev v_q110 : List RV:= [.tmp 2]
abbrev f_q110 : FuncId:= 113
theorem k_q110 : closedOf Tryz.prog Tryz.f113 = (false,some true,some v_q110,some c_q110.plain,5):= by kernel_rfl
theorem ac_q110 {args : List AV} {r : AV} (h : aw Tryz.prog c_q110 (env0 args) (endQ v_q110 r)) (hargs : args.length ≤ 5:= by decide) (hok : resOK r = true:= by rfl) : AC Tryz.prog f_q110 args r :=
  AC_mk (by kernel_rfl) Tryz.func113 k_q110 hargs hok (by decide) h
abbrev f_q111 : FuncId:= 114
def c_q112 : ACode :=
 (.seq
 (.region false [
 om 10 1,
 om 8 10] [1,10])
 (.block 0
 (.loop
 (.block 1
 (.seq
 (.region false [
 om 11 8,
 oo 12 (.bin .mul 3 (.const (.int .i64 2)) (.tmp 11)),
 oo 13 (.bin .add 3 (.tmp 12) (.const (.int .i64 1))),
 om 9 13] [11,12,13])
 (.seq
 (.seq
 (.region false [
 om 14 9,
 om 15 2,
 oo 16 (.bin .geq 3 (.tmp 14) (.tmp 15))] [14,15])
 (.cond (.tmp 16)
 (.exit 0)
 .skip))
 (.seq
 (.seq
 (.region true [
 om 17 9,
 oo 18 (.bin .add 3 (.tmp 17) (.const (.int .i64 1))),
 om 19 2,
 oo 20 (.bin .lss 3 (.tmp 18) (.tmp 19)),
 om 21 20,
 og 22 (.mov (.tmp 0)) 21 true,
 og 23 (.mov (.tmp 3)) 21 true,
 og 24 (.mov (.tmp 9)) 21 true,
 og 25 (.bin .add 3 (.tmp 23) (.tmp 24)) 21 true,
 og 26 (.iaddr 1 (.tmp 22) (.tmp 25)) 21 true,
 og 27 (.load false 1 (.tmp 26)) 21 true,
 og 28 (.mov (.tmp 0)) 21 true,
 og 29 (.mov (.tmp 3)) 21 true,
 og 30 (.mov (.tmp 9)) 21 true,
 og 31 (.bin .add 3 (.tmp 29) (.tmp 30)) 21 true,
 og 32 (.bin .add 3 (.tmp 31) (.const (.int .i64 1))) 21 true,
 og 33 (.iaddr 1 (.tmp 28) (.tmp 32)) 21 true,
 og 34 (.load false 1 (.tmp 33)) 21 true,
 og 35 (.call 93 [.tmp 27,.tmp 34]) 21 true,
 oo 36 (.pick (.tmp 21) (.tmp 35) (.const (.bool false)))] [16,17,18,19,20,21,22,23,24,25,26,27,28,29,30,31,32,33,34,35])
 (.cond (.tmp 36)
 (.region false [
 om 37 9,
 oo 38 (.bin .add 3 (.tmp 37) (.const (.int .i64 1))),
 om 9 38] [36,37,38])
 .skip))
 (.seq
 (.seq
 (.region true [
 om 39 0,
 om 40 3,
 om 41 8,
 oo 42 (.bin .add 3 (.tmp 40) (.tmp 41)),
 oo 43 (.iaddr 1 (.tmp 39) (.tmp 42)),
 oo 44 (.load false 1 (.tmp 43)),
 om 45 0,
 om 46 3,
 om 47 9,
 oo 48 (.bin .add 3 (.tmp 46) (.tmp 47)),
 oo 49 (.iaddr 1 (.tmp 45) (.tmp 48)),
 oo 50 (.load false 1 (.tmp 49)),
 oo 51 (.call 93 [.tmp 44,.tmp 50]),
 oo 52 (.un .not (.tmp 51))] [36,39,40,41,42,43,44,45,46,47,48,49,50,51])
 (.cond (.tmp 52)
 .ret
 .skip))
 (.seq
 (.region true [
 om 53 0,
 om 54 3,
 om 55 8,
 oo 56 (.bin .add 3 (.tmp 54) (.tmp 55)),
 om 57 0,
 om 58 3,
 om 59 9,
 oo 60 (.bin .add 3 (.tmp 58) (.tmp 59)),
 om 61 0,
 om 62 3,
 om 63 9,
 oo 64 (.bin .add 3 (.tmp 62) (.tmp 63)),
 oo 65 (.iaddr 1 (.tmp 61) (.tmp 64)),
 oo 66 (.load false 1 (.tmp 65)),
 om 67 0,
 om 68 3,
 om 69 8,
 oo 70 (.bin .add 3 (.tmp 68) (.tmp 69)),
 oo 71 (.iaddr 1 (.tmp 67) (.tmp 70)),
 oo 72 (.load false 1 (.tmp 71)),
 oo 73 (.iaddr 1 (.tmp 53) (.tmp 56)),
 ⟨none,.store 1 (.tmp 73) (.tmp 66),none⟩,
 oo 74 (.iaddr 1 (.tmp 57) (.tmp 60)),
 ⟨none,.store 1 (.tmp 74) (.tmp 72),none⟩] [8,52,53,54,55,56,57,58,59,60,61,62,63,64,65,66,67,68,69,70,71,72,73,74])
 (.region false [
 om 75 9,
 om 8 75] [9,75])))))) []) [] []) [0,2,3,8,9,16]))
abbrev v_q112 : List RV:= []
abbrev f_q112 : FuncId:= 115
theorem k_q112 : closedOf Tryz.prog Tryz.f115 = (false,some true,some v_q112,some c_q112.plain,76):= by kernel_rfl
theorem am_q112 {args : List AV} {c0 c1 : List (Nat × List AV)} {r : AV} (h : aw Tryz.prog c_q112 (env0M args c0) (endM v_q112 r (c0.map (·.1)) c1)) (hc0 : ∀ q ∈ c0,100000 ≤ q.1) (hargs : args.length ≤ 76:= by decide) (hok : resOK r = true:= by rfl) : AM Tryz.prog f_q112 args c0 r c1 :=
  AM_mk (by kernel_rfl) Tryz.func115 k_q112 hargs hok (by decide) hc0 h
def c_q113 : ACode :=
 (.seq
 (.region false [
 oo 2 (.mov (.const (.int .u64 0)))] [2])
 (.seq
 (.region false [
 om 3 0,
 oo 4 (.cint .u64 (.tmp 3)),
 oo 5 (.callm 54 [.tmp 4]),
 oo 6 (.bin .shl 49 (.const (.int .u64 1)) (.tmp 5)),
 om 2 6] [0,3,4,5,6])
 .ret))
abbrev v_q113 : List RV:= [.tmp 2]
abbrev f_q113 : FuncId:= 116
theorem k_q113 : closedOf Tryz.prog Tryz.f116 = (false,some true,some v_q113,some c_q113.plain,7):= by kernel_rfl
theorem ac_q113 {args : List AV} {r : AV} (h : aw Tryz.prog c_q113 (env0 args) (endQ v_q113 r)) (hargs : args.length ≤ 7:= by decide) (hok : resOK r = true:= by rfl) : AC Tryz.prog f_q113 args r :=
  AC_mk (by kernel_rfl) Tryz.func116 k_q113 hargs hok (by decide) h
def c_q114 : ACode :=
 (.seq
 (.region false [
 oo 2 (.mov (.const (.int .u64 0)))] [2])
 (.seq
 (.region true [
 om 3 0,
 oo 4 (.nilchk (.tmp 3)),
 oo 5 (.load false 1 (.tmp 4)),
 om 6 0,
 oo 7 (.nilchk (.tmp 6)),
 oo 8 (.load false 1 (.tmp 7)),
 oo 9 (.bin .shl 169 (.tmp 8) (.const (.int .u64 13))),
 oo 10 (.bin .xor 169 (.tmp 5) (.tmp 9)),
 oo 11 (.nilchk (.tmp 3)),
 ⟨none,.store 1 (.tmp 11) (.tmp 10),none⟩] [3,4,5,6,7,8,9,10,11])
 (.seq
 (.region true [
 om 12 0,
 oo 13 (.nilchk (.tmp 12)),
 oo 14 (.load false 1 (.tmp 13)),
 om 15 0,
 oo 16 (.nilchk (.tmp 15)),
 oo 17 (.load false 1 (.tmp 16)),
 oo 18 (.bin .shr 169 (.tmp 17) (.const (.int .u64 7))),
 oo 19 (.bin .xor 169 (.tmp 14) (.tmp 18)),
 oo 20 (.nilchk (.tmp 12)),
 ⟨none,.store 1 (.tmp 20) (.tmp 19),none⟩] [12,13,14,15,16,17,18,19,20])
 (.seq
 (.region true [
 om 21 0,
 oo 22 (.nilchk (.tmp 21)),
 oo 23 (.load false 1 (.tmp 22)),
 om 24 0,
 oo 25 (.nilchk (.tmp 24)),
 oo 26 (.load false 1 (.tmp 25)),
 oo 27 (.bin .shl 169 (.tmp 26) (.const (.int .u64 17))),
 oo 28 (.bin .xor 169 (.tmp 23) (.tmp 27)),
 oo 29 (.nilchk (.tmp 21)),
 ⟨none,.store 1 (.tmp 29) (.tmp 28),none⟩] [21,22,23,24,25,26,27,28,29])
 (.seq
 (.region false [
 om 30 0,
 oo 31 (.nilchk (.tmp 30)),
 oo 32 (.load false 1 (.tmp 31)),
 om 2 32] [0,30,31,32])
 .ret)))))
abbrev v_q114 : List RV:= [.tmp 2]
abbrev f_q114 : FuncId:= 117
theorem k_q114 : closedOf Tryz.prog Tryz.f117 = (false,some true,some v_q114,some c_q114.plain,33):= by kernel_rfl
theorem am_q114 {args : List AV} {c0 c1 : List (Nat × List AV)} {r : AV} (h : aw Tryz.prog c_q114 (env0M args c0) (endM v_q114 r (c0.map (·.1)) c1)) (hc0 : ∀ q ∈ c0,100000 ≤ q.1) (hargs : args.length ≤ 33:= by decide) (hok : resOK r = true:= by rfl) : AM Tryz.prog f_q114 args c0 r c1 :=
  AM_mk (by kernel_rfl) Tryz.func117 k_q114 hargs hok (by decide) hc0 h
def c_q115 : ACode :=
 (.seq
 (.region false [
 oo 6 (.mov (.const (.int .i64 0)))] [6])
 (.seq
 (.region false [
 om 7 0,
 om 8 1,
 oo 9 (.bin .sub 3 (.tmp 8) (.const (.int .i64 1))),
 om 10 1,
 om 11 1,
 oo 12 (.bin .add 3 (.tmp 11) (.const (.int .i64 1))),
 om 13 2,
 oo 14 (.callm 119 [.tmp 7,.tmp 9,.tmp 10,.tmp 12,.tmp 13]),
 om 6 14] [0,1,2,7,8,9,10,11,12,13,14])
 .ret))
abbrev v_q115 : List RV:= [.tmp 6]
abbrev f_q115 : FuncId:= 118
theorem k_q115 : closedOf Tryz.prog Tryz.f118 = (false,some true,some v_q115,some c_q115.plain,15):= by kernel_rfl
theorem am_q115 {args : List AV} {c0 c1 : List (Nat × List AV)} {r : AV} (h : aw Tryz.prog c_q115 (env0M args c0) (endM v_q115 r (c0.map (·.1)) c1)) (hc0 : ∀ q ∈ c0,100000 ≤ q.1) (hargs : args.length ≤ 15:= by decide) (hok : resOK r = true:= by rfl) : AM Tryz.prog f_q115 args c0 r c1 :=
  AM_mk (by kernel_rfl) Tryz.func118 k_q115 hargs hok (by decide) hc0 h
def c_q116 : ACode :=
 (.seq
 (.region false [
 oo 10 (.mov (.const (.int .i64 0)))] [10])
 (.seq
 (.region false [
 om 12 0,
 om 13 1,
 om 14 2,
 om 15 4,
 oo 16 (.callm 126 [.tmp 12,.tmp 13,.tmp 14,.tmp 15]),
 om 11 16,
 oo 17 (.ext (.tmp 11) 0),
 oo 18 (.ext (.tmp 11) 1),
 om 1 17,
 om 2 18] [11,12,13,14,15,16,17,18])
 (.seq
 (.region false [
 om 20 0,
 om 21 2,
 om 22 3,
 om 23 4,
 oo 24 (.callm 126 [.tmp 20,.tmp 21,.tmp 22,.tmp 23]),
 om 19 24,
 oo 25 (.ext (.tmp 19) 0),
 oo 26 (.ext (.tmp 19) 1),
 om 2 25,
 om 3 26] [3,19,20,21,22,23,24,25,26])
 (.seq
 (.region false [
 om 28 0,
 om 29 1,
 om 30 2,
 om 31 4,
 oo 32 (.callm 126 [.tmp 28,.tmp 29,.tmp 30,.tmp 31]),
 om 27 32,
 oo 33 (.ext (.tmp 27) 0),
 oo 34 (.ext (.tmp 27) 1),
 om 1 33,
 om 2 34] [0,1,4,27,28,29,30,31,32,33,34])
 (.seq
 (.region false [
 om 35 2,
 om 10 35] [2,35])
 .ret)))))
abbrev v_q116 : List RV:= [.tmp 10]
abbrev f_q116 : FuncId:= 119
theorem k_q116 : closedOf Tryz.prog Tryz.f119 = (false,some true,some v_q116,some c_q116.plain,36):= by kernel_rfl
theorem am_q116 {args : List AV} {c0 c1 : List (Nat × List AV)} {r : AV} (h : aw Tryz.prog c_q116 (env0M args c0) (endM v_q116 r (c0.map (·.1)) c1)) (hc0 : ∀ q ∈ c0,100000 ≤ q.1) (hargs : args.length ≤ 36:= by decide) (hok : resOK r = true:= by rfl) : AM Tryz.prog f_q116 args c0 r c1 :=
  AM_mk (by kernel_rfl) Tryz.func119 k_q116 hargs hok (by decide) hc0 h
def c_q117 : ACode :=
 (.seq
 (.region false [
 oo 2 (.mov (.const (.bool false)))] [2])
 (.seq
 (.region false [
 om 3 0,
 om 4 0,
 oo 5 (.bin .neq 37 (.tmp 3) (.tmp 4)),
 om 2 5] [0,3,4,5])
 .ret))
abbrev v_q117 : List RV:= [.tmp 2]
abbrev f_q117 : FuncId:= 120
theorem k_q117 : closedOf Tryz.prog Tryz.f120 = (false,some true,some v_q117,some c_q117.plain,6):= by kernel_rfl
theorem ac_q117 {args : List AV} {r : AV} (h : aw Tryz.prog c_q117 (env0 args) (endQ v_q117 r)) (hargs : args.length ≤ 6:= by decide) (hok : resOK r = true:= by rfl) : AC Tryz.prog f_q117 args r :=
  AC_mk (by kernel_rfl) Tryz.func120 k_q117 hargs hok (by decide) h
def c_q122 : ACode :=
 (.seq
 (.region false [
 oo 8 (.mov (.const (.int .i64 0))),
 oo 9 (.mov (.const (.int .i64 0)))] [8,9])
 (.seq
 (.seq
 (.region true [
 om 10 0,
 om 11 2,
 oo 12 (.iaddr 1 (.tmp 10) (.tmp 11)),
 oo 13 (.load false 1 (.tmp 12)),
 om 14 0,
 om 15 1,
 oo 16 (.iaddr 1 (.tmp 14) (.tmp 15)),
 oo 17 (.load false 1 (.tmp 16)),
 oo 18 (.call 93 [.tmp 13,.tmp 17])] [0,10,11,12,13,14,15,16,17])
 (.cond (.tmp 18)
 (.seq
 (.region false [
 om 19 3,
 oo 20 (.nilchk (.tmp 19)),
 oo 21 (.load false 1 (.tmp 20)),
 oo 22 (.bin .add 3 (.tmp 21) (.const (.int .i64 1))),
 oo 23 (.nilchk (.tmp 19)),
 ⟨none,.store 1 (.tmp 23) (.tmp 22),none⟩] [3,18,19,20,21,22,23])
 (.seq
 (.region false [
 om 24 2,
 om 25 1,
 om 8 24,
 om 9 25] [1,2,24,25])
 .ret))
 .skip))
 (.seq
 (.region false [
 om 26 1,
 om 27 2,
 om 8 26,
 om 9 27] [1,2,3,18,26,27])
 .ret)))
abbrev v_q122 : List RV:= [.tmp 8,.tmp 9]
abbrev f_q122 : FuncId:= 126
theorem k_q122 : closedOf Tryz.prog Tryz.f126 = (false,some true,some v_q122,some c_q122.plain,28):= by kernel_rfl
theorem am_q122 {args : List AV} {c0 c1 : List (Nat × List AV)} {r : AV} (h : aw Tryz.prog c_q122 (env0M args c0) (endM v_q122 r (c0.map (·.1)) c1)) (hc0 : ∀ q ∈ c0,100000 ≤ q.1) (hargs : args.length ≤ 28:= by decide) (hok : resOK r = true:= by rfl) : AM Tryz.prog f_q122 args c0 r c1 :=
  AM_mk (by kernel_rfl) Tryz.func126 k_q122 hargs hok (by decide) hc0 h
end Go.Proofs.YtjceingdmfogeaaGreatDoor.VL
end

attribute [go_sem_proc] Nat.reduceAdd Nat.reduceLT Nat.reduceEqDiff Nat.reduceBEq Nat.reduceLeDiff Nat.reduceSub Int.reduceToNat reduceCtorEq
attribute [go_sem_proc ↓] reduceIte
section
set_option maxHeartbeats 4000000
namespace Go.Proofs.YtjceingdmfogeaaGreatDoor.VL
open Go.RowKit Go.Proofs
def avU (a : Nat) : AV:= .lit (.int .u32 (a : Nat))
def avB (b : Nat) : AV:= .lit (.int .u8 (b : Nat))
def avPfx (a : Nat) (b : Int) : AV:= .agg [avU a,.lit (.int .i64 b)]
theorem nat_beq0 (n : Nat) : ((n : Int) == 0) = decide (n = 0):= by
 rw [Bool.eq_iff_iff]
 simp only [beq_iff_eq,decide_eq_true_eq]
 omega
theorem nat_beq (n m : Nat) : ((n : Int) == (m : Int)) = decide (n = m):= by
 rw [Bool.eq_iff_iff]
 simp only [beq_iff_eq,decide_eq_true_eq]
 omega
theorem c0 : ((0 : Nat) : Int) = 0:= rfl
theorem c1 : ((1 : Nat) : Int) = 1:= rfl
theorem c2 : ((2 : Nat) : Int) = 2:= rfl
theorem c3 : ((3 : Nat) : Int) = 3:= rfl
theorem c4 : ((4 : Nat) : Int) = 4:= rfl
theorem v0 : IntKind.i64.wrap 0 = 0:= by decide
theorem v1 : IntKind.i64.wrap 1 = 1:= by decide
theorem v2 : IntKind.i64.wrap 2 = 2:= by decide
theorem v3 : IntKind.i64.wrap 3 = 3:= by decide
theorem v4 : IntKind.i64.wrap 4 = 4:= by decide
theorem v8 : IntKind.i64.wrap 8 = 8:= by decide
theorem v16 : IntKind.i64.wrap 16 = 16:= by decide
theorem v24 : IntKind.i64.wrap 24 = 24:= by decide
def avStr (s : ByteArray) : AV:= .lit (.string s)
def cl32 (b : Int) : Nat:= if b < 0 then 0 else if 32 < b then 32 else b.toNat
theorem cl32_le (b : Int) : cl32 b ≤ 32:= by unfold cl32; split <;> (try split) <;> omega
theorem cl32_eq (b : Int) (h0 : 0 ≤ b) (h1 : b ≤ 32) : cl32 b = b.toNat:= by unfold cl32; rw [if_neg (by omega),if_neg (by omega)]
theorem C_Mask (b : Int) : AC Tryz.prog f_q54 [.lit (.int .i64 b)] (avU (mskN (cl32 b))):= by
 refine ac_q54 ?_ (Nat.le_add_left 1 9)
 have hc:= cl32_le b
 have e : (if (32 : Int) < (if b < 0 then 0 else b) then (32 : Int) else (if b < 0 then 0 else b)) = ((cl32 b : Nat) : Int):= by
  unfold cl32
  split <;> split <;> (try split) <;> omega
 have e2:= avBin_shr 37 .u32 .i64 4294967295 ((cl32 b : Nat) : Int) (by omega) (by simp [IntKind.bits]; omega)
 simp only [go_sem,c_q54,avMm_max2,avMm_min2,e,e2,avU]
 have hp:= pow32_le (32 - cl32 b) (by omega)
 have e3 : (4294967295 : Int) / 2 ^ (((cl32 b : Nat) : Int).toNat) = ((2 ^ (32 - cl32 b) - 1 : Nat) : Int):= by
  rw [Int.toNat_natCast]
  have h1 : 2 ^ 32 = 2 ^ (cl32 b) * 2 ^ (32 - cl32 b):= by rw [← Nat.pow_add]; congr 1; omega
  have h2 : (4294967295 : Nat) / 2 ^ (cl32 b) = 2 ^ (32 - cl32 b) - 1:= by
   have hq:= Nat.one_le_two_pow (n:= cl32 b)
   rw [Nat.div_eq_iff (by omega)]
   constructor
   ·have : (2 ^ (32 - cl32 b) - 1) * 2 ^ (cl32 b) = 2 ^ 32 - 2 ^ (cl32 b):= by rw [Nat.sub_mul,Nat.one_mul,Nat.mul_comm,← h1]
    rw [this]
    have : (2 : Nat) ^ 32 = 4294967296:= rfl
    omega
   ·have : (2 ^ (32 - cl32 b) - 1) * 2 ^ (cl32 b) = 2 ^ 32 - 2 ^ (cl32 b):= by rw [Nat.sub_mul,Nat.one_mul,Nat.mul_comm,← h1]
    have : (2 : Nat) ^ 32 = 4294967296:= rfl
    have : 2 ^ (cl32 b) ≤ 2 ^ 32:= Nat.pow_le_pow_right (by decide) hc
    omega
  have h3 : ((4294967295 : Nat) : Int) / ((2 ^ (cl32 b) : Nat) : Int) = ((4294967295 / 2 ^ (cl32 b) : Nat) : Int):= (Int.natCast_ediv _ _).symm
  rw [h2] at h3
  rw [← h3]
  simp
 have e4 : bits .xor .u32 (if IntKind.u32.signed = true then -1 else IntKind.u32.max) ((2 ^ (32 - cl32 b) - 1 : Nat) : Int) = ((mskN (cl32 b) : Nat) : Int):= by
  have : (if IntKind.u32.signed = true then (-1 : Int) else IntKind.u32.max) = ((4294967295 : Nat) : Int):= by decide
  rw [this,u32_xor_nat _ _ (by decide) (by omega),xor_max _ (by omega)]
  unfold mskN
  congr 1
  omega
 rw [e3,e4]
def validN (a : Nat) (b : Int) : Bool:= decide (0 ≤ b) && (decide (b ≤ 32) && decide (a % 2 ^ (32 - b.toNat) = 0))
theorem C_Valid (a : Nat) (b : Int) (ha : a < 4294967296) : AC Tryz.prog f_q53 [avPfx a b] (.lit (.bool (validN a b))):= by
 refine ac_q53 ?_ (Nat.le_add_left 1 19)
 by_cases h0 : 0 ≤ b
 ·by_cases h1 : b ≤ 32
  ·have e0 : decide (0 ≤ b) = true:= by simpa using h0
   have e1 : decide (b ≤ 32) = true:= by simpa using h1
   simp only [go_sem,c_q53,avPfx,avU,e0,e1]
   refine callX_of (C_Mask b) ?_
   simp only [go_sem,c_q53,avU,e0,e1,u32_nmsk a _ ha]
   rw [cl32_eq b h0 h1,nat_beq0]
   simp [validN,e0,e1]
  ·have e0 : decide (0 ≤ b) = true:= by simpa using h0
   have e1 : decide (b ≤ 32) = false:= by simpa using h1
   simp only [go_sem,c_q53,avPfx,avU,e0,e1]
   simp [validN,e0,e1]
 ·have e0 : decide (0 ≤ b) = false:= by simpa using h0
  simp only [go_sem,c_q53,avPfx,avU,e0]
  simp [validN,e0]
def inN (p : Nat) (b : Int) (x : Nat) : Bool:= validN p b && decide (x - x % 2 ^ (32 - b.toNat) = p)
theorem validN_bounds {a : Nat} {b : Int} (h : validN a b = true) : 0 ≤ b ∧ b ≤ 32:= by
 simp only [validN,Bool.and_eq_true,decide_eq_true_eq] at h
 exact ⟨h.1,h.2.1⟩
theorem C_In (p : Nat) (b : Int) (x : Nat) (hp : p < 4294967296) (hx : x < 4294967296) : AC Tryz.prog f_q24 [avPfx p b,avU x] (.lit (.bool (inN p b x))):= by
 refine ac_q24 ?_ (Nat.le_add_left 2 15)
 cases hv : validN p b with
 | false =>
  simp only [go_sem,c_q24,avPfx,avU]
  refine callX_of (C_Valid p b hp) ?_
  simp only [go_sem,hv]
  simp [inN,hv]
 | true =>
  obtain ⟨h0,h1⟩:= validN_bounds hv
  simp only [go_sem,c_q24,avPfx,avU]
  refine callX_of (C_Valid p b hp) ?_
  simp only [go_sem,hv]
  refine callX_of (C_Mask b) ?_
  simp only [go_sem,avU,u32_msk x _ hx]
  rw [cl32_eq b h0 h1,nat_beq]
  simp [inN,hv]
def withinN (p : Nat) (b : Int) (q : Nat) (c : Int) : Bool:= validN p b && (decide (c ≤ b) && inN q c p)
theorem C_Within (p : Nat) (b : Int) (q : Nat) (c : Int) (hp : p < 4294967296) (hq : q < 4294967296) : AC Tryz.prog f_q67 [avPfx p b,avPfx q c] (.lit (.bool (withinN p b q c))):= by
 refine ac_q67 ?_ (Nat.le_add_left 2 18)
 cases hv : validN p b with
 | false =>
  simp only [go_sem,c_q67,avPfx,avU]
  refine callX_of (C_Valid p b hp) ?_
  simp only [go_sem,hv]
  simp [withinN,hv]
 | true =>
  cases hc : decide (c ≤ b) with
  | false =>
   simp only [go_sem,c_q67,avPfx,avU]
   refine callX_of (C_Valid p b hp) ?_
   simp only [go_sem,hv,hc]
   simp [withinN,hv,hc]
  | true =>
   simp only [go_sem,c_q67,avPfx,avU]
   refine callX_of (C_Valid p b hp) ?_
   simp only [go_sem,hv,hc]
   refine callX_of (C_In q c p hq hp) ?_
   simp only [go_sem,hv,hc]
   simp [withinN,hv,hc]
def bytN (a i : Nat) : Nat:= a / 2 ^ (8 * (3 - i)) % 256
def avBytes (b : Nat → Nat) : AV:= .agg [avB (b 0),avB (b 1),avB (b 2),avB (b 3)]
def bytesTo (a : Nat) (k : Nat) : List AV:= [avB (if 0 < k then bytN a 0 else 0),avB (if 1 < k then bytN a 1 else 0),avB (if 2 < k then bytN a 2 else 0),avB (if 3 < k then bytN a 3 else 0)]
theorem byte_wrap (a s : Nat) : IntKind.u8.wrap ((a : Int) / 2 ^ s) = ((a / 2 ^ s % 256 : Nat) : Int):= by
 rw [IntKind.wrap_u8]
 simp
theorem C_Bytes (a : Nat) (ha : a < 4294967296) : AC Tryz.prog f_q107 [avU a] (avBytes (bytN a)):= by
 refine ac_q107 ?_ (Nat.le_add_left 1 17)
 simp only [go_sem,c_q107,avU]
 refine aw_loop (fun m E => ∃ k : Nat,k + m = 4 ∧ E = mkE [(0,avU a),(2,.lp 2 0),(3,.lp 3 0),(5,.lit (.int .i64 (k : Nat)))] [(2,[.lit (.int .u8 0),.lit (.int .u8 0),.lit (.int .u8 0),.lit (.int .u8 0)]),(3,bytesTo a k)]) 4 ?_ ?_
 ·exact ⟨0,by omega,by simp only [go_sem]; rfl⟩
 ·rintro m _ ⟨k,hk,rfl⟩
  have s0:= avBin_shr 37 .u32 .i64 (a : Int)
  have w24:= s0 24 (by decide) (by decide)
  have w16:= s0 16 (by decide) (by decide)
  have w8:= s0 8 (by decide) (by decide)
  have w0:= s0 0 (by decide) (by decide)
  have b24:= byte_wrap a 24
  have b16:= byte_wrap a 16
  have b8:= byte_wrap a 8
  have b0:= byte_wrap a 0
  match k,hk with
  | 0,hk =>
   simp only [go_sem,bytesTo,avU,avB,w24,b24,c0,c1,c2,c3,c4,Int.reduceSub,Int.reduceMul,Int.reduceAdd,Int.reduceLT,Int.reduceLE,Nat.reduceMul,decide_true,decide_false,v0,v1,v2,v3,v4,v8,v16,v24]
   exact ⟨m - 1,by omega,1,by omega,rfl⟩
  | 1,hk =>
   simp only [go_sem,bytesTo,avU,avB,w16,b16,c0,c1,c2,c3,c4,Int.reduceSub,Int.reduceMul,Int.reduceAdd,Int.reduceLT,Int.reduceLE,Nat.reduceMul,decide_true,decide_false,v0,v1,v2,v3,v4,v8,v16,v24]
   exact ⟨m - 1,by omega,2,by omega,rfl⟩
  | 2,hk =>
   simp only [go_sem,bytesTo,avU,avB,w8,b8,c0,c1,c2,c3,c4,Int.reduceSub,Int.reduceMul,Int.reduceAdd,Int.reduceLT,Int.reduceLE,Nat.reduceMul,decide_true,decide_false,v0,v1,v2,v3,v4,v8,v16,v24]
   exact ⟨m - 1,by omega,3,by omega,rfl⟩
  | 3,hk =>
   simp only [go_sem,bytesTo,avU,avB,w0,b0,c0,c1,c2,c3,c4,Int.reduceSub,Int.reduceMul,Int.reduceAdd,Int.reduceLT,Int.reduceLE,Nat.reduceMul,decide_true,decide_false,v0,v1,v2,v3,v4,v8,v16,v24]
   exact ⟨m - 1,by omega,4,by omega,rfl⟩
  | 4,hk =>
   simp only [go_sem,bytesTo,avBytes,avB,c0,c1,c2,c3,c4,Int.reduceSub,Int.reduceMul,Int.reduceAdd,Int.reduceLT,Int.reduceLE,Nat.reduceMul,decide_true,decide_false,v0,v1,v2,v3,v4,v8,v16,v24]
  | k + 5,hk => omega
def ofB (b : Nat → Nat) : Nat → Nat
 | 0 => 0
 | k + 1 => ofB b k * 256 + b k
theorem ofB_lt (b : Nat → Nat) : ∀ k,(∀ i,i < k → b i < 256) → ofB b k < 256 ^ k
 | 0,_ => by simp [ofB]
 | k + 1,h => by
  have h1:= ofB_lt b k fun i hi => h i (by omega)
  have h2:= h k (by omega)
  simp only [ofB,Nat.pow_succ]
  omega
theorem or_join (x b : Nat) (hx : x < 16777216) (hb : b < 256) : bits .or .u32 (IntKind.u32.wrap ((x : Int) * 2 ^ 8)) (IntKind.u32.wrap (b : Int)) = ((x * 256 + b : Nat) : Int):= by
 have e1 : IntKind.u32.wrap ((x : Int) * 2 ^ 8) = ((x * 256 : Nat) : Int):= by
  rw [IntKind.wrap_u32,show (2 : Int) ^ 8 = 256 from rfl]
  omega
 have e2 : IntKind.u32.wrap (b : Int) = ((b : Nat) : Int):= by rw [IntKind.wrap_u32]; omega
 rw [e1,e2,u32_or_nat _ _ (by omega) (by omega),nat_join 8 _ _ (by simp [Nat.mul_mod_left]) hb]
theorem C_Of (b : Nat → Nat) (hb : ∀ i,i < 4 → b i < 256) : AC Tryz.prog f_q104 [avBytes b] (avU (ofB b 4)):= by
 refine ac_q104 ?_ (Nat.le_add_left 1 16)
 simp only [go_sem,c_q104,avBytes,avB]
 refine aw_loop (fun m E => ∃ k : Nat,k + m = 4 ∧ E = mkE [(3,avU (ofB b k)),(6,avBytes b),(7,.lit (.int .i64 (k : Nat)))] [(1,[avB (b 0),avB (b 1),avB (b 2),avB (b 3)])]) 4 ?_ ?_
 ·exact ⟨0,by omega,by simp only [go_sem]; rfl⟩
 ·rintro m _ ⟨k,hk,rfl⟩
  have hs:= fun u => avBin_shl 37 .u32 .u64 u 8 (by decide) (by decide)
  match k,hk with
  | 0,hk =>
   have hj:= or_join (ofB b 0) (b 0) (Nat.lt_of_lt_of_le (ofB_lt b 0 fun i hi => hb i (by omega)) (by decide)) (hb 0 (by decide))
   simp only [go_sem,avBytes,avU,avB,hs,hj,c0,c1,c2,c3,c4,Int.reduceSub,Int.reduceMul,Int.reduceAdd,Int.reduceLT,Int.reduceLE,Nat.reduceMul,decide_true,decide_false,v0,v1,v2,v3,v4,v8,v16,v24]
   exact ⟨m - 1,by omega,1,by omega,rfl⟩
  | 1,hk =>
   have hj:= or_join (ofB b 1) (b 1) (Nat.lt_of_lt_of_le (ofB_lt b 1 fun i hi => hb i (by omega)) (by decide)) (hb 1 (by decide))
   simp only [go_sem,avBytes,avU,avB,hs,hj,c0,c1,c2,c3,c4,Int.reduceSub,Int.reduceMul,Int.reduceAdd,Int.reduceLT,Int.reduceLE,Nat.reduceMul,decide_true,decide_false,v0,v1,v2,v3,v4,v8,v16,v24]
   exact ⟨m - 1,by omega,2,by omega,rfl⟩
  | 2,hk =>
   have hj:= or_join (ofB b 2) (b 2) (Nat.lt_of_lt_of_le (ofB_lt b 2 fun i hi => hb i (by omega)) (by decide)) (hb 2 (by decide))
   simp only [go_sem,avBytes,avU,avB,hs,hj,c0,c1,c2,c3,c4,Int.reduceSub,Int.reduceMul,Int.reduceAdd,Int.reduceLT,Int.reduceLE,Nat.reduceMul,decide_true,decide_false,v0,v1,v2,v3,v4,v8,v16,v24]
   exact ⟨m - 1,by omega,3,by omega,rfl⟩
  | 3,hk =>
   have hj:= or_join (ofB b 3) (b 3) (Nat.lt_of_lt_of_le (ofB_lt b 3 fun i hi => hb i (by omega)) (by decide)) (hb 3 (by decide))
   simp only [go_sem,avBytes,avU,avB,hs,hj,c0,c1,c2,c3,c4,Int.reduceSub,Int.reduceMul,Int.reduceAdd,Int.reduceLT,Int.reduceLE,Nat.reduceMul,decide_true,decide_false,v0,v1,v2,v3,v4,v8,v16,v24]
   exact ⟨m - 1,by omega,4,by omega,rfl⟩
  | 4,hk => simp only [go_sem,avU,c0,c1,c2,c3,c4,Int.reduceSub,Int.reduceMul,Int.reduceAdd,Int.reduceLT,Int.reduceLE,Nat.reduceMul,decide_true,decide_false,v0,v1,v2,v3,v4,v8,v16,v24]
  | k + 5,hk => omega
def groupN (a : Nat) : Bool:= decide (3758096384 ≤ a) && decide (a < 4026531840)
theorem C_Group (a : Nat) (ha : a < 4294967296) : AC Tryz.prog f_q76 [avU a] (.lit (.bool (groupN a))):= by
 refine ac_q76 ?_ (Nat.le_add_left 1 _)
 simp only [go_sem,c_q76,avU]
 refine callX_of (C_Bytes a ha) ?_
 have e0 : bytN a 0 = a / 16777216:= by simp only [bytN,Nat.sub_zero,Nat.reduceMul,Nat.reducePow]; omega
 simp only [go_sem,avBytes,avB,c0,c1,c2,c3,c4,Int.reduceLT,Int.reduceLE,Nat.reduceMul,e0]
 by_cases h : 224 ≤ a / 16777216
 ·have h1 : ((224 : Int) ≤ ((a / 16777216 : Nat) : Int)) = True:= eq_true (by omega)
  have h2 : decide (3758096384 ≤ a) = true:= by simp only [decide_eq_true_eq]; omega
  have h3 : decide (((a / 16777216 : Nat) : Int) ≤ 239) = decide (a < 4026531840):= by rw [decide_eq_decide]; omega
  simp only [go_sem,h1,decide_true,c4,c0,Int.reduceLT,Int.reduceLE,Nat.reduceMul,h3,groupN,h2,Bool.true_and]
 ·have h1 : ((224 : Int) ≤ ((a / 16777216 : Nat) : Int)) = False:= eq_false (by omega)
  have h2 : decide (3758096384 ≤ a) = false:= by simp only [decide_eq_false_iff_not]; omega
  simp only [go_sem,h1,decide_false,groupN,h2,Bool.false_and]
end Go.Proofs.YtjceingdmfogeaaGreatDoor.VL
end

section
set_option maxHeartbeats 4000000
namespace Go.Proofs.YtjceingdmfogeaaGreatDoor.VL
open Go.RowKit Go.Proofs
theorem wrap_nat (n : Nat) (h : n < 9223372036854775808) : IntKind.i64.wrap (n : Int) = n:= by
 have:= (IntKind.wrap_i64 (n : Int))
 omega
theorem wrap_succ (k : Nat) (h : k + 1 < 9223372036854775808) : IntKind.i64.wrap ((k : Int) + 1) = ((k + 1 : Nat) : Int):= wrap_nat (k + 1) h
theorem C_Number (n b : Int) (hb : 0 < b) (hb' : b < 9223372036854775808) : AC Tryz.prog f_q3 [.lit (.int .i64 n),.lit (.int .i64 b)] (.lit (.int .i64 (n % b))):= by
 refine ac_q3 ?_ (Nat.le_add_left 2 13)
 have h0 : (b == 0) = false:= by simp; omega
 simp only [go_sem,c_q3,h0]
 have e0:= Int.emod_nonneg n (show b ≠ 0 by omega)
 have e1:= Int.emod_lt_of_pos n hb
 have key : n.tmod b = n % b ∧ 0 ≤ n ∨ n.tmod b = n % b ∧ n % b = 0 ∨ n.tmod b = n % b - b ∧ ¬ n % b = 0:= by
  rw [Int.tmod_eq_emod]
  by_cases h1 : 0 ≤ n
  ·simp [h1]
  ·by_cases h2 : b ∣ n
   ·have:= Int.emod_eq_zero_of_dvd h2
    simp [h2,this]
   ·have h3 : ¬ n % b = 0:= fun h => h2 (Int.dvd_of_emod_eq_zero h)
    have h4 : (b.natAbs : Int) = b:= by omega
    simp only [h1,h2,or_self,if_false,h4]
    exact .inr (.inr ⟨trivial,h3⟩)
 refine condX_of (fun h => ?_) (fun h => ?_)
 ·have h' : n.tmod b < 0:= by simpa using h
  have hw : IntKind.i64.wrap (n.tmod b + b) = n % b:= by
   rw [IntKind.wrap_i64]
   omega
  simp only [go_sem,hw]
 ·have h' : ¬ n.tmod b < 0:= by simpa using h
  have hw : n.tmod b = n % b:= by
   omega
  simp only [go_sem,hw]
end Go.Proofs.YtjceingdmfogeaaGreatDoor.VL
end

section
set_option maxHeartbeats 4000000
namespace Go.Proofs.YtjceingdmfogeaaGreatDoor.VL
open Go.RowKit Go.Proofs
theorem avIxs_l (s : ByteArray) (q : IntKind) (k : Nat) (b : UInt8) (h : s.data.toList[k]? = some b) : avIxs (.lit (.string s)) (.lit (.int q (k : Nat))) = some (.lit (.int .u8 ((b.toNat : Nat) : Int))):= by
 have hk : k < s.data.toList.length:= (List.getElem?_eq_some_iff.1 h).1
 have hk' : k < s.size:= by rw [Lib.size_eq]; exact hk
 rw [avIxs_at s q k hk']
 have e : s[k] = b:= by
  have h2:= (List.getElem?_eq_some_iff.1 h).2
  rw [← h2]
  simp [ByteArray.getElem_eq_getElem_data]
 rw [e]
def letterN (c : Nat) : Bool:= decide (97 ≤ c) && decide (c ≤ 122)
theorem C_letter (c : Nat) : AC Tryz.prog f_q101 [.lit (.int .u8 (c : Nat))] (.lit (.bool (letterN c))):= by
 refine ac_q101 ?_ (Nat.le_add_left 1 _)
 have e1 : decide ((97 : Int) ≤ (c : Int)) = decide (97 ≤ c):= by rw [decide_eq_decide]; omega
 have e2 : decide ((c : Int) ≤ 122) = decide (c ≤ 122):= by rw [decide_eq_decide]; omega
 unfold letterN
 cases h : decide (97 ≤ c)
 ·simp only [go_sem,c_q101,e1,e2,h,Bool.false_and]
 ·simp only [go_sem,c_q101,e1,e2,h,Bool.true_and]
def signN (c : Nat) : Bool:= letterN c || (c == 45 || (decide (48 ≤ c) && decide (c ≤ 57)))
def hd0 : Option UInt8 → Bool
 | some b => letterN b.toNat
 | none => false
def nameOK (l : List UInt8) : Bool:= decide (1 ≤ l.length) && (decide (l.length ≤ 12) && (hd0 l[0]? && l.all fun b => signN b.toNat))
def errN (ok : Bool) : AV:= if ok = true then .lit .nilIface else .gl 6
theorem gs1 : (6 ∈ GS) = True:= eq_true (by simp [GS])
theorem C_Name (s : ByteArray) (hs : s.size < 9223372036854775808) : AC Tryz.prog f_q61 [avStr s] (errN (nameOK s.data.toList)):= by
 refine ac_q61 ?_ (Nat.le_add_left 1 _) (by unfold errN; split <;> rfl)
 have hsz : s.size = s.data.toList.length:= Lib.size_eq s
 simp only [go_sem,c_q61,avStr]
 generalize hL : s.data.toList = l at hsz
 by_cases h1 : l.length < 1
 ·have e1 : ((s.size : Int) < 1) = True:= eq_true (by omega)
  have e : nameOK l = false:= by simp [nameOK]; omega
  simp only [go_sem,e1,decide_true,e,errN,gs1,Bool.false_eq_true]
 have e1 : ((s.size : Int) < 1) = False:= eq_false (by omega)
 by_cases h2 : 12 < l.length
 ·have e2 : ((12 : Int) < (s.size : Int)) = True:= eq_true (by omega)
  have e : nameOK l = false:= by simp [nameOK]; omega
  simp only [go_sem,e1,e2,decide_true,decide_false,e,errN,gs1,Bool.false_eq_true]
 have e2 : ((12 : Int) < (s.size : Int)) = False:= eq_false (by omega)
 obtain ⟨b0,hb0⟩ : ∃ b,l[0]? = some b:= ⟨l[0],List.getElem?_eq_getElem (by omega)⟩
 have i0:= avIxs_l s .i64 0 b0 (by rw [hL]; exact hb0)
 rw [show ((0 : Nat) : Int) = 0 from rfl] at i0
 simp only [go_sem,e1,e2,decide_true,decide_false,i0]
 refine callX_of (C_letter b0.toNat) ?_
 cases h3 : letterN b0.toNat
 ·have e : nameOK l = false:= by simp [nameOK,hd0,hb0,h3]
  simp only [go_sem,h3,e,errN,gs1,Bool.false_eq_true]
 simp only [go_sem,h3]
 have e0 : nameOK l = l.all fun b => signN b.toNat:= by
  have g1 : decide (1 ≤ l.length) = true:= by simp only [decide_eq_true_eq]; omega
  have g2 : decide (l.length ≤ 12) = true:= by simp only [decide_eq_true_eq]; omega
  simp only [nameOK,hd0,g1,g2,hb0,h3,Bool.true_and]
 rw [e0]
 refine aw_loop (fun m E => ∃ k : Nat,k + m = l.length ∧ (l.take k).all (fun b => signN b.toNat) = true ∧ E = mkE [(0,.lit (.string s)),(21,.lit (.int .i64 (s.size : Nat))),(22,.lit (.int .i64 (k : Nat)))] []) l.length ?_ ?_
 ·exact ⟨0,by omega,rfl,by simp only [go_sem]; rfl⟩
 ·rintro m _ ⟨k,hk,hall,rfl⟩
  by_cases hkl : k < l.length
  ·have f1 : ((k : Int) < (s.size : Int)) = True:= eq_true (by omega)
   obtain ⟨b,hb⟩ : ∃ b,l[k]? = some b:= ⟨l[k],List.getElem?_eq_getElem hkl⟩
   have ib:= avIxs_l s .i64 k b (by rw [hL]; exact hb)
   have w1:= wrap_succ k (by omega)
   have hstep : (l.take (k + 1)).all (fun b => signN b.toNat) = signN b.toNat:= by
    rw [List.take_add_one,hb,List.all_append,hall]
    simp
   have hbad : signN b.toNat = false → (l.all fun b => signN b.toNat) = false:= fun h => by
    rw [List.all_eq_false]
    exact ⟨b,List.mem_of_getElem? hb,by simp [h]⟩
   simp only [go_sem,f1,decide_true,ib]
   refine callX_of (C_letter b.toNat) ?_
   cases hl : letterN b.toNat
   ·by_cases h45 : b.toNat = 45
    ·have e45 : (((b.toNat : Nat) : Int) != 45) = false:= by rw [h45]; rfl
     have hs1 : signN b.toNat = true:= by simp [signN,h45]
     simp only [go_sem,hl,e45,w1]
     exact ⟨m - 1,by omega,k + 1,by omega,by rw [hstep,hs1],rfl⟩
    ·have e45 : (((b.toNat : Nat) : Int) != 45) = true:= by simp only [bne_iff_ne,ne_eq]; omega
     by_cases h48 : b.toNat < 48
     ·have e48 : (((b.toNat : Nat) : Int) < 48) = True:= eq_true (by omega)
      have hs1 : signN b.toNat = false:= by simp [signN,hl,h45]; omega
      simp only [go_sem,hl,e45,e48,decide_true,hbad hs1,errN,gs1,Bool.false_eq_true]
     ·have e48 : (((b.toNat : Nat) : Int) < 48) = False:= eq_false (by omega)
      by_cases h57 : 57 < b.toNat
      ·have e57 : ((57 : Int) < ((b.toNat : Nat) : Int)) = True:= eq_true (by omega)
       have hs1 : signN b.toNat = false:= by simp [signN,hl,h45]; omega
       simp only [go_sem,hl,e45,e48,e57,decide_true,decide_false,hbad hs1,errN,gs1,Bool.false_eq_true]
      ·have e57 : ((57 : Int) < ((b.toNat : Nat) : Int)) = False:= eq_false (by omega)
       have hs1 : signN b.toNat = true:= by simp [signN]; omega
       simp only [go_sem,hl,e45,e48,e57,decide_false,w1]
       exact ⟨m - 1,by omega,k + 1,by omega,by rw [hstep,hs1],rfl⟩
   ·have hs1 : signN b.toNat = true:= by simp [signN,hl]
    simp only [go_sem,hl,w1]
    exact ⟨m - 1,by omega,k + 1,by omega,by rw [hstep,hs1],rfl⟩
  ·have f1 : ((k : Int) < (s.size : Int)) = False:= eq_false (by omega)
   rw [List.take_of_length_le (by omega)] at hall
   simp only [go_sem,f1,decide_false,hall,errN]
end Go.Proofs.YtjceingdmfogeaaGreatDoor.VL
end

section
set_option maxHeartbeats 4000000
namespace Go.Proofs.YtjceingdmfogeaaGreatDoor.VL
open Go.RowKit Go.Proofs
def costN (n : Int) : Bool:= decide (0 ≤ n) && decide (n ≤ 65535)
theorem C_cost (n : Int) : AC Tryz.prog f_q64 [.lit (.int .i64 n)] (.lit (.bool (costN n))):= by
 refine ac_q64 ?_ (Nat.le_add_left 1 _)
 unfold costN
 cases h : decide (0 ≤ n)
 ·simp only [go_sem,c_q64,h,Bool.false_and]
 ·simp only [go_sem,c_q64,h,Bool.true_and]
def placeN (i n : Int) : Bool:= decide (0 ≤ i) && decide (i < n)
theorem C_place (i n : Int) : AC Tryz.prog f_q69 [.lit (.int .i64 i),.lit (.int .i64 n)] (.lit (.bool (placeN i n))):= by
 refine ac_q69 ?_ (Nat.le_add_left 2 _)
 unfold placeN
 cases h : decide (0 ≤ i)
 ·simp only [go_sem,c_q69,h,Bool.false_and]
 ·simp only [go_sem,c_q69,h,Bool.true_and]
def hostN (a : Nat) : Bool:= !(a == 0) && !groupN a
theorem C_host (a : Nat) (ha : a < 4294967296) : AC Tryz.prog f_q73 [avU a] (.lit (.bool (hostN a))):= by
 refine ac_q73 ?_ (Nat.le_add_left 1 _)
 unfold hostN
 have e : ((a : Int) != 0) = !(a == 0):= by rw [bne,nat_beq0]; rfl
 cases h : a == 0
 ·simp only [go_sem,c_q73,avU,e,h,Bool.not_false,Bool.true_and]
  refine callX_of (C_Group a ha) ?_
  simp only [go_sem,h,Bool.not_false]
 ·simp only [go_sem,c_q73,avU,e,h,Bool.not_true,Bool.false_and]
theorem C_groups : AC Tryz.prog f_q68 [] (avPfx 3758096384 4):= by
 refine ac_q68 ?_ (Nat.zero_le _)
 have h:= C_Of (fun i => if i = 0 then 224 else 0) (fun i _ => by show (if i = 0 then 224 else 0) < 256; split <;> decide)
 have e : ofB (fun i => if i = 0 then 224 else 0) 4 = 3758096384:= by decide
 rw [e] at h
 simp only [go_sem,c_q68,avPfx]
 refine callX_of h ?_
 simp only [go_sem,avU]
 try rfl
end Go.Proofs.YtjceingdmfogeaaGreatDoor.VL
end

section
set_option maxHeartbeats 4000000
namespace Go.Proofs.YtjceingdmfogeaaGreatDoor.VL
open Go.RowKit Go.Proofs
def idxOf {α : Type} (p : α → Bool) (l : List α) : Int:= match l.findIdx? p with
 | some i => (i : Nat)
 | none => -1
theorem idxOf_none {α : Type} {p : α → Bool} {l : List α} (h : ∀ (i : Nat) (x : α),l[i]? = some x → p x = false) : idxOf p l = -1:= by
 have : l.findIdx? p = none:= by
  rw [List.findIdx?_eq_none_iff]
  intro x hx
  obtain ⟨i,hi,e⟩:= List.mem_iff_getElem.1 hx
  exact h i x (by rw [List.getElem?_eq_getElem hi,e])
 rw [idxOf,this]
theorem idxOf_some {α : Type} {p : α → Bool} {l : List α} {i : Nat} {x : α} (hx : l[i]? = some x) (hp : p x = true) (h : ∀ (j : Nat) (y : α),j < i → l[j]? = some y → p y = false) : idxOf p l = (i : Nat):= by
 have : l.findIdx? p = some i:= by
  rw [List.findIdx?_eq_some_iff_getElem]
  obtain ⟨hi,e⟩:= List.getElem?_eq_some_iff.1 hx
  refine ⟨hi,by rw [e]; exact hp,fun j hj => ?_⟩
  rw [h j l[j] hj (List.getElem?_eq_getElem (by omega))]
  simp
 rw [idxOf,this]
theorem any_idx {α : Type} (p : α → Bool) (l : List α) : decide (0 ≤ idxOf p l) = l.any p:= by
 cases h : l.findIdx? p with
 | none =>
  have e : idxOf p l = -1:= by rw [idxOf,h]
  rw [e]
  rw [List.findIdx?_eq_none_iff] at h
  have : l.any p = false:= by
   rw [List.any_eq_false]
   intro x hx
   simp [h x hx]
  rw [this]
  rfl
 | some i =>
  have e : idxOf p l = (i : Nat):= by rw [idxOf,h]
  rw [e]
  rw [List.findIdx?_eq_some_iff_getElem] at h
  obtain ⟨hi,hp,_⟩:= h
  have : l.any p = true:= List.any_eq_true.2 ⟨l[i],List.getElem_mem hi,hp⟩
  rw [this]
  simp
def rowV {α : Type} (e : Nat) (f : α → AV) : Option (List α) → AV
 | none => .sl .nil 0 []
 | some l => .sl .none e (l.map f)
theorem rowV_cases {α : Type} (e : Nat) (f : α → AV) (s : Option (List α)) : ∃ t e',rowV e f s = .sl t e' ((s.getD []).map f) ∧ lowTok t = t ∧ goneB t = false ∧ frB t = false ∧ (e' = e ∨ s.getD [] = []) ∧ (t = .none ∨ t = .nil ∧ s.getD [] = []):= by
 cases s with
 | none => exact ⟨.nil,0,rfl,rfl,rfl,rfl,.inr rfl,.inr ⟨rfl,rfl⟩⟩
 | some l => exact ⟨.none,e,rfl,rfl,rfl,rfl,.inl rfl,.inl rfl⟩
structure NRt where
 nm : ByteArray
 rank : Int
deriving DecidableEq
def avRouter (x : NRt) : AV:= .agg [avStr x.nm,.lit (.int .i64 x.rank)]
structure NLk where
 nm : ByteArray
 a : Nat
 b : Int
deriving DecidableEq
def avLink (x : NLk) : AV:= .agg [avStr x.nm,avU x.a,.lit (.int .i64 x.b)]
structure NPt where
 rt : Int
 lk : Int
 a : Nat
deriving DecidableEq
def avPort (x : NPt) : AV:= .agg [.lit (.int .i64 x.rt),.lit (.int .i64 x.lk),avU x.a]
structure NRo where
 rt : Int
 a : Nat
 b : Int
 via : Nat
 cost : Int
deriving DecidableEq
def avRoute (x : NRo) : AV:= .agg [.lit (.int .i64 x.rt),avU x.a,.lit (.int .i64 x.b),avU x.via,.lit (.int .i64 x.cost)]
structure NRg where
 a : Nat
 b : Int
 root : Nat
deriving DecidableEq
def avRange (x : NRg) : AV:= .agg [avU x.a,.lit (.int .i64 x.b),avU x.root]
structure NSc where
 lk : Int
 s : Nat
 g : Nat
deriving DecidableEq
def avSource (x : NSc) : AV:= .agg [.lit (.int .i64 x.lk),avU x.s,avU x.g]
theorem C_IndexFuncRouter {f : FuncId} {fst caps : List AV} {asf : NRt → List AV} {p : NRt → Bool} (t : Tok) (e : Nat) (l : List NRt) (hf : frB t = false) (he : e = 2 ∨ l = []) (hl : l.length < 9223372036854775808)
    (hlow : ∀ n, mapO (lower (getC []) 8) (fst ++ [(avRouter n)] ++ caps) = some (asf n)) (hAC : ∀ n ∈ l, AC Tryz.prog f (asf n) (.lit (.bool (p n)))) :
    AC Tryz.prog f_q102 [.sl t e (l.map avRouter), .clo (.func f) fst caps] (.lit (.int .i64 (idxOf p l))) := by
  refine ac_q102 ?_ (Nat.le_add_left 2 17)
  simp only [go_sem, c_q102]
  refine aw_loop (fun m E => ∃ k, k + m = l.length ∧ (∀ (j : Nat) (y : NRt), j < k → l[j]? = some y → p y = false) ∧ E = mkE [(0, .sl t e (l.map avRouter)), (1, .clo (.func f) fst caps), (7, .lit (.int .i64 l.length)), (8, .lit (.int .i64 (k : Nat)))] []) l.length ?_ ?_
  · exact ⟨0, by omega, fun j y hj => absurd hj (Nat.not_lt_zero j), by simp only [go_sem, Int.ofNat_zero]⟩
  · rintro m _ ⟨k, hk, hall, rfl⟩
    simp only [go_sem]
    refine condX_of (fun h => ?_) (fun h => ?_)
    · have hkl : k < l.length := by simpa using h
      obtain rfl : e = 2 := he.resolve_right (fun h => by rw [h] at hkl; simp at hkl)
      obtain ⟨x, hx⟩ : ∃ x, l[k]? = some x := ⟨l[k], List.getElem?_eq_getElem hkl⟩
      have hw := wrap_succ k (by omega)
      have hlx := hlow x
      simp only [avRouter, avStr, avU] at hlx
      simp only [go_sem, h, hx, Int.toNat_natCast, Int.natCast_nonneg, List.getElem?_map, avRow_some, hf, avRouter, avStr, avU, hlx]
      refine callX_of (hAC x (List.mem_of_getElem? hx)) ?_
      cases hp : p x
      · simp only [go_sem, hw]
        refine ⟨m - 1, by omega, k + 1, by omega, fun j y hj hy => ?_, rfl⟩
        by_cases hjk : j = k
        · subst hjk
          rw [hx] at hy
          injection hy with hy
          rw [← hy]
          exact hp
        · exact hall j y (by omega) hy
      · simp only [go_sem, idxOf_some hx hp hall]
    · have hkl : k = l.length := by have : ¬ k < l.length := by simpa using h
                                    omega
      have e : idxOf p l = -1 := idxOf_none fun i x hi => hall i x (by have := (List.getElem?_eq_some_iff.1 hi).1; omega) hi
      simp only [go_sem, h, e]
theorem C_IndexFuncLink {f : FuncId} {fst caps : List AV} {asf : NLk → List AV} {p : NLk → Bool} (t : Tok) (e : Nat) (l : List NLk) (hf : frB t = false) (he : e = 3 ∨ l = []) (hl : l.length < 9223372036854775808)
    (hlow : ∀ n, mapO (lower (getC []) 8) (fst ++ [(avLink n)] ++ caps) = some (asf n)) (hAC : ∀ n ∈ l, AC Tryz.prog f (asf n) (.lit (.bool (p n)))) :
    AC Tryz.prog f_q103 [.sl t e (l.map avLink), .clo (.func f) fst caps] (.lit (.int .i64 (idxOf p l))) := by
  refine ac_q103 ?_ (Nat.le_add_left 2 17)
  simp only [go_sem, c_q103]
  refine aw_loop (fun m E => ∃ k, k + m = l.length ∧ (∀ (j : Nat) (y : NLk), j < k → l[j]? = some y → p y = false) ∧ E = mkE [(0, .sl t e (l.map avLink)), (1, .clo (.func f) fst caps), (7, .lit (.int .i64 l.length)), (8, .lit (.int .i64 (k : Nat)))] []) l.length ?_ ?_
  · exact ⟨0, by omega, fun j y hj => absurd hj (Nat.not_lt_zero j), by simp only [go_sem, Int.ofNat_zero]⟩
  · rintro m _ ⟨k, hk, hall, rfl⟩
    simp only [go_sem]
    refine condX_of (fun h => ?_) (fun h => ?_)
    · have hkl : k < l.length := by simpa using h
      obtain rfl : e = 3 := he.resolve_right (fun h => by rw [h] at hkl; simp at hkl)
      obtain ⟨x, hx⟩ : ∃ x, l[k]? = some x := ⟨l[k], List.getElem?_eq_getElem hkl⟩
      have hw := wrap_succ k (by omega)
      have hlx := hlow x
      simp only [avLink, avStr, avU] at hlx
      simp only [go_sem, h, hx, Int.toNat_natCast, Int.natCast_nonneg, List.getElem?_map, avRow_some, hf, avLink, avStr, avU, hlx]
      refine callX_of (hAC x (List.mem_of_getElem? hx)) ?_
      cases hp : p x
      · simp only [go_sem, hw]
        refine ⟨m - 1, by omega, k + 1, by omega, fun j y hj hy => ?_, rfl⟩
        by_cases hjk : j = k
        · subst hjk
          rw [hx] at hy
          injection hy with hy
          rw [← hy]
          exact hp
        · exact hall j y (by omega) hy
      · simp only [go_sem, idxOf_some hx hp hall]
    · have hkl : k = l.length := by have : ¬ k < l.length := by simpa using h
                                    omega
      have e : idxOf p l = -1 := idxOf_none fun i x hi => hall i x (by have := (List.getElem?_eq_some_iff.1 hi).1; omega) hi
      simp only [go_sem, h, e]
theorem C_IndexFuncPort {f : FuncId} {fst caps : List AV} {asf : NPt → List AV} {p : NPt → Bool} (t : Tok) (e : Nat) (l : List NPt) (hf : frB t = false) (he : e = 3 ∨ l = []) (hl : l.length < 9223372036854775808)
    (hlow : ∀ n, mapO (lower (getC []) 8) (fst ++ [(avPort n)] ++ caps) = some (asf n)) (hAC : ∀ n ∈ l, AC Tryz.prog f (asf n) (.lit (.bool (p n)))) :
    AC Tryz.prog f_q105 [.sl t e (l.map avPort), .clo (.func f) fst caps] (.lit (.int .i64 (idxOf p l))) := by
  refine ac_q105 ?_ (Nat.le_add_left 2 17)
  simp only [go_sem, c_q105]
  refine aw_loop (fun m E => ∃ k, k + m = l.length ∧ (∀ (j : Nat) (y : NPt), j < k → l[j]? = some y → p y = false) ∧ E = mkE [(0, .sl t e (l.map avPort)), (1, .clo (.func f) fst caps), (7, .lit (.int .i64 l.length)), (8, .lit (.int .i64 (k : Nat)))] []) l.length ?_ ?_
  · exact ⟨0, by omega, fun j y hj => absurd hj (Nat.not_lt_zero j), by simp only [go_sem, Int.ofNat_zero]⟩
  · rintro m _ ⟨k, hk, hall, rfl⟩
    simp only [go_sem]
    refine condX_of (fun h => ?_) (fun h => ?_)
    · have hkl : k < l.length := by simpa using h
      obtain rfl : e = 3 := he.resolve_right (fun h => by rw [h] at hkl; simp at hkl)
      obtain ⟨x, hx⟩ : ∃ x, l[k]? = some x := ⟨l[k], List.getElem?_eq_getElem hkl⟩
      have hw := wrap_succ k (by omega)
      have hlx := hlow x
      simp only [avPort, avStr, avU] at hlx
      simp only [go_sem, h, hx, Int.toNat_natCast, Int.natCast_nonneg, List.getElem?_map, avRow_some, hf, avPort, avStr, avU, hlx]
      refine callX_of (hAC x (List.mem_of_getElem? hx)) ?_
      cases hp : p x
      · simp only [go_sem, hw]
        refine ⟨m - 1, by omega, k + 1, by omega, fun j y hj hy => ?_, rfl⟩
        by_cases hjk : j = k
        · subst hjk
          rw [hx] at hy
          injection hy with hy
          rw [← hy]
          exact hp
        · exact hall j y (by omega) hy
      · simp only [go_sem, idxOf_some hx hp hall]
    · have hkl : k = l.length := by have : ¬ k < l.length := by simpa using h
                                    omega
      have e : idxOf p l = -1 := idxOf_none fun i x hi => hall i x (by have := (List.getElem?_eq_some_iff.1 hi).1; omega) hi
      simp only [go_sem, h, e]
theorem C_IndexFuncRange {f : FuncId} {fst caps : List AV} {asf : NRg → List AV} {p : NRg → Bool} (t : Tok) (e : Nat) (l : List NRg) (hf : frB t = false) (he : e = 3 ∨ l = []) (hl : l.length < 9223372036854775808)
    (hlow : ∀ n, mapO (lower (getC []) 8) (fst ++ [(avRange n)] ++ caps) = some (asf n)) (hAC : ∀ n ∈ l, AC Tryz.prog f (asf n) (.lit (.bool (p n)))) :
    AC Tryz.prog f_q106 [.sl t e (l.map avRange), .clo (.func f) fst caps] (.lit (.int .i64 (idxOf p l))) := by
  refine ac_q106 ?_ (Nat.le_add_left 2 17)
  simp only [go_sem, c_q106]
  refine aw_loop (fun m E => ∃ k, k + m = l.length ∧ (∀ (j : Nat) (y : NRg), j < k → l[j]? = some y → p y = false) ∧ E = mkE [(0, .sl t e (l.map avRange)), (1, .clo (.func f) fst caps), (7, .lit (.int .i64 l.length)), (8, .lit (.int .i64 (k : Nat)))] []) l.length ?_ ?_
  · exact ⟨0, by omega, fun j y hj => absurd hj (Nat.not_lt_zero j), by simp only [go_sem, Int.ofNat_zero]⟩
  · rintro m _ ⟨k, hk, hall, rfl⟩
    simp only [go_sem]
    refine condX_of (fun h => ?_) (fun h => ?_)
    · have hkl : k < l.length := by simpa using h
      obtain rfl : e = 3 := he.resolve_right (fun h => by rw [h] at hkl; simp at hkl)
      obtain ⟨x, hx⟩ : ∃ x, l[k]? = some x := ⟨l[k], List.getElem?_eq_getElem hkl⟩
      have hw := wrap_succ k (by omega)
      have hlx := hlow x
      simp only [avRange, avStr, avU] at hlx
      simp only [go_sem, h, hx, Int.toNat_natCast, Int.natCast_nonneg, List.getElem?_map, avRow_some, hf, avRange, avStr, avU, hlx]
      refine callX_of (hAC x (List.mem_of_getElem? hx)) ?_
      cases hp : p x
      · simp only [go_sem, hw]
        refine ⟨m - 1, by omega, k + 1, by omega, fun j y hj hy => ?_, rfl⟩
        by_cases hjk : j = k
        · subst hjk
          rw [hx] at hy
          injection hy with hy
          rw [← hy]
          exact hp
        · exact hall j y (by omega) hy
      · simp only [go_sem, idxOf_some hx hp hall]
    · have hkl : k = l.length := by have : ¬ k < l.length := by simpa using h
                                    omega
      have e : idxOf p l = -1 := idxOf_none fun i x hi => hall i x (by have := (List.getElem?_eq_some_iff.1 hi).1; omega) hi
      simp only [go_sem, h, e]
theorem C_IndexFuncSource {f : FuncId} {fst caps : List AV} {asf : NSc → List AV} {p : NSc → Bool} (t : Tok) (e : Nat) (l : List NSc) (hf : frB t = false) (he : e = 3 ∨ l = []) (hl : l.length < 9223372036854775808)
    (hlow : ∀ n, mapO (lower (getC []) 8) (fst ++ [(avSource n)] ++ caps) = some (asf n)) (hAC : ∀ n ∈ l, AC Tryz.prog f (asf n) (.lit (.bool (p n)))) :
    AC Tryz.prog f_q108 [.sl t e (l.map avSource), .clo (.func f) fst caps] (.lit (.int .i64 (idxOf p l))) := by
  refine ac_q108 ?_ (Nat.le_add_left 2 17)
  simp only [go_sem, c_q108]
  refine aw_loop (fun m E => ∃ k, k + m = l.length ∧ (∀ (j : Nat) (y : NSc), j < k → l[j]? = some y → p y = false) ∧ E = mkE [(0, .sl t e (l.map avSource)), (1, .clo (.func f) fst caps), (7, .lit (.int .i64 l.length)), (8, .lit (.int .i64 (k : Nat)))] []) l.length ?_ ?_
  · exact ⟨0, by omega, fun j y hj => absurd hj (Nat.not_lt_zero j), by simp only [go_sem, Int.ofNat_zero]⟩
  · rintro m _ ⟨k, hk, hall, rfl⟩
    simp only [go_sem]
    refine condX_of (fun h => ?_) (fun h => ?_)
    · have hkl : k < l.length := by simpa using h
      obtain rfl : e = 3 := he.resolve_right (fun h => by rw [h] at hkl; simp at hkl)
      obtain ⟨x, hx⟩ : ∃ x, l[k]? = some x := ⟨l[k], List.getElem?_eq_getElem hkl⟩
      have hw := wrap_succ k (by omega)
      have hlx := hlow x
      simp only [avSource, avStr, avU] at hlx
      simp only [go_sem, h, hx, Int.toNat_natCast, Int.natCast_nonneg, List.getElem?_map, avRow_some, hf, avSource, avStr, avU, hlx]
      refine callX_of (hAC x (List.mem_of_getElem? hx)) ?_
      cases hp : p x
      · simp only [go_sem, hw]
        refine ⟨m - 1, by omega, k + 1, by omega, fun j y hj hy => ?_, rfl⟩
        by_cases hjk : j = k
        · subst hjk
          rw [hx] at hy
          injection hy with hy
          rw [← hy]
          exact hp
        · exact hall j y (by omega) hy
      · simp only [go_sem, idxOf_some hx hp hall]
    · have hkl : k = l.length := by have : ¬ k < l.length := by simpa using h
                                    omega
      have e : idxOf p l = -1 := idxOf_none fun i x hi => hall i x (by have := (List.getElem?_eq_some_iff.1 hi).1; omega) hi
      simp only [go_sem, h, e]
end Go.Proofs.YtjceingdmfogeaaGreatDoor.VL
end

