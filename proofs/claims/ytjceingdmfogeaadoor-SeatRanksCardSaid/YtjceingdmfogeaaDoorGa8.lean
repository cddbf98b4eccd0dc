import Derived.Test.YtjceingdmfogeaaDoorProg
import Derived.Test.YtjceingdmfogeaaDoorGa7
set_option linter.unusedVariables false
set_option linter.unusedSimpArgs false
section
set_option maxRecDepth 100000
namespace Go.Proofs.YtjceingdmfogeaaDoor.VL
open Go.Proofs
def om (d s : Nat) : AOper:= ⟨some d,.mov (.tmp s),none⟩
def oo (d : Nat) (x : AOp) : AOper:= ⟨some d,x,none⟩
def og (d : Nat) (x : AOp) (g : Nat) (b : Bool) : AOper:= ⟨some d,x,some (g,b)⟩
@[go_sem] theorem x_om {P : Program} {D : Bool} {d s : Nat} {os : List AOper} {E : Env} {K : Env → Prop} : awX D P (om d s :: os) E K = awX D P (⟨some d,.mov (.tmp s),none⟩ :: os) E K:= rfl
@[go_sem] theorem x_oo {P : Program} {D : Bool} {d : Nat} {x : AOp} {os : List AOper} {E : Env} {K : Env → Prop} : awX D P (oo d x :: os) E K = awX D P (⟨some d,x,none⟩ :: os) E K:= rfl
@[go_sem] theorem x_og {P : Program} {D : Bool} {d g : Nat} {b : Bool} {x : AOp} {os : List AOper} {E : Env} {K : Env → Prop} : awX D P (og d x g b :: os) E K = awX D P (⟨some d,x,some (g,b)⟩ :: os) E K:= rfl
@[go_sem] theorem l_om {d s : Nat} {os : List AOper} : allocs (om d s :: os) = allocs os:= rfl
@[go_sem] theorem l_oo {d : Nat} {x : AOp} {os : List AOper} : allocs (oo d x :: os) = allocs (⟨some d,x,none⟩ :: os):= rfl
@[go_sem] theorem l_og {d g : Nat} {x : AOp} {b : Bool} {os : List AOper} : allocs (og d x g b :: os) = allocs (⟨some d,x,some (g,b)⟩ :: os):= rfl
def c_q1 : ACode :=
 (.seq
 (.region false [
 oo 2 (.mov (.const (.bool false)))] [2])
 (.seq
 (.region false [
 oo 15 (.callm 14 []),
 om 3 15] [15])
 (.seq
 (.seq
 (.region false [
 om 16 3,
 oo 17 (.un .not (.tmp 16))] [3,16])
 (.cond (.tmp 17)
 (.seq
 (.region false [
 oo 2 (.mov (.const (.bool false)))] [0,17])
 .ret)
 .skip))
 (.seq
 (.seq
 (.region false [
 om 18 0,
 oo 19 (.bin .lss 3 (.tmp 18) (.const (.int .i64 0)))] [17,18])
 (.cond (.tmp 19)
 (.region false [
 om 20 0,
 oo 21 (.bin .add 3 (.tmp 20) (.const (.int .i64 1))),
 oo 22 (.un .neg (.tmp 21)),
 om 0 22] [19,20,21,22])
 .skip))
 (.seq
 (.region false [
 om 23 0,
 oo 24 (.bin .rem 3 (.tmp 23) (.const (.int .i64 8))),
 oo 25 (.bin .add 3 (.tmp 24) (.const (.int .i64 1))),
 om 0 25] [19,23,24,25])
 (.seq
 (.region false [
 om 26 0,
 oo 27 (.callm 15 [.tmp 26,.const (.int .i64 0)]),
 oo 4 (.alloc [.sl .nil 0 [],.sl .nil 0 [],.sl .nil 0 [],.sl .nil 0 [],.sl .nil 0 [],.sl .nil 0 [],.sl .nil 0 []]),
 ⟨none,.store 7 (.tmp 4) (.tmp 27),none⟩] [26,27])
 (.seq
 (.region false [
 oo 29 (.load true 7 (.tmp 4)),
 oo 30 (.callm 12 [.tmp 29]),
 om 28 30,
 oo 31 (.ext (.tmp 28) 0),
 oo 32 (.ext (.tmp 28) 1),
 om 5 31,
 om 6 32] [28,29,30,31,32])
 (.seq
 (.seq
 (.region false [
 om 33 5,
 oo 34 (.eqp false (.tmp 33)),
 om 35 34,
 og 36 (.mov (.tmp 6)) 35 false,
 og 37 (.eqn true (.tmp 36)) 35 false,
 oo 38 (.pick (.tmp 35) (.const (.bool true)) (.tmp 37))] [6,33,34,35,36,37])
 (.cond (.tmp 38)
 (.seq
 (.region false [
 oo 2 (.mov (.const (.bool false)))] [0,4,5,38])
 .ret)
 .skip))
 (.seq
 (.seq
 (.region false [
 oo 7 (.mov (.const (.int .i64 0)))] [38])
 (.block 0
 (.loop
 (.seq
 (.seq
 (.region false [
 om 39 7,
 om 40 0,
 oo 41 (.bin .lss 3 (.tmp 39) (.tmp 40))] [39,40])
 (.cond (.tmp 41)
 .skip
 (.exit 0)))
 (.seq
 (.block 1
 (.seq
 (.region false [
 om 44 5,
 om 45 7,
 oo 46 (.callm 17 [.tmp 44,.tmp 45]),
 om 47 7,
 oo 48 (.bin .mul 3 (.const (.int .i64 2)) (.tmp 47)),
 om 49 7,
 oo 50 (.bin .mul 3 (.const (.int .i64 2)) (.tmp 49)),
 oo 51 (.bin .add 3 (.tmp 50) (.const (.int .i64 1))),
 oo 52 (.bslice 2 1 [.tmp 48,.tmp 51]),
 oo 53 (.callm 16 [.tmp 46,.tmp 52]),
 oo 54 (.un .not (.tmp 53)),
 om 55 54,
 og 56 (.mov (.tmp 5)) 55 false,
 og 57 (.mov (.tmp 7)) 55 false,
 og 58 (.bin .mul 3 (.const (.int .i64 2)) (.tmp 57)) 55 false,
 og 59 (.callm 18 [.tmp 56,.tmp 58]) 55 false,
 og 60 (.lenl (.tmp 59)) 55 false,
 og 61 (.mov (.tmp 7)) 55 false,
 og 62 (.mnmx false [.tmp 61,.const (.int .i64 1)]) 55 false,
 og 63 (.bin .neq 3 (.tmp 60) (.tmp 62)) 55 false,
 oo 64 (.pick (.tmp 55) (.const (.bool true)) (.tmp 63))] [41,44,45,46,47,48,49,50,51,52,53,54,55,56,57,58,59,60,61,62,63])
 (.cond (.tmp 64)
 (.seq
 (.region false [
 oo 2 (.mov (.const (.bool false)))] [0,4,5,7,64])
 .ret)
 .skip)) [64])
 (.region false [
 om 42 7,
 oo 43 (.bin .add 3 (.tmp 42) (.const (.int .i64 1))),
 om 7 43] [42,43]))) [] []) [7,41]))
 (.seq
 (.seq
 (.region false [
 oo 8 (.mov (.const (.int .i64 0)))] [])
 (.block 2
 (.loop
 (.seq
 (.seq
 (.region false [
 om 65 8,
 om 66 0,
 oo 67 (.bin .leq 3 (.tmp 65) (.tmp 66))] [65,66])
 (.cond (.tmp 67)
 .skip
 (.exit 2)))
 (.seq
 (.block 3
 (.seq
 (.region false [
 oo 9 (.mov (.const (.int .i64 2)))] [67])
 (.seq
 (.seq
 (.region false [
 om 70 8,
 oo 71 (.bin .eql 3 (.tmp 70) (.const (.int .i64 0))),
 om 72 71,
 og 73 (.mov (.tmp 8)) 72 false,
 og 74 (.mov (.tmp 0)) 72 false,
 og 75 (.bin .eql 3 (.tmp 73) (.tmp 74)) 72 false,
 oo 76 (.pick (.tmp 72) (.const (.bool true)) (.tmp 75))] [70,71,72,73,74,75])
 (.cond (.tmp 76)
 (.region false [
 oo 9 (.mov (.const (.int .i64 1)))] [76])
 .skip))
 (.seq
 (.region false [
 om 77 5,
 om 78 8,
 oo 79 (.callm 19 [.tmp 77,.tmp 78]),
 oo 80 (.lenl (.tmp 79)),
 om 81 9,
 oo 82 (.bin .neq 3 (.tmp 80) (.tmp 81))] [9,76,77,78,79,80,81])
 (.cond (.tmp 82)
 (.seq
 (.region false [
 oo 2 (.mov (.const (.bool false)))] [0,4,5,8,82])
 .ret)
 .skip)))) [82])
 (.region false [
 om 68 8,
 oo 69 (.bin .add 3 (.tmp 68) (.const (.int .i64 1))),
 om 8 69] [68,69]))) [] []) [0,8,67]))
 (.seq
 (.seq
 (.region false [
 oo 10 (.mov (.const (.int .i64 0)))] [])
 (.block 4
 (.loop
 (.seq
 (.seq
 (.region false [
 om 83 10,
 oo 84 (.faddr 2 1 (.tmp 4)),
 oo 85 (.load false 1 (.tmp 84)),
 oo 86 (.lenl (.tmp 85)),
 oo 87 (.bin .lss 3 (.tmp 83) (.tmp 86))] [83,84,85,86])
 (.cond (.tmp 87)
 .skip
 (.exit 4)))
 (.seq
 (.block 5
 (.seq
 (.region false [
 om 91 5,
 oo 92 (.faddr 2 1 (.tmp 4)),
 oo 93 (.load false 1 (.tmp 92)),
 om 94 10,
 oo 95 (.iaddr 3 (.tmp 93) (.tmp 94)),
 oo 96 (.faddr 2 1 (.tmp 95)),
 oo 97 (.load false 1 (.tmp 96)),
 oo 98 (.callm 20 [.tmp 91,.tmp 97]),
 om 90 98,
 oo 99 (.ext (.tmp 90) 0),
 oo 100 (.ext (.tmp 90) 1),
 om 11 99,
 om 12 100] [87,90,91,92,93,94,95,96,97,98,99,100])
 (.seq
 (.region false [
 om 101 12,
 oo 102 (.un .not (.tmp 101)),
 om 103 102,
 og 104 (.mov (.tmp 11)) 103 false,
 og 105 (.mov (.tmp 10)) 103 false,
 og 106 (.bin .neq 3 (.tmp 104) (.tmp 105)) 103 false,
 oo 107 (.pick (.tmp 103) (.const (.bool true)) (.tmp 106))] [11,12,101,102,103,104,105,106])
 (.cond (.tmp 107)
 (.seq
 (.region false [
 oo 2 (.mov (.const (.bool false)))] [4,5,10,107])
 .ret)
 .skip))) [107])
 (.region false [
 om 88 10,
 oo 89 (.bin .add 3 (.tmp 88) (.const (.int .i64 1))),
 om 10 89] [88,89]))) [] []) [4,10,87]))
 (.seq
 (.region false [
 om 109 5,
 oo 110 (.callm 21 [.const (.int .i64 99),.const (.int .i64 1)]),
 oo 111 (.callm 20 [.tmp 109,.tmp 110]),
 om 108 111,
 oo 112 (.ext (.tmp 108) 0),
 oo 113 (.ext (.tmp 108) 1),
 om 13 112,
 om 14 113] [5,13,108,109,110,111,112,113])
 (.seq
 (.region false [
 om 114 14,
 oo 115 (.un .not (.tmp 114)),
 om 2 115] [14,114,115])
 .ret)))))))))))))
abbrev v_q1 : List RV:= [.tmp 2]
abbrev f_q1 : FuncId:= 4
theorem k_q1 : closedOf Tryd.prog Tryd.f4 = (false,some true,some v_q1,some c_q1.plain,116):= by kernel_rfl
theorem ac_q1 {args : List AV} {r : AV} (h : aw Tryd.prog c_q1 (env0 args) (endQ v_q1 r)) (hargs : args.length ≤ 116:= by decide) (hok : resOK r = true:= by rfl) : AC Tryd.prog f_q1 args r :=
  AC_mk (by kernel_rfl) Tryd.func4 k_q1 hargs hok (by decide) h
def c_q2 : ACode :=
 (.seq
 (.region false [
 oo 6 (.mov (.const (.bool false)))] [6])
 (.seq
 (.region false [
 oo 12 (.callm 22 []),
 om 7 12] [12])
 (.seq
 (.seq
 (.region false [
 om 13 7,
 oo 14 (.un .not (.tmp 13))] [7,13])
 (.cond (.tmp 14)
 (.seq
 (.region false [
 oo 6 (.mov (.const (.bool false)))] [0,1,2,14])
 .ret)
 .skip))
 (.seq
 (.region false [
 om 15 0,
 oo 16 (.callm 11 [.tmp 15,.const (.int .i64 7)]),
 oo 17 (.bin .add 3 (.tmp 16) (.const (.int .i64 1))),
 om 0 17] [14,15,16,17])
 (.seq
 (.region false [
 om 18 1,
 om 19 0,
 oo 20 (.callm 11 [.tmp 18,.tmp 19]),
 om 1 20] [18,19,20])
 (.seq
 (.region false [
 om 21 2,
 om 22 0,
 oo 23 (.bin .add 3 (.tmp 22) (.const (.int .i64 1))),
 oo 24 (.callm 11 [.tmp 21,.tmp 23]),
 om 2 24] [21,22,23,24])
 (.seq
 (.region false [
 om 26 0,
 oo 27 (.callm 15 [.tmp 26,.const (.int .i64 0)]),
 oo 28 (.callm 12 [.tmp 27]),
 om 25 28,
 oo 29 (.ext (.tmp 25) 0),
 oo 30 (.ext (.tmp 25) 1),
 om 8 29,
 om 9 30] [0,25,26,27,28,29,30])
 (.seq
 (.seq
 (.region false [
 om 31 8,
 oo 32 (.eqp false (.tmp 31)),
 om 33 32,
 og 34 (.mov (.tmp 9)) 33 false,
 og 35 (.eqn true (.tmp 34)) 33 false,
 oo 36 (.pick (.tmp 33) (.const (.bool true)) (.tmp 35))] [9,31,32,33,34,35])
 (.cond (.tmp 36)
 (.seq
 (.region false [
 oo 6 (.mov (.const (.bool false)))] [1,2,8,36])
 .ret)
 .skip))
 (.seq
 (.region false [
 om 38 8,
 om 39 1,
 om 40 2,
 oo 41 (.callm 21 [.tmp 40,.const (.int .i64 77)]),
 oo 42 (.callm 23 [.tmp 38,.tmp 39,.tmp 41]),
 om 37 42,
 oo 43 (.ext (.tmp 37) 0),
 oo 44 (.ext (.tmp 37) 1),
 oo 10 (.alloc [.lit (.int .i64 0),.lit (.int .u32 0),.lit (.int .i64 0)]),
 ⟨none,.store 3 (.tmp 10) (.tmp 43),none⟩,
 om 11 44] [8,36,37,38,39,40,41,42,43,44])
 (.seq
 (.block 0
 (.seq
 (.region false [
 om 46 11,
 oo 47 (.un .not (.tmp 46)),
 om 45 47] [11,46,47])
 (.cond (.tmp 45)
 (.seq
 (.region false [
 oo 6 (.mov (.const (.bool false)))] [1,2,10,45])
 .ret)
 (.seq
 (.region false [
 om 49 2,
 om 50 1,
 oo 51 (.bin .lss 3 (.tmp 49) (.tmp 50)),
 om 48 51] [45,49,50,51])
 (.cond (.tmp 48)
 (.seq
 (.region true [
 oo 52 (.faddr 0 1 (.tmp 10)),
 oo 53 (.load false 1 (.tmp 52)),
 om 54 1,
 oo 55 (.bin .mul 3 (.const (.int .i64 2)) (.tmp 54)),
 oo 56 (.bin .eql 3 (.tmp 53) (.tmp 55)),
 om 57 56,
 og 58 (.faddr 1 1 (.tmp 10)) 57 true,
 og 59 (.load false 1 (.tmp 58)) 57 true,
 og 60 (.mov (.tmp 1)) 57 true,
 og 61 (.mov (.tmp 1)) 57 true,
 og 62 (.call 21 [.tmp 60,.tmp 61]) 57 true,
 og 63 (.bin .eql 45 (.tmp 59) (.tmp 62)) 57 true,
 oo 64 (.pick (.tmp 57) (.tmp 63) (.const (.bool false))),
 om 65 64,
 og 66 (.faddr 2 1 (.tmp 10)) 65 true,
 og 67 (.load false 1 (.tmp 66)) 65 true,
 og 68 (.mov (.tmp 1)) 65 true,
 og 69 (.mov (.tmp 2)) 65 true,
 og 70 (.bin .sub 3 (.tmp 68) (.tmp 69)) 65 true,
 og 71 (.bin .eql 3 (.tmp 67) (.tmp 70)) 65 true,
 oo 72 (.pick (.tmp 65) (.tmp 71) (.const (.bool false))),
 om 6 72] [1,2,10,48,52,53,54,55,56,57,58,59,60,61,62,63,64,65,66,67,68,69,70,71,72])
 .ret)
 (.seq
 (.region false [
 om 74 2,
 om 75 1,
 oo 76 (.bin .add 3 (.tmp 75) (.const (.int .i64 1))),
 oo 77 (.bin .gtr 3 (.tmp 74) (.tmp 76)),
 om 73 77] [48,74,75,76,77])
 (.cond (.tmp 73)
 (.seq
 (.region true [
 oo 78 (.faddr 0 1 (.tmp 10)),
 oo 79 (.load false 1 (.tmp 78)),
 om 80 1,
 oo 81 (.bin .mul 3 (.const (.int .i64 2)) (.tmp 80)),
 oo 82 (.bin .add 3 (.tmp 81) (.const (.int .i64 1))),
 oo 83 (.bin .eql 3 (.tmp 79) (.tmp 82)),
 om 84 83,
 og 85 (.faddr 1 1 (.tmp 10)) 84 true,
 og 86 (.load false 1 (.tmp 85)) 84 true,
 og 87 (.mov (.tmp 1)) 84 true,
 og 88 (.bin .add 3 (.tmp 87) (.const (.int .i64 1))) 84 true,
 og 89 (.mov (.tmp 1)) 84 true,
 og 90 (.bin .add 3 (.tmp 89) (.const (.int .i64 2))) 84 true,
 og 91 (.call 21 [.tmp 88,.tmp 90]) 84 true,
 og 92 (.bin .eql 45 (.tmp 86) (.tmp 91)) 84 true,
 oo 93 (.pick (.tmp 84) (.tmp 92) (.const (.bool false))),
 om 94 93,
 og 95 (.faddr 2 1 (.tmp 10)) 94 true,
 og 96 (.load false 1 (.tmp 95)) 94 true,
 og 97 (.mov (.tmp 2)) 94 true,
 og 98 (.mov (.tmp 1)) 94 true,
 og 99 (.bin .sub 3 (.tmp 97) (.tmp 98)) 94 true,
 og 100 (.bin .eql 3 (.tmp 96) (.tmp 99)) 94 true,
 oo 101 (.pick (.tmp 94) (.tmp 100) (.const (.bool false))),
 om 6 101] [1,2,10,73,78,79,80,81,82,83,84,85,86,87,88,89,90,91,92,93,94,95,96,97,98,99,100,101])
 .ret)
 .skip)))))) [73])
 (.seq
 (.region false [
 oo 102 (.faddr 0 1 (.tmp 10)),
 oo 103 (.load false 1 (.tmp 102)),
 om 104 1,
 oo 105 (.bin .mul 3 (.const (.int .i64 2)) (.tmp 104)),
 om 106 2,
 oo 107 (.bin .add 3 (.tmp 105) (.tmp 106)),
 om 108 1,
 oo 109 (.bin .sub 3 (.tmp 107) (.tmp 108)),
 oo 110 (.bin .eql 3 (.tmp 103) (.tmp 109)),
 om 111 110,
 og 112 (.faddr 1 1 (.tmp 10)) 111 true,
 og 113 (.load false 1 (.tmp 112)) 111 true,
 og 114 (.bin .eql 45 (.tmp 113) (.const (.int .u32 0))) 111 true,
 oo 115 (.pick (.tmp 111) (.tmp 114) (.const (.bool false))),
 om 116 115,
 og 117 (.faddr 2 1 (.tmp 10)) 116 true,
 og 118 (.load false 1 (.tmp 117)) 116 true,
 og 119 (.bin .eql 3 (.tmp 118) (.const (.int .i64 0))) 116 true,
 oo 120 (.pick (.tmp 116) (.tmp 119) (.const (.bool false))),
 om 6 120] [1,2,10,102,103,104,105,106,107,108,109,110,111,112,113,114,115,116,117,118,119,120])
 .ret)))))))))))
abbrev v_q2 : List RV:= [.tmp 6]
abbrev f_q2 : FuncId:= 5
theorem k_q2 : closedOf Tryd.prog Tryd.f5 = (false,some true,some v_q2,some c_q2.plain,121):= by kernel_rfl
theorem ac_q2 {args : List AV} {r : AV} (h : aw Tryd.prog c_q2 (env0 args) (endQ v_q2 r)) (hargs : args.length ≤ 121:= by decide) (hok : resOK r = true:= by rfl) : AC Tryd.prog f_q2 args r :=
  AC_mk (by kernel_rfl) Tryd.func5 k_q2 hargs hok (by decide) h
def c_q3 : ACode :=
 (.seq
 (.region false [
 oo 4 (.mov (.const (.bool false)))] [4])
 (.seq
 (.region false [
 oo 13 (.callm 22 []),
 om 5 13] [13])
 (.seq
 (.seq
 (.region false [
 om 14 5,
 oo 15 (.un .not (.tmp 14))] [5,14])
 (.cond (.tmp 15)
 (.seq
 (.region false [
 oo 4 (.mov (.const (.bool false)))] [0,1,15])
 .ret)
 .skip))
 (.seq
 (.region false [
 om 16 0,
 oo 17 (.callm 11 [.tmp 16,.const (.int .i64 9)]),
 oo 18 (.bin .add 3 (.tmp 17) (.const (.int .i64 1))),
 om 0 18] [15,16,17,18])
 (.seq
 (.region false [
 om 19 1,
 oo 20 (.callm 11 [.tmp 19,.const (.int .i64 65536)]),
 om 1 20] [19,20])
 (.seq
 (.region false [
 oo 21 (.callm 15 [.const (.int .i64 1),.const (.int .i64 0)]),
 oo 6 (.alloc [.sl .nil 0 [],.sl .nil 0 [],.sl .nil 0 [],.sl .nil 0 [],.sl .nil 0 [],.sl .nil 0 [],.sl .nil 0 []]),
 ⟨none,.store 7 (.tmp 6) (.tmp 21),none⟩] [21])
 (.seq
 (.region false [
 oo 22 (.faddr 3 1 (.tmp 6)),
 ⟨none,.store 1 (.tmp 22) (.const (.slice none 0 0)),none⟩] [22])
 (.seq
 (.seq
 (.region false [
 oo 7 (.mov (.const (.int .i64 0)))] [])
 (.block 0
 (.loop
 (.seq
 (.seq
 (.region false [
 om 23 7,
 om 24 0,
 oo 25 (.bin .lss 3 (.tmp 23) (.tmp 24))] [23,24])
 (.cond (.tmp 25)
 .skip
 (.exit 0)))
 (.seq
 (.block 1
 (.seq
 (.region false [
 om 28 7,
 oo 29 (.bin .add 3 (.tmp 28) (.const (.int .i64 1))),
 oo 30 (.cint .u32 (.tmp 29)),
 oo 31 (.bin .shl 45 (.tmp 30) (.const (.int .u64 16))),
 oo 32 (.bin .or 45 (.const (.int .u32 335544320)) (.tmp 31)),
 oo 33 (.bin .or 45 (.tmp 32) (.const (.int .u32 1))),
 om 8 33] [25,28,29,30,31,32,33])
 (.seq
 (.seq
 (.region false [
 om 34 7,
 om 35 0,
 oo 36 (.bin .sub 3 (.tmp 35) (.const (.int .i64 1))),
 oo 37 (.bin .eql 3 (.tmp 34) (.tmp 36))] [34,35,36])
 (.cond (.tmp 37)
 (.region false [
 oo 38 (.callm 21 [.const (.int .i64 1),.const (.int .i64 99)]),
 om 8 38] [37,38])
 .skip))
 (.region false [
 oo 39 (.faddr 3 1 (.tmp 6)),
 oo 40 (.load false 1 (.tmp 39)),
 om 41 7,
 oo 42 (.cint .u32 (.tmp 41)),
 oo 43 (.bin .shl 45 (.tmp 42) (.const (.int .u64 16))),
 oo 44 (.bin .or 45 (.const (.int .u32 335544320)) (.tmp 43)),
 oo 45 (.build [.lit (.int .u32 0),.lit (.int .i64 0)] [(0,1,.tmp 44),(1,1,.const (.int .i64 16))]),
 om 46 8,
 om 47 1,
 oo 48 (.build [.lit (.int .i64 0),.lit (.int .u32 0),.lit (.int .i64 0),.lit (.int .u32 0),.lit (.int .i64 0)] [(1,2,.tmp 45),(3,1,.tmp 46),(4,1,.tmp 47)]),
 oo 49 (.bslice 1 5 [.tmp 48]),
 oo 50 (.app 5 40 [] (.tmp 40) (.tmp 49)),
 oo 51 (.faddr 3 1 (.tmp 6)),
 ⟨none,.store 1 (.tmp 51) (.tmp 50),none⟩] [8,37,39,40,41,42,43,44,45,46,47,48,49,50,51]))) [])
 (.region false [
 om 26 7,
 oo 27 (.bin .add 3 (.tmp 26) (.const (.int .i64 1))),
 om 7 27] [26,27]))) [] []) [7,25]))
 (.seq
 (.region false [
 oo 53 (.load true 7 (.tmp 6)),
 oo 54 (.callm 12 [.tmp 53]),
 om 52 54,
 oo 55 (.ext (.tmp 52) 0),
 oo 56 (.ext (.tmp 52) 1),
 om 9 55,
 om 10 56] [6,52,53,54,55,56])
 (.seq
 (.seq
 (.region false [
 om 57 9,
 oo 58 (.eqp false (.tmp 57)),
 om 59 58,
 og 60 (.mov (.tmp 10)) 59 false,
 og 61 (.eqn true (.tmp 60)) 59 false,
 oo 62 (.pick (.tmp 59) (.const (.bool true)) (.tmp 61))] [10,57,58,59,60,61])
 (.cond (.tmp 62)
 (.seq
 (.region false [
 oo 4 (.mov (.const (.bool false)))] [0,1,9,62])
 .ret)
 .skip))
 (.seq
 (.region false [
 om 64 9,
 oo 65 (.callm 23 [.tmp 64,.const (.int .i64 0),.const (.int .u32 335544325)]),
 om 63 65,
 oo 66 (.ext (.tmp 63) 0),
 oo 67 (.ext (.tmp 63) 1),
 oo 11 (.alloc [.lit (.int .i64 0),.lit (.int .u32 0),.lit (.int .i64 0)]),
 ⟨none,.store 3 (.tmp 11) (.tmp 66),none⟩,
 om 12 67] [9,62,63,64,65,66,67])
 (.seq
 (.seq
 (.region false [
 om 68 0,
 oo 69 (.bin .gtr 3 (.tmp 68) (.const (.int .i64 6)))] [68])
 (.cond (.tmp 69)
 (.seq
 (.region false [
 om 70 12,
 oo 71 (.un .not (.tmp 70)),
 om 4 71] [0,1,11,12,69,70,71])
 .ret)
 .skip))
 (.seq
 (.region true [
 om 72 12,
 om 73 72,
 og 74 (.faddr 0 1 (.tmp 11)) 73 true,
 og 75 (.load false 1 (.tmp 74)) 73 true,
 og 76 (.bin .eql 3 (.tmp 75) (.const (.int .i64 1))) 73 true,
 oo 77 (.pick (.tmp 73) (.tmp 76) (.const (.bool false))),
 om 78 77,
 og 79 (.faddr 1 1 (.tmp 11)) 78 true,
 og 80 (.load false 1 (.tmp 79)) 78 true,
 og 81 (.call 21 [.const (.int .i64 1),.const (.int .i64 99)]) 78 true,
 og 82 (.bin .eql 45 (.tmp 80) (.tmp 81)) 78 true,
 oo 83 (.pick (.tmp 78) (.tmp 82) (.const (.bool false))),
 om 84 83,
 og 85 (.faddr 2 1 (.tmp 11)) 84 true,
 og 86 (.load false 1 (.tmp 85)) 84 true,
 og 87 (.mov (.tmp 0)) 84 true,
 og 88 (.mov (.tmp 1)) 84 true,
 og 89 (.bin .mul 3 (.tmp 87) (.tmp 88)) 84 true,
 og 90 (.mnmx false [.tmp 89,.const (.int .i64 65535)]) 84 true,
 og 91 (.bin .eql 3 (.tmp 86) (.tmp 90)) 84 true,
 oo 92 (.pick (.tmp 84) (.tmp 91) (.const (.bool false))),
 om 4 92] [0,1,11,12,69,72,73,74,75,76,77,78,79,80,81,82,83,84,85,86,87,88,89,90,91,92])
 .ret)))))))))))))
abbrev v_q3 : List RV:= [.tmp 4]
abbrev f_q3 : FuncId:= 6
theorem k_q3 : closedOf Tryd.prog Tryd.f6 = (false,some true,some v_q3,some c_q3.plain,93):= by kernel_rfl
theorem ac_q3 {args : List AV} {r : AV} (h : aw Tryd.prog c_q3 (env0 args) (endQ v_q3 r)) (hargs : args.length ≤ 93:= by decide) (hok : resOK r = true:= by rfl) : AC Tryd.prog f_q3 args r :=
  AC_mk (by kernel_rfl) Tryd.func6 k_q3 hargs hok (by decide) h
def c_q4 : ACode :=
 (.seq
 (.region false [
 oo 4 (.mov (.const (.bool false)))] [4])
 (.seq
 (.region false [
 oo 15 (.callm 22 []),
 om 5 15] [15])
 (.seq
 (.seq
 (.region false [
 om 16 5,
 oo 17 (.un .not (.tmp 16))] [16])
 (.cond (.tmp 17)
 (.seq
 (.region false [
 oo 4 (.mov (.const (.bool false)))] [0,1,5,17])
 .ret)
 .skip))
 (.seq
 (.seq
 (.region false [
 om 18 0,
 oo 19 (.lenl (.tmp 18)),
 oo 20 (.bin .eql 3 (.tmp 19) (.const (.int .i64 0))),
 om 21 20,
 og 22 (.mov (.tmp 0)) 21 false,
 og 23 (.lenl (.tmp 22)) 21 false,
 og 24 (.bin .gtr 3 (.tmp 23) (.const (.int .i64 6))) 21 false,
 oo 25 (.pick (.tmp 21) (.const (.bool true)) (.tmp 24))] [17,18,19,20,21,22,23,24])
 (.cond (.tmp 25)
 (.seq
 (.region false [
 om 26 5,
 om 4 26] [0,1,5,25,26])
 .ret)
 .skip))
 (.seq
 (.region false [
 oo 27 (.callm 15 [.const (.int .i64 1),.const (.int .i64 0)]),
 oo 6 (.alloc [.sl .nil 0 [],.sl .nil 0 [],.sl .nil 0 [],.sl .nil 0 [],.sl .nil 0 [],.sl .nil 0 [],.sl .nil 0 []]),
 ⟨none,.store 7 (.tmp 6) (.tmp 27),none⟩] [25,27])
 (.seq
 (.region false [
 oo 28 (.faddr 3 1 (.tmp 6)),
 ⟨none,.store 1 (.tmp 28) (.const (.slice none 0 0)),none⟩] [28])
 (.seq
 (.region false [
 oo 7 (.mov (.const (.int .i64 0)))] [])
 (.seq
 (.seq
 (.region false [
 oo 8 (.mov (.const (.int .i64 0)))] [])
 (.block 0
 (.loop
 (.seq
 (.seq
 (.region false [
 om 29 8,
 om 30 0,
 oo 31 (.lenl (.tmp 30)),
 oo 32 (.bin .lss 3 (.tmp 29) (.tmp 31))] [29,30,31])
 (.cond (.tmp 32)
 .skip
 (.exit 0)))
 (.seq
 (.block 1
 (.seq
 (.region false [
 om 35 0,
 om 36 8,
 oo 37 (.iaddr 1 (.tmp 35) (.tmp 36)),
 oo 38 (.load false 1 (.tmp 37)),
 oo 39 (.callm 11 [.tmp 38,.const (.int .i64 5)]),
 om 9 39] [32,35,36,37,38,39])
 (.seq
 (.region true [
 oo 40 (.faddr 3 1 (.tmp 6)),
 oo 41 (.loadc false 1 (.tmp 40)),
 oo 42 (.build [.lit (.int .u32 0),.lit (.int .i64 0)] [(0,1,.const (.int .u32 335544320)),(1,1,.const (.int .i64 8))]),
 om 43 8,
 oo 44 (.bin .add 3 (.const (.int .i64 50)) (.tmp 43)),
 oo 45 (.call 21 [.const (.int .i64 1),.tmp 44]),
 om 46 9,
 oo 47 (.build [.lit (.int .i64 0),.lit (.int .u32 0),.lit (.int .i64 0),.lit (.int .u32 0),.lit (.int .i64 0)] [(1,2,.tmp 42),(3,1,.tmp 45),(4,1,.tmp 46)]),
 oo 48 (.bslice 1 5 [.tmp 47]),
 oo 49 (.app 5 40 [] (.tmp 41) (.tmp 48)),
 oo 50 (.faddr 3 1 (.tmp 6)),
 ⟨none,.store 1 (.tmp 50) (.tmp 49),none⟩] [40,41,42,43,44,45,46,47,48,49,50])
 (.seq
 (.region false [
 om 51 9,
 oo 52 (.faddr 3 1 (.tmp 6)),
 oo 53 (.load false 1 (.tmp 52)),
 om 54 7,
 oo 55 (.iaddr 5 (.tmp 53) (.tmp 54)),
 oo 56 (.faddr 4 1 (.tmp 55)),
 oo 57 (.load false 1 (.tmp 56)),
 oo 58 (.bin .lss 3 (.tmp 51) (.tmp 57))] [9,51,52,53,54,55,56,57])
 (.cond (.tmp 58)
 (.region false [
 om 59 8,
 om 7 59] [58,59])
 .skip)))) [58])
 (.region false [
 om 33 8,
 oo 34 (.bin .add 3 (.tmp 33) (.const (.int .i64 1))),
 om 8 34] [33,34]))) [] []) [8,32]))
 (.seq
 (.region false [
 om 60 1,
 oo 61 (.callm 11 [.tmp 60,.const (.int .i64 2)]),
 om 1 61] [60,61])
 (.seq
 (.seq
 (.region false [
 om 62 1,
 oo 63 (.bin .eql 3 (.tmp 62) (.const (.int .i64 1)))] [62])
 (.cond (.tmp 63)
 (.region true [
 oo 64 (.faddr 3 1 (.tmp 6)),
 oo 65 (.loadc false 1 (.tmp 64)),
 oo 66 (.build [.lit (.int .u32 0),.lit (.int .i64 0)] [(0,1,.const (.int .u32 335544320)),(1,1,.const (.int .i64 9))]),
 oo 67 (.call 21 [.const (.int .i64 0),.const (.int .i64 70)]),
 oo 68 (.build [.lit (.int .i64 0),.lit (.int .u32 0),.lit (.int .i64 0),.lit (.int .u32 0),.lit (.int .i64 0)] [(1,2,.tmp 66),(3,1,.tmp 67),(4,1,.const (.int .i64 900))]),
 oo 69 (.bslice 1 5 [.tmp 68]),
 oo 70 (.app 5 40 [] (.tmp 65) (.tmp 69)),
 oo 71 (.faddr 3 1 (.tmp 6)),
 ⟨none,.store 1 (.tmp 71) (.tmp 70),none⟩] [63,64,65,66,67,68,69,70,71])
 .skip))
 (.seq
 (.region false [
 oo 73 (.load true 7 (.tmp 6)),
 oo 74 (.callm 12 [.tmp 73]),
 om 72 74,
 oo 75 (.ext (.tmp 72) 0),
 oo 76 (.ext (.tmp 72) 1),
 om 10 75,
 om 11 76] [63,72,73,74,75,76])
 (.seq
 (.seq
 (.region false [
 om 77 10,
 oo 78 (.eqp false (.tmp 77)),
 om 79 78,
 og 80 (.mov (.tmp 11)) 79 false,
 og 81 (.eqn true (.tmp 80)) 79 false,
 oo 82 (.pick (.tmp 79) (.const (.bool true)) (.tmp 81))] [11,77,78,79,80,81])
 (.cond (.tmp 82)
 (.seq
 (.region false [
 oo 4 (.mov (.const (.bool false)))] [0,1,5,6,7,10,82])
 .ret)
 .skip))
 (.seq
 (.region false [
 om 84 10,
 oo 85 (.callm 23 [.tmp 84,.const (.int .i64 0),.const (.int .u32 335544325)]),
 om 83 85,
 oo 86 (.ext (.tmp 83) 0),
 oo 87 (.ext (.tmp 83) 1),
 oo 12 (.alloc [.lit (.int .i64 0),.lit (.int .u32 0),.lit (.int .i64 0)]),
 ⟨none,.store 3 (.tmp 12) (.tmp 86),none⟩,
 om 13 87] [82,83,84,85,86,87])
 (.seq
 (.region false [
 om 88 10,
 oo 89 (.callm 24 [.tmp 88,.const (.int .i64 0),.const (.int .u32 335544325)]),
 om 14 89] [10,88,89])
 (.seq
 (.seq
 (.region false [
 om 90 1,
 oo 91 (.bin .eql 3 (.tmp 90) (.const (.int .i64 1)))] [1,90])
 (.cond (.tmp 91)
 (.seq
 (.region true [
 om 92 5,
 om 93 92,
 og 94 (.mov (.tmp 13)) 93 true,
 oo 95 (.pick (.tmp 93) (.tmp 94) (.const (.bool false))),
 om 96 95,
 og 97 (.faddr 0 1 (.tmp 12)) 96 true,
 og 98 (.load false 1 (.tmp 97)) 96 true,
 og 99 (.bin .eql 3 (.tmp 98) (.const (.int .i64 0))) 96 true,
 oo 100 (.pick (.tmp 96) (.tmp 99) (.const (.bool false))),
 om 101 100,
 og 102 (.faddr 1 1 (.tmp 12)) 101 true,
 og 103 (.load false 1 (.tmp 102)) 101 true,
 og 104 (.call 21 [.const (.int .i64 0),.const (.int .i64 70)]) 101 true,
 og 105 (.bin .eql 45 (.tmp 103) (.tmp 104)) 101 true,
 oo 106 (.pick (.tmp 101) (.tmp 105) (.const (.bool false))),
 om 107 106,
 og 108 (.faddr 2 1 (.tmp 12)) 107 true,
 og 109 (.load false 1 (.tmp 108)) 107 true,
 og 110 (.bin .eql 3 (.tmp 109) (.const (.int .i64 900))) 107 true,
 oo 111 (.pick (.tmp 107) (.tmp 110) (.const (.bool false))),
 om 112 111,
 og 113 (.mov (.tmp 14)) 112 true,
 og 114 (.mov (.tmp 0)) 112 true,
 og 115 (.lenl (.tmp 114)) 112 true,
 og 116 (.bslice 1 1 [.tmp 115]) 112 true,
 og 117 (.call 16 [.tmp 113,.tmp 116]) 112 true,
 oo 118 (.pick (.tmp 112) (.tmp 117) (.const (.bool false))),
 om 4 118] [0,5,6,7,12,13,14,91,92,93,94,95,96,97,98,99,100,101,102,103,104,105,106,107,108,109,110,111,112,113,114,115,116,117,118])
 .ret)
 .skip))
 (.seq
 (.region true [
 om 119 5,
 om 120 119,
 og 121 (.mov (.tmp 13)) 120 true,
 oo 122 (.pick (.tmp 120) (.tmp 121) (.const (.bool false))),
 om 123 122,
 og 124 (.faddr 0 1 (.tmp 12)) 123 true,
 og 125 (.load false 1 (.tmp 124)) 123 true,
 og 126 (.bin .eql 3 (.tmp 125) (.const (.int .i64 1))) 123 true,
 oo 127 (.pick (.tmp 123) (.tmp 126) (.const (.bool false))),
 om 128 127,
 og 129 (.faddr 1 1 (.tmp 12)) 128 true,
 og 130 (.load false 1 (.tmp 129)) 128 true,
 og 131 (.mov (.tmp 7)) 128 true,
 og 132 (.bin .add 3 (.const (.int .i64 50)) (.tmp 131)) 128 true,
 og 133 (.call 21 [.const (.int .i64 1),.tmp 132]) 128 true,
 og 134 (.bin .eql 45 (.tmp 130) (.tmp 133)) 128 true,
 oo 135 (.pick (.tmp 128) (.tmp 134) (.const (.bool false))),
 om 136 135,
 og 137 (.faddr 2 1 (.tmp 12)) 136 true,
 og 138 (.load false 1 (.tmp 137)) 136 true,
 og 139 (.faddr 3 1 (.tmp 6)) 136 true,
 og 140 (.load false 1 (.tmp 139)) 136 true,
 og 141 (.mov (.tmp 7)) 136 true,
 og 142 (.iaddr 5 (.tmp 140) (.tmp 141)) 136 true,
 og 143 (.faddr 4 1 (.tmp 142)) 136 true,
 og 144 (.load false 1 (.tmp 143)) 136 true,
 og 145 (.bin .eql 3 (.tmp 138) (.tmp 144)) 136 true,
 oo 146 (.pick (.tmp 136) (.tmp 145) (.const (.bool false))),
 om 147 146,
 og 148 (.mov (.tmp 14)) 147 true,
 og 149 (.lenl (.tmp 148)) 147 true,
 og 150 (.mov (.tmp 0)) 147 true,
 og 151 (.lenl (.tmp 150)) 147 true,
 og 152 (.bin .eql 3 (.tmp 149) (.tmp 151)) 147 true,
 oo 153 (.pick (.tmp 147) (.tmp 152) (.const (.bool false))),
 om 4 153] [0,5,6,7,12,13,14,91,119,120,121,122,123,124,125,126,127,128,129,130,131,132,133,134,135,136,137,138,139,140,141,142,143,144,145,146,147,148,149,150,151,152,153])
 .ret))))))))))))))))
abbrev v_q4 : List RV:= [.tmp 4]
abbrev f_q4 : FuncId:= 7
theorem k_q4 : closedOf Tryd.prog Tryd.f7 = (false,some true,some v_q4,some c_q4.plain,154):= by kernel_rfl
theorem ac_q4 {args : List AV} {r : AV} (h : aw Tryd.prog c_q4 (env0 args) (endQ v_q4 r)) (hargs : args.length ≤ 154:= by decide) (hok : resOK r = true:= by rfl) : AC Tryd.prog f_q4 args r :=
  AC_mk (by kernel_rfl) Tryd.func7 k_q4 hargs hok (by decide) h
def c_q5 : ACode :=
 (.seq
 (.region false [
 oo 4 (.mov (.const (.bool false)))] [4])
 (.seq
 (.region false [
 oo 16 (.callm 22 []),
 om 5 16] [16])
 (.seq
 (.seq
 (.region false [
 om 17 5,
 oo 18 (.un .not (.tmp 17))] [17])
 (.cond (.tmp 18)
 (.seq
 (.region false [
 oo 4 (.mov (.const (.bool false)))] [0,1,5,18])
 .ret)
 .skip))
 (.seq
 (.region false [
 om 19 0,
 oo 20 (.callm 11 [.tmp 19,.const (.int .i64 6)]),
 oo 21 (.bin .add 3 (.tmp 20) (.const (.int .i64 1))),
 om 0 21] [18,19,20,21])
 (.seq
 (.region false [
 oo 22 (.callm 15 [.const (.int .i64 1),.const (.int .i64 0)]),
 oo 6 (.alloc [.sl .nil 0 [],.sl .nil 0 [],.sl .nil 0 [],.sl .nil 0 [],.sl .nil 0 [],.sl .nil 0 [],.sl .nil 0 []]),
 ⟨none,.store 7 (.tmp 6) (.tmp 22),none⟩] [22])
 (.seq
 (.region false [
 oo 23 (.faddr 3 1 (.tmp 6)),
 ⟨none,.store 1 (.tmp 23) (.const (.slice none 0 0)),none⟩] [23])
 (.seq
 (.seq
 (.region false [
 oo 7 (.mov (.const (.int .i64 0)))] [])
 (.block 0
 (.loop
 (.seq
 (.seq
 (.region false [
 om 24 7,
 om 25 0,
 oo 26 (.bin .lss 3 (.tmp 24) (.tmp 25))] [24,25])
 (.cond (.tmp 26)
 .skip
 (.exit 0)))
 (.seq
 (.block 1
 (.region true [
 oo 29 (.faddr 3 1 (.tmp 6)),
 oo 30 (.loadc false 1 (.tmp 29)),
 om 31 7,
 oo 32 (.bin .add 3 (.const (.int .i64 20)) (.tmp 31)),
 oo 33 (.cint .u32 (.tmp 32)),
 oo 34 (.bin .shl 45 (.tmp 33) (.const (.int .u64 24))),
 oo 35 (.build [.lit (.int .u32 0),.lit (.int .i64 0)] [(0,1,.tmp 34),(1,1,.const (.int .i64 8))]),
 om 36 7,
 oo 37 (.bin .add 3 (.tmp 36) (.const (.int .i64 1))),
 om 38 0,
 oo 39 (.bin .rem 3 (.tmp 37) (.tmp 38)),
 oo 40 (.bin .add 3 (.const (.int .i64 20)) (.tmp 39)),
 oo 41 (.cint .u32 (.tmp 40)),
 oo 42 (.bin .shl 45 (.tmp 41) (.const (.int .u64 24))),
 oo 43 (.bin .add 45 (.tmp 42) (.const (.int .u32 1))),
 oo 44 (.build [.lit (.int .i64 0),.lit (.int .u32 0),.lit (.int .i64 0),.lit (.int .u32 0),.lit (.int .i64 0)] [(1,2,.tmp 35),(3,1,.tmp 43)]),
 oo 45 (.bslice 1 5 [.tmp 44]),
 oo 46 (.app 5 40 [] (.tmp 30) (.tmp 45)),
 oo 47 (.faddr 3 1 (.tmp 6)),
 ⟨none,.store 1 (.tmp 47) (.tmp 46),none⟩] [26,29,30,31,32,33,34,35,36,37,38,39,40,41,42,43,44,45,46,47]) [])
 (.region false [
 om 27 7,
 oo 28 (.bin .add 3 (.tmp 27) (.const (.int .i64 1))),
 om 7 28] [27,28]))) [] []) [0,7,26]))
 (.seq
 (.region false [
 oo 49 (.load true 7 (.tmp 6)),
 oo 50 (.callm 12 [.tmp 49]),
 om 48 50,
 oo 51 (.ext (.tmp 48) 0),
 oo 52 (.ext (.tmp 48) 1),
 om 8 51,
 om 9 52] [6,48,49,50,51,52])
 (.seq
 (.seq
 (.region false [
 om 53 8,
 oo 54 (.eqp false (.tmp 53)),
 om 55 54,
 og 56 (.mov (.tmp 9)) 55 false,
 og 57 (.eqn true (.tmp 56)) 55 false,
 oo 58 (.pick (.tmp 55) (.const (.bool true)) (.tmp 57))] [9,53,54,55,56,57])
 (.cond (.tmp 58)
 (.seq
 (.region false [
 oo 4 (.mov (.const (.bool false)))] [1,5,8,58])
 .ret)
 .skip))
 (.seq
 (.region false [
 om 60 8,
 om 61 1,
 oo 62 (.bin .rem 45 (.tmp 61) (.const (.int .u32 1000))),
 oo 63 (.bin .add 45 (.const (.int .u32 335544320)) (.tmp 62)),
 oo 64 (.callm 23 [.tmp 60,.const (.int .i64 0),.tmp 63]),
 om 59 64,
 oo 65 (.ext (.tmp 59) 0),
 oo 66 (.ext (.tmp 59) 1),
 oo 10 (.alloc [.lit (.int .i64 0),.lit (.int .u32 0),.lit (.int .i64 0)]),
 ⟨none,.store 3 (.tmp 10) (.tmp 65),none⟩,
 om 11 66] [1,10,58,59,60,61,62,63,64,65,66])
 (.seq
 (.region false [
 om 68 8,
 oo 69 (.callm 23 [.tmp 68,.const (.int .i64 0),.const (.int .u32 1660944384)]),
 om 67 69,
 oo 70 (.ext (.tmp 67) 0),
 oo 71 (.ext (.tmp 67) 1),
 oo 12 (.alloc [.lit (.int .i64 0),.lit (.int .u32 0),.lit (.int .i64 0)]),
 ⟨none,.store 3 (.tmp 12) (.tmp 70),none⟩,
 om 13 71] [12,67,68,69,70,71])
 (.seq
 (.region false [
 om 73 8,
 oo 74 (.callm 21 [.const (.int .i64 1),.const (.int .i64 9)]),
 oo 75 (.callm 25 [.tmp 73,.const (.int .i64 0),.tmp 74]),
 om 72 75,
 oo 76 (.ext (.tmp 72) 0),
 oo 77 (.ext (.tmp 72) 1),
 om 14 76,
 om 15 77] [8,72,73,74,75,76,77])
 (.seq
 (.region false [
 om 78 5,
 om 79 78,
 og 80 (.mov (.tmp 11)) 79 true,
 og 81 (.un .not (.tmp 80)) 79 true,
 oo 82 (.pick (.tmp 79) (.tmp 81) (.const (.bool false))),
 om 83 82,
 og 84 (.mov (.tmp 13)) 83 true,
 og 85 (.un .not (.tmp 84)) 83 true,
 oo 86 (.pick (.tmp 83) (.tmp 85) (.const (.bool false))),
 om 87 86,
 og 88 (.mov (.tmp 15)) 87 true,
 oo 89 (.pick (.tmp 87) (.tmp 88) (.const (.bool false))),
 om 90 89,
 og 91 (.mov (.tmp 14)) 90 true,
 og 92 (.bin .eql 3 (.tmp 91) (.const (.int .i64 1))) 90 true,
 oo 93 (.pick (.tmp 90) (.tmp 92) (.const (.bool false))),
 om 4 93] [5,11,13,14,15,78,79,80,81,82,83,84,85,86,87,88,89,90,91,92,93])
 .ret)))))))))))))
abbrev v_q5 : List RV:= [.tmp 4]
abbrev f_q5 : FuncId:= 8
theorem k_q5 : closedOf Tryd.prog Tryd.f8 = (false,some true,some v_q5,some c_q5.plain,94):= by kernel_rfl
theorem ac_q5 {args : List AV} {r : AV} (h : aw Tryd.prog c_q5 (env0 args) (endQ v_q5 r)) (hargs : args.length ≤ 94:= by decide) (hok : resOK r = true:= by rfl) : AC Tryd.prog f_q5 args r :=
  AC_mk (by kernel_rfl) Tryd.func8 k_q5 hargs hok (by decide) h
def c_q8 : ACode :=
 (.seq
 (.region false [
 oo 4 (.mov (.const (.int .i64 0)))] [4])
 (.seq
 (.region false [
 om 6 0,
 om 7 1,
 oo 8 (.bin .rem 3 (.tmp 6) (.tmp 7)),
 om 5 8] [0,6,7,8])
 (.seq
 (.seq
 (.region false [
 om 9 5,
 oo 10 (.bin .lss 3 (.tmp 9) (.const (.int .i64 0)))] [9])
 (.cond (.tmp 10)
 (.region false [
 om 11 5,
 om 12 1,
 oo 13 (.bin .add 3 (.tmp 11) (.tmp 12)),
 om 5 13] [1,10,11,12,13])
 .skip))
 (.seq
 (.region false [
 om 14 5,
 om 4 14] [1,5,10,14])
 .ret))))
abbrev v_q8 : List RV:= [.tmp 4]
abbrev f_q8 : FuncId:= 11
theorem k_q8 : closedOf Tryd.prog Tryd.f11 = (false,some true,some v_q8,some c_q8.plain,15):= by kernel_rfl
theorem ac_q8 {args : List AV} {r : AV} (h : aw Tryd.prog c_q8 (env0 args) (endQ v_q8 r)) (hargs : args.length ≤ 15:= by decide) (hok : resOK r = true:= by rfl) : AC Tryd.prog f_q8 args r :=
  AC_mk (by kernel_rfl) Tryd.func11 k_q8 hargs hok (by decide) h
def c_q9 : ACode :=
 (.seq
 (.region false [
 oo 1 (.box (.tmp 0)),
 oo 2 (.mov (.const (.pointer none))),
 oo 3 (.mov (.const (.nilIface)))] [0,2,3])
 (.seq
 (.seq
 (.region false [
 oo 12 (.load true 7 (.tmp 1)),
 oo 13 (.callm 31 [.tmp 12]),
 om 4 13] [12,13])
 (.seq
 (.region false [
 om 14 4,
 oo 15 (.eqn true (.tmp 14))] [14])
 (.cond (.tmp 15)
 (.seq
 (.region false [
 om 16 4,
 oo 2 (.mov (.const (.pointer none))),
 om 3 16] [1,4,15,16])
 .ret)
 .skip)))
 (.seq
 (.region true [
 oo 17 (.load true 7 (.tmp 1)),
 oo 18 (.call 32 [.tmp 17]),
 oo 19 (.faddr 1 1 (.tmp 1)),
 oo 20 (.load false 1 (.tmp 19)),
 oo 21 (.lenl (.tmp 20)),
 oo 22 (.mkf false 1 24 [.sl .nil 0 []] (.tmp 21) (.tmp 21)),
 oo 23 (.faddr 0 1 (.tmp 1)),
 oo 24 (.load false 1 (.tmp 23)),
 oo 25 (.lenl (.tmp 24)),
 oo 26 (.mkf false 1 24 [.sl .nil 0 []] (.tmp 25) (.tmp 25)),
 oo 27 (.mkm),
 oo 28 (.faddr 1 1 (.tmp 1)),
 oo 29 (.load false 1 (.tmp 28)),
 oo 30 (.lenl (.tmp 29)),
 oo 31 (.mkf false 1 24 [.sl .nil 0 []] (.tmp 30) (.tmp 30)),
 oo 32 (.build [.sl .nil 0 [],.sl .nil 0 [],.sl .nil 0 [],.sl .nil 0 [],.sl .nil 0 [],.sl .nil 0 [],.sl .nil 0 [],.sl .nil 0 [],.sl .nil 0 [],.lit (.map none),.sl .nil 0 [],.sl .nil 0 []] [(0,7,.tmp 18),(7,1,.tmp 22),(8,1,.tmp 26),(9,1,.tmp 27),(10,1,.tmp 31)]),
 oo 33 (.box (.tmp 32)),
 om 5 33] [4,15,17,18,19,20,21,22,23,24,25,26,27,28,29,30,31,32,33])
 (.seq
 (.seq
 (.shift
 (.region false [
 oo 34 (.faddr 2 1 (.tmp 1)),
 oo 35 (.load false 1 (.tmp 34)),
 oo 36 (.lenl (.tmp 35)),
 oo 37 (.mov (.const (.int .i64 0)))] [34]))
 (.block 0
 (.loop
 (.seq
 (.region false [
 oo 38 (.bin .lss 3 (.tmp 37) (.tmp 36))] [])
 (.seq
 (.cond (.tmp 38)
 .skip
 (.exit 0))
 (.seq
 (.block 1
 (.seq
 (.region false [
 om 39 37,
 oo 40 (.iaddr 3 (.tmp 35) (.tmp 37)),
 oo 41 (.load true 3 (.tmp 40)),
 oo 7 (.alloc [.lit (.int .i64 0),.lit (.int .i64 0),.lit (.int .u32 0)]),
 om 6 39,
 ⟨none,.store 3 (.tmp 7) (.tmp 41),none⟩] [38,39,40,41])
 (.seq
 (.region true [
 om 42 5,
 oo 43 (.nilchk (.tmp 42)),
 oo 44 (.faddr 7 1 (.tmp 43)),
 oo 45 (.loadc false 1 (.tmp 44)),
 oo 46 (.faddr 1 1 (.tmp 7)),
 oo 47 (.loadc false 1 (.tmp 46)),
 om 48 5,
 oo 49 (.nilchk (.tmp 48)),
 oo 50 (.faddr 7 1 (.tmp 49)),
 oo 51 (.loadc false 1 (.tmp 50)),
 oo 52 (.faddr 1 1 (.tmp 7)),
 oo 53 (.loadc false 1 (.tmp 52)),
 oo 54 (.iaddr 1 (.tmp 51) (.tmp 53)),
 oo 55 (.loadc false 1 (.tmp 54)),
 om 56 6,
 oo 57 (.bslice 1 1 [.tmp 56]),
 oo 58 (.app 1 8 [] (.tmp 55) (.tmp 57)),
 oo 59 (.iaddr 1 (.tmp 45) (.tmp 47)),
 ⟨none,.store 1 (.tmp 59) (.tmp 58),none⟩] [42,43,44,45,46,47,48,49,50,51,52,53,54,55,56,57,58,59])
 (.seq
 (.region true [
 om 60 5,
 oo 61 (.nilchk (.tmp 60)),
 oo 62 (.faddr 8 1 (.tmp 61)),
 oo 63 (.loadc false 1 (.tmp 62)),
 oo 64 (.faddr 0 1 (.tmp 7)),
 oo 65 (.loadc false 1 (.tmp 64)),
 om 66 5,
 oo 67 (.nilchk (.tmp 66)),
 oo 68 (.faddr 8 1 (.tmp 67)),
 oo 69 (.loadc false 1 (.tmp 68)),
 oo 70 (.faddr 0 1 (.tmp 7)),
 oo 71 (.loadc false 1 (.tmp 70)),
 oo 72 (.iaddr 1 (.tmp 69) (.tmp 71)),
 oo 73 (.loadc false 1 (.tmp 72)),
 om 74 6,
 oo 75 (.bslice 1 1 [.tmp 74]),
 oo 76 (.app 1 8 [] (.tmp 73) (.tmp 75)),
 oo 77 (.iaddr 1 (.tmp 63) (.tmp 65)),
 ⟨none,.store 1 (.tmp 77) (.tmp 76),none⟩] [60,61,62,63,64,65,66,67,68,69,70,71,72,73,74,75,76,77])
 (.region true [
 om 78 5,
 oo 79 (.nilchk (.tmp 78)),
 oo 80 (.faddr 9 1 (.tmp 79)),
 oo 81 (.load false 1 (.tmp 80)),
 oo 82 (.faddr 2 1 (.tmp 7)),
 oo 83 (.load false 1 (.tmp 82)),
 om 84 6,
 ⟨none,.mup false (.tmp 81) (.tmp 83) (.tmp 84),none⟩] [6,7,78,79,80,81,82,83,84])))) [])
 (.shift
 (.region false [
 oo 85 (.bin .add 3 (.tmp 37) (.const (.int .i64 1))),
 om 37 85] [85]))))) [] [7]) [35,36,37,38]))
 (.seq
 (.seq
 (.shift
 (.region false [
 oo 86 (.faddr 6 1 (.tmp 1)),
 oo 87 (.load false 1 (.tmp 86)),
 oo 88 (.lenl (.tmp 87)),
 oo 89 (.mov (.const (.int .i64 0)))] [86]))
 (.block 2
 (.loop
 (.seq
 (.region false [
 oo 90 (.bin .lss 3 (.tmp 89) (.tmp 88))] [])
 (.seq
 (.cond (.tmp 90)
 .skip
 (.exit 2))
 (.seq
 (.block 3
 (.seq
 (.region false [
 om 91 89,
 oo 92 (.iaddr 4 (.tmp 87) (.tmp 89)),
 oo 93 (.load true 4 (.tmp 92)),
 oo 9 (.alloc [.lit (.int .i64 0),.lit (.int .u32 0),.lit (.bool false),.sl .nil 0 []]),
 om 8 91,
 ⟨none,.store 4 (.tmp 9) (.tmp 93),none⟩] [90,91,92,93])
 (.seq
 (.region true [
 om 94 5,
 oo 95 (.nilchk (.tmp 94)),
 oo 96 (.faddr 10 1 (.tmp 95)),
 oo 97 (.loadc false 1 (.tmp 96)),
 oo 98 (.faddr 0 1 (.tmp 9)),
 oo 99 (.loadc false 1 (.tmp 98)),
 om 100 5,
 oo 101 (.nilchk (.tmp 100)),
 oo 102 (.faddr 10 1 (.tmp 101)),
 oo 103 (.loadc false 1 (.tmp 102)),
 oo 104 (.faddr 0 1 (.tmp 9)),
 oo 105 (.loadc false 1 (.tmp 104)),
 oo 106 (.iaddr 1 (.tmp 103) (.tmp 105)),
 oo 107 (.loadc false 1 (.tmp 106)),
 om 108 8,
 oo 109 (.bslice 1 1 [.tmp 108]),
 oo 110 (.app 1 8 [] (.tmp 107) (.tmp 109)),
 oo 111 (.iaddr 1 (.tmp 97) (.tmp 99)),
 ⟨none,.store 1 (.tmp 111) (.tmp 110),none⟩] [8,94,95,96,97,98,99,100,101,102,103,104,105,106,107,108,109,110,111])
 (.region true [
 om 112 5,
 om 113 5,
 oo 114 (.nilchk (.tmp 113)),
 oo 115 (.faddr 11 1 (.tmp 114)),
 oo 116 (.loadc false 1 (.tmp 115)),
 oo 117 (.faddr 1 1 (.tmp 9)),
 oo 118 (.loadc false 1 (.tmp 117)),
 oo 119 (.bslice 1 1 [.tmp 118]),
 oo 120 (.app 1 4 [] (.tmp 116) (.tmp 119)),
 oo 121 (.nilchk (.tmp 112)),
 oo 122 (.faddr 11 1 (.tmp 121)),
 ⟨none,.store 1 (.tmp 122) (.tmp 120),none⟩] [9,112,113,114,115,116,117,118,119,120,121,122]))) [])
 (.shift
 (.region false [
 oo 123 (.bin .add 3 (.tmp 89) (.const (.int .i64 1))),
 om 89 123] [123]))))) [] [9]) [87,88,89,90]))
 (.seq
 (.seq
 (.shift
 (.region false [
 oo 124 (.faddr 5 1 (.tmp 1)),
 oo 125 (.load false 1 (.tmp 124)),
 oo 126 (.lenl (.tmp 125)),
 oo 127 (.mov (.const (.int .i64 0)))] [1,124]))
 (.block 4
 (.loop
 (.seq
 (.region false [
 oo 128 (.bin .lss 3 (.tmp 127) (.tmp 126))] [])
 (.seq
 (.cond (.tmp 128)
 .skip
 (.exit 4))
 (.seq
 (.block 5
 (.seq
 (.region false [
 oo 129 (.iaddr 3 (.tmp 125) (.tmp 127)),
 oo 130 (.load true 3 (.tmp 129)),
 oo 11 (.alloc [.lit (.int .i64 0),.lit (.int .u32 0),.lit (.int .u32 0)]),
 ⟨none,.store 3 (.tmp 11) (.tmp 130),none⟩] [128,129,130])
 (.region true [
 om 131 5,
 om 132 5,
 oo 133 (.nilchk (.tmp 132)),
 oo 134 (.faddr 11 1 (.tmp 133)),
 oo 135 (.loadc false 1 (.tmp 134)),
 oo 136 (.faddr 1 2 (.tmp 11)),
 oo 137 (.faddr 1 1 (.tmp 136)),
 oo 138 (.loadc false 1 (.tmp 137)),
 oo 139 (.bslice 1 1 [.tmp 138]),
 oo 140 (.app 1 4 [] (.tmp 135) (.tmp 139)),
 oo 141 (.nilchk (.tmp 131)),
 oo 142 (.faddr 11 1 (.tmp 141)),
 ⟨none,.store 1 (.tmp 142) (.tmp 140),none⟩] [11,131,132,133,134,135,136,137,138,139,140,141,142])) [])
 (.region false [
 oo 143 (.bin .add 3 (.tmp 127) (.const (.int .i64 1))),
 om 127 143] [143])))) [] [11]) [125,126,127,128]))
 (.seq
 (.shift
 (.region false [
 om 144 5,
 oo 145 (.nilchk (.tmp 144)),
 oo 146 (.faddr 11 1 (.tmp 145)),
 oo 147 (.load false 1 (.tmp 146)),
 oo 148 (.callm 33 [.tmp 147])] [144,145,146,147,148]))
 (.seq
 (.region false [
 om 149 5,
 om 150 5,
 oo 151 (.nilchk (.tmp 150)),
 oo 152 (.faddr 11 1 (.tmp 151)),
 oo 153 (.load false 1 (.tmp 152)),
 oo 154 (.callm 34 [.tmp 153]),
 oo 155 (.nilchk (.tmp 149)),
 oo 156 (.faddr 11 1 (.tmp 155)),
 ⟨none,.store 1 (.tmp 156) (.tmp 154),none⟩] [149,150,151,152,153,154,155,156])
 (.seq
 (.region false [
 om 157 5,
 om 2 157,
 oo 3 (.mov (.const (.nilIface)))] [5,157])
 .ret)))))))))
abbrev v_q9 : List RV:= [.tmp 2,.tmp 3]
abbrev f_q9 : FuncId:= 12
theorem k_q9 : closedOf Tryd.prog Tryd.f12 = (false,some true,some v_q9,some c_q9.plain,158):= by kernel_rfl
theorem ac_q9 {args : List AV} {r : AV} (h : aw Tryd.prog c_q9 (env0 args) (endQ v_q9 r)) (hargs : args.length ≤ 158:= by decide) (hok : resOK r = true:= by rfl) : AC Tryd.prog f_q9 args r :=
  AC_mk (by kernel_rfl) Tryd.func12 k_q9 hargs hok (by decide) h
def c_q11 : ACode :=
 (.seq
 (.region false [
 oo 0 (.mov (.const (.bool false)))] [0])
 (.seq
 (.region false [
 oo 4 (.build [.sl .nil 0 [],.sl .nil 0 [],.sl .nil 0 [],.sl .nil 0 [],.sl .nil 0 [],.sl .nil 0 [],.sl .nil 0 []] []),
 oo 5 (.callm 12 [.tmp 4]),
 om 3 5,
 oo 6 (.ext (.tmp 3) 0),
 oo 7 (.ext (.tmp 3) 1),
 om 1 6,
 om 2 7] [3,4,5,6,7])
 (.seq
 (.region false [
 om 8 1,
 oo 9 (.eqp true (.tmp 8)),
 om 10 9,
 og 11 (.mov (.tmp 2)) 10 true,
 og 12 (.eqn false (.tmp 11)) 10 true,
 oo 13 (.pick (.tmp 10) (.tmp 12) (.const (.bool false))),
 om 14 13,
 og 15 (.mov (.tmp 1)) 14 true,
 og 16 (.callm 36 [.tmp 15]) 14 true,
 og 17 (.lenl (.tmp 16)) 14 true,
 og 18 (.bin .eql 3 (.tmp 17) (.const (.int .i64 0))) 14 true,
 oo 19 (.pick (.tmp 14) (.tmp 18) (.const (.bool false))),
 om 0 19] [1,2,8,9,10,11,12,13,14,15,16,17,18,19])
 .ret)))
abbrev v_q11 : List RV:= [.tmp 0]
abbrev f_q11 : FuncId:= 14
theorem k_q11 : closedOf Tryd.prog Tryd.f14 = (false,some true,some v_q11,some c_q11.plain,20):= by kernel_rfl
theorem ac_q11 {args : List AV} {r : AV} (h : aw Tryd.prog c_q11 (env0 args) (endQ v_q11 r)) (hargs : args.length ≤ 20:= by decide) (hok : resOK r = true:= by rfl) : AC Tryd.prog f_q11 args r :=
  AC_mk (by kernel_rfl) Tryd.func14 k_q11 hargs hok (by decide) h
def c_q12 : ACode :=
 (.seq
 (.region false [
 oo 4 (.alloc [.sl .nil 0 [],.sl .nil 0 [],.sl .nil 0 [],.sl .nil 0 [],.sl .nil 0 [],.sl .nil 0 [],.sl .nil 0 []])] [])
 (.seq
 (.region false [
 oo 10 (.build [.sl .nil 0 [],.sl .nil 0 [],.sl .nil 0 [],.sl .nil 0 [],.sl .nil 0 [],.sl .nil 0 [],.sl .nil 0 []] []),
 oo 5 (.alloc [.sl .nil 0 [],.sl .nil 0 [],.sl .nil 0 [],.sl .nil 0 [],.sl .nil 0 [],.sl .nil 0 [],.sl .nil 0 []]),
 ⟨none,.store 7 (.tmp 5) (.tmp 10),none⟩] [10])
 (.seq
 (.seq
 (.region false [
 oo 6 (.mov (.const (.int .i64 0)))] [])
 (.block 0
 (.loop
 (.seq
 (.seq
 (.region false [
 om 11 6,
 om 12 0,
 oo 13 (.bin .leq 3 (.tmp 11) (.tmp 12))] [11,12])
 (.cond (.tmp 13)
 .skip
 (.exit 0)))
 (.seq
 (.block 1
 (.region true [
 oo 16 (.faddr 1 1 (.tmp 5)),
 oo 17 (.loadc false 1 (.tmp 16)),
 om 18 6,
 oo 19 (.call 27 [.tmp 18]),
 oo 20 (.bslice 1 3 [.tmp 19]),
 oo 21 (.app 3 32 [] (.tmp 17) (.tmp 20)),
 oo 22 (.faddr 1 1 (.tmp 5)),
 ⟨none,.store 1 (.tmp 22) (.tmp 21),none⟩] [13,16,17,18,19,20,21,22]) [])
 (.region false [
 om 14 6,
 oo 15 (.bin .add 3 (.tmp 14) (.const (.int .i64 1))),
 om 6 15] [14,15]))) [] []) [6,13]))
 (.seq
 (.seq
 (.region false [
 oo 7 (.mov (.const (.int .i64 0)))] [])
 (.block 2
 (.loop
 (.seq
 (.seq
 (.region false [
 om 23 7,
 om 24 0,
 oo 25 (.bin .lss 3 (.tmp 23) (.tmp 24))] [23,24])
 (.cond (.tmp 25)
 .skip
 (.exit 2)))
 (.seq
 (.block 3
 (.seq
 (.region true [
 oo 28 (.faddr 0 1 (.tmp 5)),
 oo 29 (.loadc false 1 (.tmp 28)),
 om 30 7,
 oo 31 (.call 28 [.const (.string ⟨#[114]⟩),.tmp 30]),
 oo 32 (.build [.lit (.string ⟨#[]⟩),.lit (.int .i64 0)] [(0,1,.tmp 31),(1,1,.const (.int .i64 1))]),
 oo 33 (.bslice 1 2 [.tmp 32]),
 oo 34 (.app 2 24 [] (.tmp 29) (.tmp 33)),
 oo 35 (.faddr 0 1 (.tmp 5)),
 ⟨none,.store 1 (.tmp 35) (.tmp 34),none⟩] [25,28,29,30,31,32,33,34,35])
 (.region true [
 oo 36 (.faddr 2 1 (.tmp 5)),
 oo 37 (.loadc false 1 (.tmp 36)),
 om 38 7,
 om 39 7,
 oo 40 (.call 29 [.tmp 38,.tmp 39]),
 om 41 7,
 om 42 7,
 oo 43 (.bin .add 3 (.tmp 42) (.const (.int .i64 1))),
 oo 44 (.call 29 [.tmp 41,.tmp 43]),
 oo 45 (.bslice 2 3 [.tmp 40,.tmp 44]),
 oo 46 (.app 3 24 [] (.tmp 37) (.tmp 45)),
 oo 47 (.faddr 2 1 (.tmp 5)),
 ⟨none,.store 1 (.tmp 47) (.tmp 46),none⟩] [36,37,38,39,40,41,42,43,44,45,46,47])) [])
 (.region false [
 om 26 7,
 oo 27 (.bin .add 3 (.tmp 26) (.const (.int .i64 1))),
 om 7 27] [26,27]))) [] []) [7,25]))
 (.seq
 (.seq
 (.region false [
 oo 8 (.mov (.const (.int .i64 0)))] [])
 (.block 4
 (.loop
 (.seq
 (.seq
 (.region false [
 om 48 8,
 om 49 0,
 oo 50 (.bin .lss 3 (.tmp 48) (.tmp 49))] [48,49])
 (.cond (.tmp 50)
 .skip
 (.exit 4)))
 (.seq
 (.block 5
 (.seq
 (.region false [
 oo 9 (.mov (.const (.int .i64 0)))] [50])
 (.block 6
 (.loop
 (.seq
 (.seq
 (.region false [
 om 53 9,
 om 54 0,
 oo 55 (.bin .leq 3 (.tmp 53) (.tmp 54))] [53,54])
 (.cond (.tmp 55)
 .skip
 (.exit 6)))
 (.seq
 (.block 7
 (.seq
 (.seq
 (.region false [
 om 58 9,
 om 59 8,
 oo 60 (.bin .lss 3 (.tmp 58) (.tmp 59))] [55,58,59])
 (.cond (.tmp 60)
 (.region true [
 oo 61 (.faddr 3 1 (.tmp 5)),
 oo 62 (.loadc false 1 (.tmp 61)),
 om 63 8,
 oo 64 (.faddr 1 1 (.tmp 5)),
 oo 65 (.loadc false 1 (.tmp 64)),
 om 66 9,
 oo 67 (.iaddr 3 (.tmp 65) (.tmp 66)),
 oo 68 (.faddr 1 2 (.tmp 67)),
 oo 69 (.loadc true 2 (.tmp 68)),
 om 70 8,
 om 71 8,
 oo 72 (.call 21 [.tmp 70,.tmp 71]),
 om 73 8,
 om 74 9,
 oo 75 (.bin .sub 3 (.tmp 73) (.tmp 74)),
 oo 76 (.build [.lit (.int .i64 0),.lit (.int .u32 0),.lit (.int .i64 0),.lit (.int .u32 0),.lit (.int .i64 0)] [(0,1,.tmp 63),(1,2,.tmp 69),(3,1,.tmp 72),(4,1,.tmp 75)]),
 oo 77 (.bslice 1 5 [.tmp 76]),
 oo 78 (.app 5 40 [] (.tmp 62) (.tmp 77)),
 oo 79 (.faddr 3 1 (.tmp 5)),
 ⟨none,.store 1 (.tmp 79) (.tmp 78),none⟩] [60,61,62,63,64,65,66,67,68,69,70,71,72,73,74,75,76,77,78,79])
 .skip))
 (.seq
 (.region false [
 om 80 9,
 om 81 8,
 oo 82 (.bin .add 3 (.tmp 81) (.const (.int .i64 1))),
 oo 83 (.bin .gtr 3 (.tmp 80) (.tmp 82))] [60,80,81,82])
 (.cond (.tmp 83)
 (.region true [
 oo 84 (.faddr 3 1 (.tmp 5)),
 oo 85 (.loadc false 1 (.tmp 84)),
 om 86 8,
 oo 87 (.faddr 1 1 (.tmp 5)),
 oo 88 (.loadc false 1 (.tmp 87)),
 om 89 9,
 oo 90 (.iaddr 3 (.tmp 88) (.tmp 89)),
 oo 91 (.faddr 1 2 (.tmp 90)),
 oo 92 (.loadc true 2 (.tmp 91)),
 om 93 8,
 oo 94 (.bin .add 3 (.tmp 93) (.const (.int .i64 1))),
 om 95 8,
 oo 96 (.bin .add 3 (.tmp 95) (.const (.int .i64 2))),
 oo 97 (.call 21 [.tmp 94,.tmp 96]),
 om 98 9,
 om 99 8,
 oo 100 (.bin .sub 3 (.tmp 98) (.tmp 99)),
 oo 101 (.build [.lit (.int .i64 0),.lit (.int .u32 0),.lit (.int .i64 0),.lit (.int .u32 0),.lit (.int .i64 0)] [(0,1,.tmp 86),(1,2,.tmp 92),(3,1,.tmp 97),(4,1,.tmp 100)]),
 oo 102 (.bslice 1 5 [.tmp 101]),
 oo 103 (.app 5 40 [] (.tmp 85) (.tmp 102)),
 oo 104 (.faddr 3 1 (.tmp 5)),
 ⟨none,.store 1 (.tmp 104) (.tmp 103),none⟩] [83,84,85,86,87,88,89,90,91,92,93,94,95,96,97,98,99,100,101,102,103,104])
 .skip))) [83])
 (.region false [
 om 56 9,
 oo 57 (.bin .add 3 (.tmp 56) (.const (.int .i64 1))),
 om 9 57] [56,57]))) [] []) [9,55])) [])
 (.region false [
 om 51 8,
 oo 52 (.bin .add 3 (.tmp 51) (.const (.int .i64 1))),
 om 8 52] [51,52]))) [] []) [0,8,50]))
 (.seq
 (.region false [
 oo 105 (.callm 30 []),
 om 106 1,
 om 107 1,
 oo 108 (.bin .add 3 (.tmp 107) (.const (.int .i64 1))),
 oo 109 (.callm 21 [.tmp 106,.tmp 108]),
 oo 110 (.build [.lit (.int .u32 0),.lit (.int .i64 0),.lit (.int .u32 0)] [(0,2,.tmp 105),(2,1,.tmp 109)]),
 oo 111 (.bslice 1 3 [.tmp 110]),
 oo 112 (.faddr 4 1 (.tmp 5)),
 ⟨none,.store 1 (.tmp 112) (.tmp 111),none⟩] [1,105,106,107,108,109,110,111,112])
 (.seq
 (.region false [
 oo 113 (.load true 7 (.tmp 5)),
 ⟨none,.store 7 (.tmp 4) (.tmp 113),none⟩] [5,113])
 .ret)))))))
abbrev v_q12 : List RV:= [.cell true 7 4]
abbrev f_q12 : FuncId:= 15
theorem k_q12 : closedOf Tryd.prog Tryd.f15 = (false,some true,some v_q12,some c_q12.plain,114):= by kernel_rfl
theorem ac_q12 {args : List AV} {r : AV} (h : aw Tryd.prog c_q12 (env0 args) (endQ v_q12 r)) (hargs : args.length ≤ 114:= by decide) (hok : resOK r = true:= by rfl) : AC Tryd.prog f_q12 args r :=
  AC_mk (by kernel_rfl) Tryd.func15 k_q12 hargs hok (by decide) h
def c_q13 : ACode :=
 (.seq
 (.region false [
 oo 4 (.mov (.const (.bool false)))] [4])
 (.seq
 (.seq
 (.region false [
 om 7 0,
 oo 8 (.lenl (.tmp 7)),
 om 9 1,
 oo 10 (.lenl (.tmp 9)),
 oo 11 (.bin .neq 3 (.tmp 8) (.tmp 10))] [7,8,9,10])
 (.cond (.tmp 11)
 (.seq
 (.region false [
 oo 4 (.mov (.const (.bool false)))] [0,1,11])
 .ret)
 .skip))
 (.seq
 (.seq
 (.region false [
 oo 5 (.mov (.const (.int .i64 0)))] [11])
 (.block 0
 (.loop
 (.seq
 (.seq
 (.region false [
 om 12 5,
 om 13 0,
 oo 14 (.lenl (.tmp 13)),
 oo 15 (.bin .lss 3 (.tmp 12) (.tmp 14))] [12,13,14])
 (.cond (.tmp 15)
 .skip
 (.exit 0)))
 (.seq
 (.block 1
 (.seq
 (.region true [
 om 18 0,
 om 19 5,
 oo 20 (.iaddr 1 (.tmp 18) (.tmp 19)),
 oo 21 (.load false 1 (.tmp 20)),
 om 22 1,
 om 23 5,
 oo 24 (.iaddr 1 (.tmp 22) (.tmp 23)),
 oo 25 (.load false 1 (.tmp 24)),
 oo 26 (.bin .eql 3 (.tmp 21) (.tmp 25)),
 om 6 26] [15,18,19,20,21,22,23,24,25,26])
 (.seq
 (.region false [
 om 27 6,
 oo 28 (.un .not (.tmp 27))] [6,27])
 (.cond (.tmp 28)
 (.seq
 (.region false [
 oo 4 (.mov (.const (.bool false)))] [0,1,5,28])
 .ret)
 .skip))) [28])
 (.region false [
 om 16 5,
 oo 17 (.bin .add 3 (.tmp 16) (.const (.int .i64 1))),
 om 5 17] [16,17]))) [] []) [0,1,5,15]))
 (.seq
 (.region false [
 oo 4 (.mov (.const (.bool true)))] [])
 .ret))))
abbrev v_q13 : List RV:= [.tmp 4]
abbrev f_q13 : FuncId:= 16
theorem k_q13 : closedOf Tryd.prog Tryd.f16 = (false,some true,some v_q13,some c_q13.plain,29):= by kernel_rfl
theorem ac_q13 {args : List AV} {r : AV} (h : aw Tryd.prog c_q13 (env0 args) (endQ v_q13 r)) (hargs : args.length ≤ 29:= by decide) (hok : resOK r = true:= by rfl) : AC Tryd.prog f_q13 args r :=
  AC_mk (by kernel_rfl) Tryd.func16 k_q13 hargs hok (by decide) h
def c_q14 : ACode :=
 (.seq
 (.region false [
 oo 4 (.mov (.const (.slice none 0 0)))] [4])
 (.seq
 (.region false [
 om 5 0,
 oo 6 (.nilchk (.tmp 5)),
 oo 7 (.faddr 8 1 (.tmp 6)),
 oo 8 (.load false 1 (.tmp 7)),
 om 9 1,
 oo 10 (.callm 37 [.tmp 8,.tmp 9]),
 om 4 10] [0,1,5,6,7,8,9,10])
 .ret))
abbrev v_q14 : List RV:= [.tmp 4]
abbrev f_q14 : FuncId:= 17
theorem k_q14 : closedOf Tryd.prog Tryd.f17 = (false,some true,some v_q14,some c_q14.plain,11):= by kernel_rfl
theorem ac_q14 {args : List AV} {r : AV} (h : aw Tryd.prog c_q14 (env0 args) (endQ v_q14 r)) (hargs : args.length ≤ 11:= by decide) (hok : resOK r = true:= by rfl) : AC Tryd.prog f_q14 args r :=
  AC_mk (by kernel_rfl) Tryd.func17 k_q14 hargs hok (by decide) h
def c_q15 : ACode :=
 (.seq
 (.region false [
 oo 2 (.box (.tmp 0)),
 oo 4 (.mov (.const (.slice none 0 0)))] [0,4])
 (.seq
 (.seq
 (.region false [
 om 6 1,
 oo 7 (.bin .lss 3 (.tmp 6) (.const (.int .i64 0))),
 om 8 7,
 og 9 (.mov (.tmp 1)) 8 false,
 og 10 (.load false 1 (.tmp 2)) 8 false,
 og 11 (.nilchk (.tmp 10)) 8 false,
 og 12 (.faddr 0 7 (.tmp 11)) 8 false,
 og 13 (.faddr 2 1 (.tmp 12)) 8 false,
 og 14 (.load false 1 (.tmp 13)) 8 false,
 og 15 (.lenl (.tmp 14)) 8 false,
 og 16 (.bin .geq 3 (.tmp 9) (.tmp 15)) 8 false,
 oo 17 (.pick (.tmp 8) (.const (.bool true)) (.tmp 16))] [6,7,8,9,10,11,12,13,14,15,16])
 (.cond (.tmp 17)
 (.seq
 (.region false [
 oo 4 (.mov (.const (.slice none 0 0)))] [1,2,17])
 .ret)
 .skip))
 (.seq
 (.region false [
 oo 18 (.load false 1 (.tmp 2)),
 oo 19 (.nilchk (.tmp 18)),
 oo 20 (.faddr 0 7 (.tmp 19)),
 oo 21 (.faddr 2 1 (.tmp 20)),
 oo 22 (.load false 1 (.tmp 21)),
 om 23 1,
 oo 24 (.iaddr 3 (.tmp 22) (.tmp 23)),
 oo 25 (.load true 3 (.tmp 24)),
 oo 5 (.alloc [.lit (.int .i64 0),.lit (.int .i64 0),.lit (.int .u32 0)]),
 ⟨none,.store 3 (.tmp 5) (.tmp 25),none⟩] [1,17,18,19,20,21,22,23,24,25])
 (.seq
 (.split [
 oo 26 (.load false 1 (.tmp 2)),
 oo 27 (.faddr 1 1 (.tmp 5)),
 oo 28 (.load false 1 (.tmp 27)),
 oo 29 (.callm 19 [.tmp 26,.tmp 28])] [
 oo 30 (.mkfn (.func 39) [] [.tmp 2,.tmp 5]),
 oo 31 (.callm 38 [.tmp 29,.tmp 30]),
 om 4 31] [2,5,26,27,28,29,30,31])
 .ret))))
abbrev v_q15 : List RV:= [.tmp 4]
abbrev f_q15 : FuncId:= 18
theorem k_q15 : closedOf Tryd.prog Tryd.f18 = (false,some true,some v_q15,some c_q15.plain,32):= by kernel_rfl
theorem ac_q15 {args : List AV} {r : AV} (h : aw Tryd.prog c_q15 (env0 args) (endQ v_q15 r)) (hargs : args.length ≤ 32:= by decide) (hok : resOK r = true:= by rfl) : AC Tryd.prog f_q15 args r :=
  AC_mk (by kernel_rfl) Tryd.func18 k_q15 hargs hok (by decide) h
def c_q16 : ACode :=
 (.seq
 (.region false [
 oo 4 (.mov (.const (.slice none 0 0)))] [4])
 (.seq
 (.region false [
 om 5 0,
 oo 6 (.nilchk (.tmp 5)),
 oo 7 (.faddr 7 1 (.tmp 6)),
 oo 8 (.load false 1 (.tmp 7)),
 om 9 1,
 oo 10 (.callm 37 [.tmp 8,.tmp 9]),
 om 4 10] [0,1,5,6,7,8,9,10])
 .ret))
abbrev v_q16 : List RV:= [.tmp 4]
abbrev f_q16 : FuncId:= 19
theorem k_q16 : closedOf Tryd.prog Tryd.f19 = (false,some true,some v_q16,some c_q16.plain,11):= by kernel_rfl
theorem ac_q16 {args : List AV} {r : AV} (h : aw Tryd.prog c_q16 (env0 args) (endQ v_q16 r)) (hargs : args.length ≤ 11:= by decide) (hok : resOK r = true:= by rfl) : AC Tryd.prog f_q16 args r :=
  AC_mk (by kernel_rfl) Tryd.func19 k_q16 hargs hok (by decide) h
def c_q17 : ACode :=
 (.seq
 (.region false [
 oo 4 (.mov (.const (.int .i64 0))),
 oo 5 (.mov (.const (.bool false)))] [4,5])
 (.seq
 (.region false [
 om 9 0,
 oo 10 (.nilchk (.tmp 9)),
 oo 11 (.faddr 9 1 (.tmp 10)),
 oo 12 (.load false 1 (.tmp 11)),
 om 13 1,
 oo 14 (.lkp false (ofVal (.int .i64 0)) true (.tmp 12) (.tmp 13)),
 om 8 14,
 oo 15 (.ext (.tmp 8) 0),
 oo 16 (.ext (.tmp 8) 1),
 om 6 15,
 om 7 16] [0,1,8,9,10,11,12,13,14,15,16])
 (.seq
 (.region false [
 om 17 6,
 om 18 7,
 om 4 17,
 om 5 18] [6,7,17,18])
 .ret)))
abbrev v_q17 : List RV:= [.tmp 4,.tmp 5]
abbrev f_q17 : FuncId:= 20
theorem k_q17 : closedOf Tryd.prog Tryd.f20 = (false,some true,some v_q17,some c_q17.plain,19):= by kernel_rfl
theorem ac_q17 {args : List AV} {r : AV} (h : aw Tryd.prog c_q17 (env0 args) (endQ v_q17 r)) (hargs : args.length ≤ 19:= by decide) (hok : resOK r = true:= by rfl) : AC Tryd.prog f_q17 args r :=
  AC_mk (by kernel_rfl) Tryd.func20 k_q17 hargs hok (by decide) h
def c_q18 : ACode :=
 (.seq
 (.region false [
 oo 4 (.mov (.const (.int .u32 0)))] [4])
 (.seq
 (.region false [
 om 5 0,
 oo 6 (.cint .u32 (.tmp 5)),
 oo 7 (.bin .shl 45 (.tmp 6) (.const (.int .u64 8))),
 oo 8 (.bin .or 45 (.const (.int .u32 167772160)) (.tmp 7)),
 om 9 1,
 oo 10 (.cint .u32 (.tmp 9)),
 oo 11 (.bin .or 45 (.tmp 8) (.tmp 10)),
 om 4 11] [0,1,5,6,7,8,9,10,11])
 .ret))
abbrev v_q18 : List RV:= [.tmp 4]
abbrev f_q18 : FuncId:= 21
theorem k_q18 : closedOf Tryd.prog Tryd.f21 = (false,some true,some v_q18,some c_q18.plain,12):= by kernel_rfl
theorem ac_q18 {args : List AV} {r : AV} (h : aw Tryd.prog c_q18 (env0 args) (endQ v_q18 r)) (hargs : args.length ≤ 12:= by decide) (hok : resOK r = true:= by rfl) : AC Tryd.prog f_q18 args r :=
  AC_mk (by kernel_rfl) Tryd.func21 k_q18 hargs hok (by decide) h
def c_q19 : ACode :=
 (.seq
 (.region false [
 oo 0 (.mov (.const (.bool false)))] [0])
 (.seq
 (.region false [
 oo 6 (.callm 15 [.const (.int .i64 2),.const (.int .i64 0)]),
 oo 7 (.callm 12 [.tmp 6]),
 om 5 7,
 oo 8 (.ext (.tmp 5) 0),
 oo 9 (.ext (.tmp 5) 1),
 om 1 8,
 om 2 9] [5,6,7,8,9])
 (.seq
 (.seq
 (.region false [
 om 10 1,
 oo 11 (.eqp false (.tmp 10)),
 om 12 11,
 og 13 (.mov (.tmp 2)) 12 false,
 og 14 (.eqn true (.tmp 13)) 12 false,
 oo 15 (.pick (.tmp 12) (.const (.bool true)) (.tmp 14))] [2,10,11,12,13,14])
 (.cond (.tmp 15)
 (.seq
 (.region false [
 oo 0 (.mov (.const (.bool false)))] [1,15])
 .ret)
 .skip))
 (.seq
 (.region false [
 om 17 1,
 oo 18 (.callm 21 [.const (.int .i64 0),.const (.int .i64 9)]),
 oo 19 (.callm 23 [.tmp 17,.const (.int .i64 0),.tmp 18]),
 om 16 19,
 oo 20 (.ext (.tmp 16) 0),
 oo 21 (.ext (.tmp 16) 1),
 oo 3 (.alloc [.lit (.int .i64 0),.lit (.int .u32 0),.lit (.int .i64 0)]),
 ⟨none,.store 3 (.tmp 3) (.tmp 20),none⟩,
 om 4 21] [1,15,16,17,18,19,20,21])
 (.seq
 (.region false [
 om 22 4,
 om 23 22,
 og 24 (.faddr 0 1 (.tmp 3)) 23 true,
 og 25 (.load false 1 (.tmp 24)) 23 true,
 og 26 (.bin .eql 3 (.tmp 25) (.const (.int .i64 0))) 23 true,
 oo 27 (.pick (.tmp 23) (.tmp 26) (.const (.bool false))),
 om 28 27,
 og 29 (.faddr 1 1 (.tmp 3)) 28 true,
 og 30 (.load false 1 (.tmp 29)) 28 true,
 og 31 (.bin .eql 45 (.tmp 30) (.const (.int .u32 0))) 28 true,
 oo 32 (.pick (.tmp 28) (.tmp 31) (.const (.bool false))),
 om 33 32,
 og 34 (.faddr 2 1 (.tmp 3)) 33 true,
 og 35 (.load false 1 (.tmp 34)) 33 true,
 og 36 (.bin .eql 3 (.tmp 35) (.const (.int .i64 0))) 33 true,
 oo 37 (.pick (.tmp 33) (.tmp 36) (.const (.bool false))),
 om 0 37] [3,4,22,23,24,25,26,27,28,29,30,31,32,33,34,35,36,37])
 .ret)))))
abbrev v_q19 : List RV:= [.tmp 0]
abbrev f_q19 : FuncId:= 22
theorem k_q19 : closedOf Tryd.prog Tryd.f22 = (false,some true,some v_q19,some c_q19.plain,38):= by kernel_rfl
theorem ac_q19 {args : List AV} {r : AV} (h : aw Tryd.prog c_q19 (env0 args) (endQ v_q19 r)) (hargs : args.length ≤ 38:= by decide) (hok : resOK r = true:= by rfl) : AC Tryd.prog f_q19 args r :=
  AC_mk (by kernel_rfl) Tryd.func22 k_q19 hargs hok (by decide) h
def c_q20 : ACode :=
 (.seq
 (.region false [
 oo 6 (.alloc [.lit (.int .i64 0),.lit (.int .u32 0),.lit (.int .i64 0)]),
 oo 7 (.mov (.const (.bool false)))] [7])
 (.seq
 (.region false [
 om 8 0,
 om 9 1,
 om 10 2,
 oo 11 (.callm 40 [.tmp 8,.tmp 9,.tmp 10,.const (.int .i64 0)]),
 oo 12 (.ext (.tmp 11) 0),
 oo 13 (.ext (.tmp 11) 1),
 ⟨none,.store 3 (.tmp 6) (.tmp 12),none⟩,
 om 7 13] [0,1,2,8,9,10,11,12,13])
 .ret))
abbrev v_q20 : List RV:= [.cell true 3 6,.tmp 7]
abbrev f_q20 : FuncId:= 23
theorem k_q20 : closedOf Tryd.prog Tryd.f23 = (false,some true,some v_q20,some c_q20.plain,14):= by kernel_rfl
theorem ac_q20 {args : List AV} {r : AV} (h : aw Tryd.prog c_q20 (env0 args) (endQ v_q20 r)) (hargs : args.length ≤ 14:= by decide) (hok : resOK r = true:= by rfl) : AC Tryd.prog f_q20 args r :=
  AC_mk (by kernel_rfl) Tryd.func23 k_q20 hargs hok (by decide) h
def c_q21 : ACode :=
 (.seq
 (.region false [
 oo 6 (.mov (.const (.slice none 0 0)))] [6])
 (.seq
 (.region false [
 oo 7 (.mov (.const (.int .i64 (-1))))] [])
 (.seq
 (.region false [
 oo 8 (.mov (.const (.slice none 0 0)))] [])
 (.seq
 (.seq
 (.region false [
 om 11 0,
 oo 12 (.callm 35 [.tmp 11]),
 oo 13 (.nilchk (.tmp 12)),
 oo 14 (.faddr 3 1 (.tmp 13)),
 oo 15 (.load false 1 (.tmp 14)),
 oo 16 (.lenl (.tmp 15)),
 oo 17 (.mov (.const (.int .i64 0)))] [0,11,12,13,14])
 (.block 0
 (.loop
 (.seq
 (.region false [
 oo 18 (.bin .lss 3 (.tmp 17) (.tmp 16))] [])
 (.seq
 (.cond (.tmp 18)
 .skip
 (.exit 0))
 (.seq
 (.block 1
 (.seq
 (.region false [
 om 19 17,
 oo 20 (.iaddr 5 (.tmp 15) (.tmp 17)),
 oo 21 (.load true 5 (.tmp 20)),
 oo 10 (.alloc [.lit (.int .i64 0),.lit (.int .u32 0),.lit (.int .i64 0),.lit (.int .u32 0),.lit (.int .i64 0)]),
 om 9 19,
 ⟨none,.store 5 (.tmp 10) (.tmp 21),none⟩] [18,19,20,21])
 (.block 2
 (.seq
 (.region false [
 oo 27 (.faddr 0 1 (.tmp 10)),
 oo 28 (.load false 1 (.tmp 27)),
 om 29 1,
 oo 30 (.bin .neq 3 (.tmp 28) (.tmp 29)),
 om 31 30,
 og 32 (.faddr 1 2 (.tmp 10)) 31 false,
 og 33 (.faddr 1 1 (.tmp 32)) 31 false,
 og 34 (.load false 1 (.tmp 33)) 31 false,
 og 35 (.mov (.tmp 7)) 31 false,
 og 36 (.bin .lss 3 (.tmp 34) (.tmp 35)) 31 false,
 oo 37 (.pick (.tmp 31) (.const (.bool true)) (.tmp 36)),
 om 38 37,
 og 39 (.faddr 1 2 (.tmp 10)) 38 false,
 og 40 (.load true 2 (.tmp 39)) 38 false,
 og 41 (.mov (.tmp 2)) 38 false,
 og 42 (.callm 41 [.tmp 40,.tmp 41]) 38 false,
 og 43 (.un .not (.tmp 42)) 38 false,
 oo 44 (.pick (.tmp 38) (.const (.bool true)) (.tmp 43)),
 om 26 44] [27,28,29,30,31,32,33,34,35,36,37,38,39,40,41,42,43,44])
 (.cond (.tmp 26)
 .skip
 (.seq
 (.region false [
 oo 46 (.faddr 1 2 (.tmp 10)),
 oo 47 (.faddr 1 1 (.tmp 46)),
 oo 48 (.load false 1 (.tmp 47)),
 om 49 7,
 oo 50 (.bin .gtr 3 (.tmp 48) (.tmp 49)),
 om 45 50] [26,46,47,48,49,50])
 (.cond (.tmp 45)
 (.region false [
 oo 51 (.faddr 1 2 (.tmp 10)),
 oo 52 (.faddr 1 1 (.tmp 51)),
 oo 53 (.load false 1 (.tmp 52)),
 om 54 9,
 oo 55 (.bslice 1 1 [.tmp 54]),
 om 7 53,
 om 8 55] [9,10,45,51,52,53,54,55])
 (.region false [
 om 22 8,
 om 23 9,
 oo 24 (.bslice 1 1 [.tmp 23]),
 oo 25 (.app 1 8 [] (.tmp 22) (.tmp 24)),
 om 8 25] [9,10,22,23,24,25,45]))))) [9,10,26])) [])
 (.region false [
 oo 56 (.bin .add 3 (.tmp 17) (.const (.int .i64 1))),
 om 17 56] [56])))) [] [10]) [1,2,7,15,16,17,18]))
 (.seq
 (.shift
 (.region false [
 om 57 8,
 om 6 57] [8,57]))
 .ret)))))
abbrev v_q21 : List RV:= [.tmp 6]
abbrev f_q21 : FuncId:= 24
theorem k_q21 : closedOf Tryd.prog Tryd.f24 = (false,some true,some v_q21,some c_q21.plain,58):= by kernel_rfl
theorem ac_q21 {args : List AV} {r : AV} (h : aw Tryd.prog c_q21 (env0 args) (endQ v_q21 r)) (hargs : args.length ≤ 58:= by decide) (hok : resOK r = true:= by rfl) : AC Tryd.prog f_q21 args r :=
  AC_mk (by kernel_rfl) Tryd.func24 k_q21 hargs hok (by decide) h
def c_q22 : ACode :=
 (.seq
 (.region false [
 oo 6 (.mov (.const (.int .i64 0))),
 oo 7 (.mov (.const (.bool false)))] [6,7])
 (.seq
 (.region false [
 om 14 0,
 oo 15 (.callm 35 [.tmp 14]),
 om 8 15] [14,15])
 (.seq
 (.region false [
 oo 9 (.mov (.const (.int .i64 (-1)))),
 oo 10 (.mov (.const (.int .i64 (-1))))] [])
 (.seq
 (.seq
 (.region false [
 om 16 0,
 om 17 1,
 oo 18 (.callm 17 [.tmp 16,.tmp 17]),
 oo 19 (.lenl (.tmp 18)),
 oo 20 (.mov (.const (.int .i64 0)))] [0,1,16,17])
 (.block 0
 (.loop
 (.seq
 (.region false [
 oo 21 (.bin .lss 3 (.tmp 20) (.tmp 19))] [])
 (.seq
 (.cond (.tmp 21)
 .skip
 (.exit 0))
 (.seq
 (.block 1
 (.seq
 (.region false [
 oo 22 (.iaddr 1 (.tmp 18) (.tmp 20)),
 oo 23 (.load false 1 (.tmp 22)),
 om 12 23] [21,22,23])
 (.seq
 (.region true [
 om 24 8,
 oo 25 (.nilchk (.tmp 24)),
 oo 26 (.faddr 1 1 (.tmp 25)),
 oo 27 (.load false 1 (.tmp 26)),
 om 28 8,
 oo 29 (.nilchk (.tmp 28)),
 oo 30 (.faddr 2 1 (.tmp 29)),
 oo 31 (.load false 1 (.tmp 30)),
 om 32 12,
 oo 33 (.iaddr 3 (.tmp 31) (.tmp 32)),
 oo 34 (.faddr 1 1 (.tmp 33)),
 oo 35 (.load false 1 (.tmp 34)),
 oo 36 (.iaddr 3 (.tmp 27) (.tmp 35)),
 oo 37 (.faddr 1 2 (.tmp 36)),
 oo 38 (.load true 2 (.tmp 37)),
 oo 13 (.alloc [.lit (.int .u32 0),.lit (.int .i64 0)]),
 ⟨none,.store 2 (.tmp 13) (.tmp 38),none⟩] [24,25,26,27,28,29,30,31,32,33,34,35,36,37,38])
 (.seq
 (.region false [
 oo 39 (.load true 2 (.tmp 13)),
 om 40 2,
 oo 41 (.callm 41 [.tmp 39,.tmp 40]),
 om 42 41,
 og 43 (.faddr 1 1 (.tmp 13)) 42 true,
 og 44 (.load false 1 (.tmp 43)) 42 true,
 og 45 (.mov (.tmp 10)) 42 true,
 og 46 (.bin .gtr 3 (.tmp 44) (.tmp 45)) 42 true,
 oo 47 (.pick (.tmp 42) (.tmp 46) (.const (.bool false)))] [39,40,41,42,43,44,45,46])
 (.cond (.tmp 47)
 (.region true [
 om 48 12,
 oo 49 (.faddr 1 1 (.tmp 13)),
 oo 50 (.load false 1 (.tmp 49)),
 om 9 48,
 om 10 50] [12,13,47,48,49,50])
 .skip)))) [12,13,47])
 (.region false [
 oo 51 (.bin .add 3 (.tmp 20) (.const (.int .i64 1))),
 om 20 51] [51])))) [] [13]) [2,8,10,18,19,20,21]))
 (.seq
 (.region false [
 om 52 9,
 oo 53 (.mnmx true [.tmp 52,.const (.int .i64 0)]),
 om 54 9,
 oo 55 (.bin .geq 3 (.tmp 54) (.const (.int .i64 0))),
 om 6 53,
 om 7 55] [9,52,53,54,55])
 .ret)))))
abbrev v_q22 : List RV:= [.tmp 6,.tmp 7]
abbrev f_q22 : FuncId:= 25
theorem k_q22 : closedOf Tryd.prog Tryd.f25 = (false,some true,some v_q22,some c_q22.plain,56):= by kernel_rfl
theorem ac_q22 {args : List AV} {r : AV} (h : aw Tryd.prog c_q22 (env0 args) (endQ v_q22 r)) (hargs : args.length ≤ 56:= by decide) (hok : resOK r = true:= by rfl) : AC Tryd.prog f_q22 args r :=
  AC_mk (by kernel_rfl) Tryd.func25 k_q22 hargs hok (by decide) h
def c_q24 : ACode :=
 (.seq
 (.region false [
 oo 2 (.alloc [.lit (.string ⟨#[]⟩),.lit (.int .u32 0),.lit (.int .i64 0)])] [])
 (.seq
 (.region false [
 om 3 0,
 oo 4 (.callm 28 [.const (.string ⟨#[108]⟩),.tmp 3]),
 om 5 0,
 oo 6 (.callm 21 [.tmp 5,.const (.int .i64 0)]),
 oo 7 (.build [.lit (.int .u32 0),.lit (.int .i64 0)] [(0,1,.tmp 6),(1,1,.const (.int .i64 24))]),
 oo 8 (.build [.lit (.string ⟨#[]⟩),.lit (.int .u32 0),.lit (.int .i64 0)] [(0,1,.tmp 4),(1,2,.tmp 7)]),
 ⟨none,.store 3 (.tmp 2) (.tmp 8),none⟩] [0,3,4,5,6,7,8])
 .ret))
abbrev v_q24 : List RV:= [.cell true 3 2]
abbrev f_q24 : FuncId:= 27
theorem k_q24 : closedOf Tryd.prog Tryd.f27 = (false,some true,some v_q24,some c_q24.plain,9):= by kernel_rfl
theorem ac_q24 {args : List AV} {r : AV} (h : aw Tryd.prog c_q24 (env0 args) (endQ v_q24 r)) (hargs : args.length ≤ 9:= by decide) (hok : resOK r = true:= by rfl) : AC Tryd.prog f_q24 args r :=
  AC_mk (by kernel_rfl) Tryd.func27 k_q24 hargs hok (by decide) h
def c_q25 : ACode :=
 (.seq
 (.region false [
 oo 4 (.mov (.const (.string ⟨#[]⟩)))] [4])
 (.seq
 (.seq
 (.region false [
 om 5 1,
 oo 6 (.bin .lss 3 (.tmp 5) (.const (.int .i64 10)))] [5])
 (.cond (.tmp 6)
 (.seq
 (.region false [
 om 7 0,
 om 8 1,
 oo 9 (.bin .add 3 (.const (.int .i64 48)) (.tmp 8)),
 oo 10 (.cint .i32 (.tmp 9)),
 oo 11 (.i2s (.tmp 10)),
 oo 12 (.bin .add 9 (.tmp 7) (.tmp 11)),
 om 4 12] [0,1,6,7,8,9,10,11,12])
 .ret)
 .skip))
 (.seq
 (.region false [
 om 13 0,
 om 14 1,
 oo 15 (.bin .quo 3 (.tmp 14) (.const (.int .i64 10))),
 oo 16 (.bin .add 3 (.const (.int .i64 48)) (.tmp 15)),
 oo 17 (.cint .i32 (.tmp 16)),
 oo 18 (.i2s (.tmp 17)),
 oo 19 (.bin .add 9 (.tmp 13) (.tmp 18)),
 om 20 1,
 oo 21 (.bin .rem 3 (.tmp 20) (.const (.int .i64 10))),
 oo 22 (.bin .add 3 (.const (.int .i64 48)) (.tmp 21)),
 oo 23 (.cint .i32 (.tmp 22)),
 oo 24 (.i2s (.tmp 23)),
 oo 25 (.bin .add 9 (.tmp 19) (.tmp 24)),
 om 4 25] [0,1,6,13,14,15,16,17,18,19,20,21,22,23,24,25])
 .ret)))
abbrev v_q25 : List RV:= [.tmp 4]
abbrev f_q25 : FuncId:= 28
theorem k_q25 : closedOf Tryd.prog Tryd.f28 = (false,some true,some v_q25,some c_q25.plain,26):= by kernel_rfl
theorem ac_q25 {args : List AV} {r : AV} (h : aw Tryd.prog c_q25 (env0 args) (endQ v_q25 r)) (hargs : args.length ≤ 26:= by decide) (hok : resOK r = true:= by rfl) : AC Tryd.prog f_q25 args r :=
  AC_mk (by kernel_rfl) Tryd.func28 k_q25 hargs hok (by decide) h
def c_q26 : ACode :=
 (.seq
 (.region false [
 oo 4 (.alloc [.lit (.int .i64 0),.lit (.int .i64 0),.lit (.int .u32 0)])] [])
 (.seq
 (.region false [
 om 5 0,
 om 6 1,
 om 7 1,
 om 8 0,
 oo 9 (.bin .add 3 (.tmp 8) (.const (.int .i64 1))),
 oo 10 (.callm 21 [.tmp 7,.tmp 9]),
 oo 11 (.build [.lit (.int .i64 0),.lit (.int .i64 0),.lit (.int .u32 0)] [(0,1,.tmp 5),(1,1,.tmp 6),(2,1,.tmp 10)]),
 ⟨none,.store 3 (.tmp 4) (.tmp 11),none⟩] [0,1,5,6,7,8,9,10,11])
 .ret))
abbrev v_q26 : List RV:= [.cell true 3 4]
abbrev f_q26 : FuncId:= 29
theorem k_q26 : closedOf Tryd.prog Tryd.f29 = (false,some true,some v_q26,some c_q26.plain,12):= by kernel_rfl
theorem ac_q26 {args : List AV} {r : AV} (h : aw Tryd.prog c_q26 (env0 args) (endQ v_q26 r)) (hargs : args.length ≤ 12:= by decide) (hok : resOK r = true:= by rfl) : AC Tryd.prog f_q26 args r :=
  AC_mk (by kernel_rfl) Tryd.func29 k_q26 hargs hok (by decide) h
def c_q27 : ACode :=
 (.seq
 (.region false [
 oo 0 (.alloc [.lit (.int .u32 0),.lit (.int .i64 0)])] [])
 (.seq
 (.region false [
 oo 1 (.build [.lit (.int .u32 0),.lit (.int .i64 0)] [(0,1,.const (.int .u32 3758096384)),(1,1,.const (.int .i64 4))]),
 ⟨none,.store 2 (.tmp 0) (.tmp 1),none⟩] [1])
 .ret))
abbrev v_q27 : List RV:= [.cell true 2 0]
abbrev f_q27 : FuncId:= 30
theorem k_q27 : closedOf Tryd.prog Tryd.f30 = (false,some true,some v_q27,some c_q27.plain,2):= by kernel_rfl
theorem ac_q27 {args : List AV} {r : AV} (h : aw Tryd.prog c_q27 (env0 args) (endQ v_q27 r)) (hargs : args.length ≤ 2:= by decide) (hok : resOK r = true:= by rfl) : AC Tryd.prog f_q27 args r :=
  AC_mk (by kernel_rfl) Tryd.func30 k_q27 hargs hok (by decide) h
def c_q28 : ACode :=
 (.seq
 (.region false [
 oo 1 (.box (.tmp 0)),
 oo 2 (.mov (.const (.nilIface)))] [0,2])
 (.seq
 (.region false [
 oo 8 (.load true 7 (.tmp 1)),
 oo 9 (.build [.sl .nil 0 [],.sl .nil 0 [],.sl .nil 0 [],.sl .nil 0 [],.sl .nil 0 [],.sl .nil 0 [],.sl .nil 0 []] [(0,7,.tmp 8)]),
 oo 3 (.alloc [.sl .nil 0 [],.sl .nil 0 [],.sl .nil 0 [],.sl .nil 0 [],.sl .nil 0 [],.sl .nil 0 [],.sl .nil 0 []]),
 ⟨none,.store 7 (.tmp 3) (.tmp 9),none⟩] [8,9])
 (.seq
 (.seq
 (.region false [
 oo 10 (.faddr 0 1 (.tmp 1)),
 oo 11 (.load false 1 (.tmp 10)),
 oo 12 (.lenl (.tmp 11)),
 oo 13 (.load true 7 (.tmp 3)),
 oo 14 (.mkfn (.func 43) [.tmp 13] []),
 oo 15 (.build [.lit (.int .i64 0),.lit (.int .i64 0),.lit (.nilFunc)] [(0,1,.tmp 12),(1,1,.const (.int .i64 16)),(2,1,.tmp 14)]),
 oo 16 (.faddr 1 1 (.tmp 1)),
 oo 17 (.load false 1 (.tmp 16)),
 oo 18 (.lenl (.tmp 17)),
 oo 19 (.load true 7 (.tmp 3)),
 oo 20 (.mkfn (.func 44) [.tmp 19] []),
 oo 21 (.build [.lit (.int .i64 0),.lit (.int .i64 0),.lit (.nilFunc)] [(0,1,.tmp 18),(1,1,.const (.int .i64 24)),(2,1,.tmp 20)]),
 oo 22 (.faddr 2 1 (.tmp 1)),
 oo 23 (.load false 1 (.tmp 22)),
 oo 24 (.lenl (.tmp 23)),
 oo 25 (.load true 7 (.tmp 3)),
 oo 26 (.mkfn (.func 45) [.tmp 25] []),
 oo 27 (.build [.lit (.int .i64 0),.lit (.int .i64 0),.lit (.nilFunc)] [(0,1,.tmp 24),(1,1,.const (.int .i64 64)),(2,1,.tmp 26)]),
 oo 28 (.faddr 3 1 (.tmp 1)),
 oo 29 (.load false 1 (.tmp 28)),
 oo 30 (.lenl (.tmp 29)),
 oo 31 (.load true 7 (.tmp 3)),
 oo 32 (.mkfn (.func 46) [.tmp 31] []),
 oo 33 (.build [.lit (.int .i64 0),.lit (.int .i64 0),.lit (.nilFunc)] [(0,1,.tmp 30),(1,1,.const (.int .i64 96)),(2,1,.tmp 32)]),
 oo 34 (.faddr 4 1 (.tmp 1)),
 oo 35 (.load false 1 (.tmp 34)),
 oo 36 (.lenl (.tmp 35)),
 oo 37 (.load true 7 (.tmp 3)),
 oo 38 (.mkfn (.func 47) [.tmp 37] []),
 oo 39 (.build [.lit (.int .i64 0),.lit (.int .i64 0),.lit (.nilFunc)] [(0,1,.tmp 36),(1,1,.const (.int .i64 8)),(2,1,.tmp 38)]),
 oo 40 (.faddr 5 1 (.tmp 1)),
 oo 41 (.load false 1 (.tmp 40)),
 oo 42 (.lenl (.tmp 41)),
 oo 43 (.load true 7 (.tmp 3)),
 oo 44 (.mkfn (.func 48) [.tmp 43] []),
 oo 45 (.build [.lit (.int .i64 0),.lit (.int .i64 0),.lit (.nilFunc)] [(0,1,.tmp 42),(1,1,.const (.int .i64 8)),(2,1,.tmp 44)]),
 oo 46 (.faddr 6 1 (.tmp 1)),
 oo 47 (.load false 1 (.tmp 46)),
 oo 48 (.lenl (.tmp 47)),
 oo 49 (.load true 7 (.tmp 3)),
 oo 50 (.mkfn (.func 49) [.tmp 49] []),
 oo 51 (.build [.lit (.int .i64 0),.lit (.int .i64 0),.lit (.nilFunc)] [(0,1,.tmp 48),(1,1,.const (.int .i64 24)),(2,1,.tmp 50)]),
 oo 52 (.bslice 7 3 [.tmp 15,.tmp 21,.tmp 27,.tmp 33,.tmp 39,.tmp 45,.tmp 51]),
 oo 53 (.lenl (.tmp 52)),
 oo 54 (.mov (.const (.int .i64 0)))] [1,3,10,11,12,13,14,15,16,17,18,19,20,21,22,23,24,25,26,27,28,29,30,31,32,33,34,35,36,37,38,39,40,41,42,43,44,45,46,47,48,49,50,51])
 (.block 0
 (.loop
 (.seq
 (.region false [
 oo 55 (.bin .lss 3 (.tmp 54) (.tmp 53))] [])
 (.seq
 (.cond (.tmp 55)
 .skip
 (.exit 0))
 (.seq
 (.block 1
 (.seq
 (.region false [
 oo 56 (.iaddr 3 (.tmp 52) (.tmp 54)),
 oo 57 (.load true 3 (.tmp 56)),
 oo 5 (.alloc [.lit (.int .i64 0),.lit (.int .i64 0),.lit (.nilFunc)]),
 ⟨none,.store 3 (.tmp 5) (.tmp 57),none⟩] [55,56,57])
 (.seq
 (.region false [
 oo 58 (.faddr 0 1 (.tmp 5)),
 oo 59 (.load false 1 (.tmp 58)),
 oo 60 (.mov (.const (.int .i64 0)))] [58])
 (.block 2
 (.loop
 (.seq
 (.region false [
 oo 61 (.bin .lss 3 (.tmp 60) (.tmp 59))] [])
 (.seq
 (.cond (.tmp 61)
 .skip
 (.exit 2))
 (.seq
 (.block 3
 (.seq
 (.region false [
 om 62 60,
 om 6 62] [61,62])
 (.seq
 (.seq
 (.region false [
 om 63 6,
 oo 64 (.faddr 1 1 (.tmp 5)),
 oo 65 (.load false 1 (.tmp 64)),
 oo 66 (.bin .geq 3 (.tmp 63) (.tmp 65))] [63,64,65])
 (.cond (.tmp 66)
 (.seq
 (.region false [
 oo 67 (.load false 1 (.global 0)),
 om 2 67] [5,6,52,53,54,59,60,66,67])
 .ret)
 .skip))
 (.seq
 (.region false [
 oo 68 (.faddr 2 1 (.tmp 5)),
 oo 69 (.load false 1 (.tmp 68)),
 om 70 6,
 oo 71 (.callvm (.tmp 69) [.tmp 70]),
 om 7 71] [6,66,68,69,70,71])
 (.seq
 (.region false [
 om 72 7,
 oo 73 (.eqn true (.tmp 72))] [72])
 (.cond (.tmp 73)
 (.seq
 (.region false [
 om 74 7,
 om 2 74] [5,7,52,53,54,59,60,73,74])
 .ret)
 .skip))))) [7,73])
 (.region false [
 oo 75 (.bin .add 3 (.tmp 60) (.const (.int .i64 1))),
 om 60 75] [75])))) [] []) [5,59,60,61]))) [])
 (.region false [
 oo 76 (.bin .add 3 (.tmp 54) (.const (.int .i64 1))),
 om 54 76] [76])))) [] [5]) [52,53,54,55]))
 (.seq
 (.region false [
 oo 2 (.mov (.const (.nilIface)))] [])
 .ret))))
abbrev v_q28 : List RV:= [.tmp 2]
abbrev f_q28 : FuncId:= 31
theorem k_q28 : closedOf Tryd.prog Tryd.f31 = (false,some true,some v_q28,some c_q28.plain,77):= by kernel_rfl
theorem ac_q28 {args : List AV} {r : AV} (h : aw Tryd.prog c_q28 (env0 args) (endQ v_q28 r)) (hargs : args.length ≤ 77:= by decide) (hok : resOK r = true:= by rfl) : AC Tryd.prog f_q28 args r :=
  AC_mk (by kernel_rfl) Tryd.func31 k_q28 hargs hok (by decide) h
def c_q29 : ACode :=
 (.seq
 (.region false [
 oo 1 (.box (.tmp 0)),
 oo 2 (.alloc [.sl .nil 0 [],.sl .nil 0 [],.sl .nil 0 [],.sl .nil 0 [],.sl .nil 0 [],.sl .nil 0 [],.sl .nil 0 []])] [0])
 (.seq
 (.region true [
 oo 5 (.faddr 0 1 (.tmp 1)),
 oo 6 (.load false 1 (.tmp 5)),
 oo 7 (.call 50 [.tmp 6]),
 oo 8 (.faddr 1 1 (.tmp 1)),
 oo 9 (.load false 1 (.tmp 8)),
 oo 10 (.call 51 [.tmp 9]),
 oo 11 (.faddr 2 1 (.tmp 1)),
 oo 12 (.load false 1 (.tmp 11)),
 oo 13 (.call 52 [.tmp 12]),
 oo 14 (.faddr 3 1 (.tmp 1)),
 oo 15 (.load false 1 (.tmp 14)),
 oo 16 (.call 53 [.tmp 15]),
 oo 17 (.faddr 4 1 (.tmp 1)),
 oo 18 (.load false 1 (.tmp 17)),
 oo 19 (.call 54 [.tmp 18]),
 oo 20 (.faddr 5 1 (.tmp 1)),
 oo 21 (.load false 1 (.tmp 20)),
 oo 22 (.call 55 [.tmp 21]),
 oo 23 (.faddr 6 1 (.tmp 1)),
 oo 24 (.load false 1 (.tmp 23)),
 oo 25 (.call 56 [.tmp 24]),
 oo 26 (.build [.sl .nil 0 [],.sl .nil 0 [],.sl .nil 0 [],.sl .nil 0 [],.sl .nil 0 [],.sl .nil 0 [],.sl .nil 0 []] [(0,1,.tmp 7),(1,1,.tmp 10),(2,1,.tmp 13),(3,1,.tmp 16),(4,1,.tmp 19),(5,1,.tmp 22),(6,1,.tmp 25)]),
 oo 3 (.alloc [.sl .nil 0 [],.sl .nil 0 [],.sl .nil 0 [],.sl .nil 0 [],.sl .nil 0 [],.sl .nil 0 [],.sl .nil 0 []]),
 ⟨none,.store 7 (.tmp 3) (.tmp 26),none⟩] [1,5,6,7,8,9,10,11,12,13,14,15,16,17,18,19,20,21,22,23,24,25,26])
 (.seq
 (.seq
 (.shift
 (.region false [
 oo 27 (.faddr 6 1 (.tmp 3)),
 oo 28 (.load false 1 (.tmp 27)),
 oo 29 (.lenl (.tmp 28)),
 oo 30 (.mov (.const (.int .i64 0)))] [27,28]))
 (.block 0
 (.loop
 (.seq
 (.region false [
 oo 31 (.bin .lss 3 (.tmp 30) (.tmp 29))] [])
 (.seq
 (.cond (.tmp 31)
 .skip
 (.exit 0))
 (.seq
 (.block 1
 (.seq
 (.region false [
 om 32 30,
 om 4 32] [31,32])
 (.region true [
 oo 33 (.faddr 6 1 (.tmp 3)),
 oo 34 (.load false 1 (.tmp 33)),
 om 35 4,
 oo 36 (.faddr 6 1 (.tmp 3)),
 oo 37 (.load false 1 (.tmp 36)),
 om 38 4,
 oo 39 (.iaddr 4 (.tmp 37) (.tmp 38)),
 oo 40 (.faddr 3 1 (.tmp 39)),
 oo 41 (.load false 1 (.tmp 40)),
 oo 42 (.call 57 [.tmp 41]),
 oo 43 (.iaddr 4 (.tmp 34) (.tmp 35)),
 oo 44 (.faddr 3 1 (.tmp 43)),
 ⟨none,.store 1 (.tmp 44) (.tmp 42),none⟩] [4,33,34,35,36,37,38,39,40,41,42,43,44])) [])
 (.region false [
 oo 45 (.bin .add 3 (.tmp 30) (.const (.int .i64 1))),
 om 30 45] [45])))) [] []) [29,30,31]))
 (.seq
 (.region false [
 oo 46 (.load true 7 (.tmp 3)),
 ⟨none,.store 7 (.tmp 2) (.tmp 46),none⟩] [3,46])
 .ret))))
abbrev v_q29 : List RV:= [.cell true 7 2]
abbrev f_q29 : FuncId:= 32
theorem k_q29 : closedOf Tryd.prog Tryd.f32 = (false,some true,some v_q29,some c_q29.plain,47):= by kernel_rfl
theorem ac_q29 {args : List AV} {r : AV} (h : aw Tryd.prog c_q29 (env0 args) (endQ v_q29 r)) (hargs : args.length ≤ 47:= by decide) (hok : resOK r = true:= by rfl) : AC Tryd.prog f_q29 args r :=
  AC_mk (by kernel_rfl) Tryd.func32 k_q29 hargs hok (by decide) h
def c_q30 : ACode :=
 (.seq
 (.region false [
 om 3 0,
 oo 4 (.lenl (.tmp 3)),
 om 2 4] [3,4])
 (.region false [
 om 5 0,
 om 6 2,
 om 7 2,
 oo 8 (.cint .u64 (.tmp 7)),
 oo 9 (.callm 59 [.tmp 8]),
 oo 10 (.callm 58 [.tmp 5,.const (.int .i64 0),.tmp 6,.tmp 9])] [0,2,5,6,7,8,9,10]))
abbrev v_q30 : List RV:= []
abbrev f_q30 : FuncId:= 33
theorem k_q30 : closedOf Tryd.prog Tryd.f33 = (false,some true,some v_q30,some c_q30.plain,11):= by kernel_rfl
theorem ac_q30 {args : List AV} {r : AV} (h : aw Tryd.prog c_q30 (env0 args) (endQ v_q30 r)) (hargs : args.length ≤ 11:= by decide) (hok : resOK r = true:= by rfl) : AC Tryd.prog f_q30 args r :=
  AC_mk (by kernel_rfl) Tryd.func33 k_q30 hargs hok (by decide) h
theorem am_q30 {args : List AV} {c0 c1 : List (Nat × List AV)} {r : AV} (h : aw Tryd.prog c_q30 (env0M args c0) (endM v_q30 r (c0.map (·.1)) c1)) (hc0 : ∀ q ∈ c0,100000 ≤ q.1) (hargs : args.length ≤ 11:= by decide) (hok : resOK r = true:= by rfl) : AM Tryd.prog f_q30 args c0 r c1 :=
  AM_mk (by kernel_rfl) Tryd.func33 k_q30 hargs hok (by decide) hc0 h
def c_q31 : ACode :=
 (.seq
 (.region false [
 oo 2 (.mov (.const (.slice none 0 0)))] [2])
 (.seq
 (.seq
 (.region false [
 om 6 0,
 oo 7 (.lenl (.tmp 6)),
 oo 8 (.bin .lss 3 (.tmp 7) (.const (.int .i64 2)))] [6,7])
 (.cond (.tmp 8)
 (.seq
 (.shift
 (.region false [
 om 9 0,
 om 2 9] [0,8,9]))
 .ret)
 .skip))
 (.seq
 (.seq
 (.region false [
 oo 3 (.mov (.const (.int .i64 1)))] [8])
 (.block 0
 (.loop
 (.seq
 (.seq
 (.region false [
 om 10 3,
 om 11 0,
 oo 12 (.lenl (.tmp 11)),
 oo 13 (.bin .lss 3 (.tmp 10) (.tmp 12))] [10,11,12])
 (.cond (.tmp 13)
 .skip
 (.exit 0)))
 (.seq
 (.block 1
 (.seq
 (.region true [
 om 16 0,
 om 17 3,
 oo 18 (.iaddr 1 (.tmp 16) (.tmp 17)),
 oo 19 (.load false 1 (.tmp 18)),
 om 20 0,
 om 21 3,
 oo 22 (.bin .sub 3 (.tmp 21) (.const (.int .i64 1))),
 oo 23 (.iaddr 1 (.tmp 20) (.tmp 22)),
 oo 24 (.load false 1 (.tmp 23)),
 oo 25 (.bin .eql 45 (.tmp 19) (.tmp 24))] [13,16,17,18,19,20,21,22,23,24])
 (.cond (.tmp 25)
 (.seq
 (.region false [
 om 26 0,
 om 27 3,
 oo 28 (.slc 1 (.tmp 26) (some (.tmp 27)) none),
 om 4 28] [25,26,27,28])
 (.seq
 (.seq
 (.region false [
 oo 5 (.mov (.const (.int .i64 1)))] [])
 (.block 2
 (.loop
 (.seq
 (.seq
 (.region false [
 om 29 5,
 om 30 4,
 oo 31 (.lenl (.tmp 30)),
 oo 32 (.bin .lss 3 (.tmp 29) (.tmp 31))] [29,30,31])
 (.cond (.tmp 32)
 .skip
 (.exit 2)))
 (.seq
 (.block 3
 (.seq
 (.region true [
 om 35 4,
 om 36 5,
 oo 37 (.iaddr 1 (.tmp 35) (.tmp 36)),
 oo 38 (.load false 1 (.tmp 37)),
 om 39 4,
 om 40 5,
 oo 41 (.bin .sub 3 (.tmp 40) (.const (.int .i64 1))),
 oo 42 (.iaddr 1 (.tmp 39) (.tmp 41)),
 oo 43 (.load false 1 (.tmp 42)),
 oo 44 (.bin .neq 45 (.tmp 38) (.tmp 43))] [32,35,36,37,38,39,40,41,42,43])
 (.cond (.tmp 44)
 (.seq
 (.region false [
 om 45 0,
 om 46 3,
 om 47 4,
 om 48 5,
 oo 49 (.iaddr 1 (.tmp 47) (.tmp 48)),
 oo 50 (.load false 1 (.tmp 49)),
 oo 51 (.iaddr 1 (.tmp 45) (.tmp 46)),
 ⟨none,.store 1 (.tmp 51) (.tmp 50),none⟩] [44,45,46,47,48,49,50,51])
 (.region false [
 om 52 3,
 oo 53 (.bin .add 3 (.tmp 52) (.const (.int .i64 1))),
 om 3 53] [52,53]))
 .skip)) [44])
 (.region false [
 om 33 5,
 oo 34 (.bin .add 3 (.tmp 33) (.const (.int .i64 1))),
 om 5 34] [33,34]))) [] []) [4,5,32]))
 (.seq
 (.region false [
 om 54 0,
 om 55 3,
 oo 56 (.slc 1 (.tmp 54) (some (.tmp 55)) none),
 ⟨none,.clr [.lit (.int .u32 0)] (.tmp 56),none⟩] [54,55,56])
 (.seq
 (.region false [
 om 57 0,
 om 58 3,
 oo 59 (.slc 1 (.tmp 57) none (some (.tmp 58))),
 om 2 59] [0,3,57,58,59])
 .ret))))
 .skip)) [25])
 (.region false [
 om 14 3,
 oo 15 (.bin .add 3 (.tmp 14) (.const (.int .i64 1))),
 om 3 15] [14,15]))) [] []) [3,13]))
 (.seq
 (.region false [
 om 60 0,
 om 2 60] [0,60])
 .ret))))
abbrev v_q31 : List RV:= [.tmp 2]
abbrev f_q31 : FuncId:= 34
theorem k_q31 : closedOf Tryd.prog Tryd.f34 = (false,some true,some v_q31,some c_q31.plain,61):= by kernel_rfl
theorem ac_q31 {args : List AV} {r : AV} (h : aw Tryd.prog c_q31 (env0 args) (endQ v_q31 r)) (hargs : args.length ≤ 61:= by decide) (hok : resOK r = true:= by rfl) : AC Tryd.prog f_q31 args r :=
  AC_mk (by kernel_rfl) Tryd.func34 k_q31 hargs hok (by decide) h
theorem am_q31 {args : List AV} {c0 c1 : List (Nat × List AV)} {r : AV} (h : aw Tryd.prog c_q31 (env0M args c0) (endM v_q31 r (c0.map (·.1)) c1)) (hc0 : ∀ q ∈ c0,100000 ≤ q.1) (hargs : args.length ≤ 61:= by decide) (hok : resOK r = true:= by rfl) : AM Tryd.prog f_q31 args c0 r c1 :=
  AM_mk (by kernel_rfl) Tryd.func34 k_q31 hargs hok (by decide) hc0 h
def c_q32 : ACode :=
 (.seq
 (.region false [
 oo 2 (.mov (.const (.pointer none)))] [2])
 (.seq
 (.region false [
 om 3 0,
 oo 4 (.nilchk (.tmp 3)),
 oo 5 (.faddr 0 7 (.tmp 4)),
 om 2 5] [0,3,4,5])
 .ret))
abbrev v_q32 : List RV:= [.tmp 2]
abbrev f_q32 : FuncId:= 35
theorem k_q32 : closedOf Tryd.prog Tryd.f35 = (false,some true,some v_q32,some c_q32.plain,6):= by kernel_rfl
theorem ac_q32 {args : List AV} {r : AV} (h : aw Tryd.prog c_q32 (env0 args) (endQ v_q32 r)) (hargs : args.length ≤ 6:= by decide) (hok : resOK r = true:= by rfl) : AC Tryd.prog f_q32 args r :=
  AC_mk (by kernel_rfl) Tryd.func35 k_q32 hargs hok (by decide) h
def c_q33 : ACode :=
 (.seq
 (.region false [
 oo 2 (.mov (.const (.slice none 0 0)))] [2])
 (.seq
 (.region false [
 om 3 0,
 oo 4 (.nilchk (.tmp 3)),
 oo 5 (.faddr 11 1 (.tmp 4)),
 oo 6 (.load false 1 (.tmp 5)),
 oo 7 (.callm 57 [.tmp 6]),
 om 2 7] [0,3,4,5,6,7])
 .ret))
abbrev v_q33 : List RV:= [.tmp 2]
abbrev f_q33 : FuncId:= 36
theorem k_q33 : closedOf Tryd.prog Tryd.f36 = (false,some true,some v_q33,some c_q33.plain,8):= by kernel_rfl
theorem ac_q33 {args : List AV} {r : AV} (h : aw Tryd.prog c_q33 (env0 args) (endQ v_q33 r)) (hargs : args.length ≤ 8:= by decide) (hok : resOK r = true:= by rfl) : AC Tryd.prog f_q33 args r :=
  AC_mk (by kernel_rfl) Tryd.func36 k_q33 hargs hok (by decide) h
def c_q34 : ACode :=
 (.seq
 (.region false [
 oo 4 (.mov (.const (.slice none 0 0)))] [4])
 (.seq
 (.seq
 (.region false [
 om 5 1,
 oo 6 (.bin .lss 3 (.tmp 5) (.const (.int .i64 0))),
 om 7 6,
 og 8 (.mov (.tmp 1)) 7 false,
 og 9 (.mov (.tmp 0)) 7 false,
 og 10 (.lenl (.tmp 9)) 7 false,
 og 11 (.bin .geq 3 (.tmp 8) (.tmp 10)) 7 false,
 oo 12 (.pick (.tmp 7) (.const (.bool true)) (.tmp 11))] [5,6,7,8,9,10,11])
 (.cond (.tmp 12)
 (.seq
 (.region false [
 oo 4 (.mov (.const (.slice none 0 0)))] [0,1,12])
 .ret)
 .skip))
 (.seq
 (.region false [
 om 13 0,
 om 14 1,
 oo 15 (.iaddr 1 (.tmp 13) (.tmp 14)),
 oo 16 (.load false 1 (.tmp 15)),
 oo 17 (.callm 60 [.tmp 16]),
 om 4 17] [0,1,12,13,14,15,16,17])
 .ret)))
abbrev v_q34 : List RV:= [.tmp 4]
abbrev f_q34 : FuncId:= 37
theorem k_q34 : closedOf Tryd.prog Tryd.f37 = (false,some true,some v_q34,some c_q34.plain,18):= by kernel_rfl
theorem ac_q34 {args : List AV} {r : AV} (h : aw Tryd.prog c_q34 (env0 args) (endQ v_q34 r)) (hargs : args.length ≤ 18:= by decide) (hok : resOK r = true:= by rfl) : AC Tryd.prog f_q34 args r :=
  AC_mk (by kernel_rfl) Tryd.func37 k_q34 hargs hok (by decide) h
def c_q35 : ACode :=
 (.seq
 (.region false [
 oo 4 (.mov (.const (.slice none 0 0)))] [4])
 (.seq
 (.region false [
 om 8 0,
 om 9 1,
 oo 10 (.callm 61 [.tmp 8,.tmp 9]),
 om 5 10] [8,9,10])
 (.seq
 (.seq
 (.shift
 (.region false [
 om 11 5,
 oo 12 (.bin .eql 3 (.tmp 11) (.const (.int .i64 (-1))))] [11]))
 (.cond (.tmp 12)
 (.seq
 (.region false [
 om 13 0,
 om 4 13] [0,1,5,12,13])
 .ret)
 .skip))
 (.seq
 (.seq
 (.region false [
 om 14 5,
 oo 15 (.bin .add 3 (.tmp 14) (.const (.int .i64 1))),
 om 6 15] [12,14,15])
 (.block 0
 (.loop
 (.seq
 (.seq
 (.region false [
 om 16 6,
 om 17 0,
 oo 18 (.lenl (.tmp 17)),
 oo 19 (.bin .lss 3 (.tmp 16) (.tmp 18))] [16,17,18])
 (.cond (.tmp 19)
 .skip
 (.exit 0)))
 (.seq
 (.block 1
 (.seq
 (.region false [
 om 22 0,
 om 23 6,
 oo 24 (.iaddr 1 (.tmp 22) (.tmp 23)),
 oo 25 (.load false 1 (.tmp 24)),
 om 7 25] [19,22,23,24,25])
 (.seq
 (.region false [
 om 26 1,
 om 27 7,
 oo 28 (.callvm (.tmp 26) [.tmp 27]),
 oo 29 (.un .not (.tmp 28))] [26,27,28])
 (.cond (.tmp 29)
 (.seq
 (.region false [
 om 30 0,
 om 31 5,
 om 32 7,
 oo 33 (.iaddr 1 (.tmp 30) (.tmp 31)),
 ⟨none,.store 1 (.tmp 33) (.tmp 32),none⟩] [7,29,30,31,32,33])
 (.region false [
 om 34 5,
 oo 35 (.bin .add 3 (.tmp 34) (.const (.int .i64 1))),
 om 5 35] [34,35]))
 .skip))) [7,29])
 (.region false [
 om 20 6,
 oo 21 (.bin .add 3 (.tmp 20) (.const (.int .i64 1))),
 om 6 21] [20,21]))) [] []) [1,6,19]))
 (.seq
 (.region false [
 om 36 0,
 om 37 5,
 oo 38 (.slc 1 (.tmp 36) (some (.tmp 37)) none),
 ⟨none,.clr [.lit (.int .i64 0)] (.tmp 38),none⟩] [36,37,38])
 (.seq
 (.region false [
 om 39 0,
 om 40 5,
 oo 41 (.slc 1 (.tmp 39) none (some (.tmp 40))),
 om 4 41] [0,5,39,40,41])
 .ret))))))
abbrev v_q35 : List RV:= [.tmp 4]
abbrev f_q35 : FuncId:= 38
theorem k_q35 : closedOf Tryd.prog Tryd.f38 = (false,some true,some v_q35,some c_q35.plain,42):= by kernel_rfl
theorem am_q35 {args : List AV} {c0 c1 : List (Nat × List AV)} {r : AV} (h : aw Tryd.prog c_q35 (env0M args c0) (endM v_q35 r (c0.map (·.1)) c1)) (hc0 : ∀ q ∈ c0,100000 ≤ q.1) (hargs : args.length ≤ 42:= by decide) (hok : resOK r = true:= by rfl) : AM Tryd.prog f_q35 args c0 r c1 :=
  AM_mk (by kernel_rfl) Tryd.func38 k_q35 hargs hok (by decide) hc0 h
def c_q36 : ACode :=
 (.seq
 (.region false [
 oo 4 (.mov (.const (.bool false)))] [4])
 (.seq
 (.region true [
 oo 5 (.load false 1 (.tmp 1)),
 oo 6 (.nilchk (.tmp 5)),
 oo 7 (.faddr 0 7 (.tmp 6)),
 oo 8 (.faddr 2 1 (.tmp 7)),
 oo 9 (.load false 1 (.tmp 8)),
 om 10 0,
 oo 11 (.iaddr 3 (.tmp 9) (.tmp 10)),
 oo 12 (.faddr 0 1 (.tmp 11)),
 oo 13 (.load false 1 (.tmp 12)),
 oo 14 (.faddr 0 1 (.tmp 2)),
 oo 15 (.load false 1 (.tmp 14)),
 oo 16 (.bin .eql 3 (.tmp 13) (.tmp 15)),
 om 4 16] [0,1,2,5,6,7,8,9,10,11,12,13,14,15,16])
 .ret))
abbrev v_q36 : List RV:= [.tmp 4]
abbrev f_q36 : FuncId:= 39
theorem k_q36 : closedOf Tryd.prog Tryd.f39 = (false,some true,some v_q36,some c_q36.plain,17):= by kernel_rfl
theorem ac_q36 {args : List AV} {r : AV} (h : aw Tryd.prog c_q36 (env0 args) (endQ v_q36 r)) (hargs : args.length ≤ 17:= by decide) (hok : resOK r = true:= by rfl) : AC Tryd.prog f_q36 args r :=
  AC_mk (by kernel_rfl) Tryd.func39 k_q36 hargs hok (by decide) h
def c_q37 : ACode :=
 (.seq
 (.region false [
 oo 8 (.alloc [.lit (.int .i64 0),.lit (.int .u32 0),.lit (.int .i64 0)]),
 oo 9 (.mov (.const (.bool false)))] [9])
 (.seq
 (.region false [
 om 19 0,
 oo 20 (.callm 35 [.tmp 19]),
 om 10 20] [19,20])
 (.seq
 (.region false [
 om 21 0,
 om 22 1,
 om 23 2,
 oo 24 (.callm 24 [.tmp 21,.tmp 22,.tmp 23]),
 om 11 24] [21,22,23,24])
 (.seq
 (.seq
 (.region false [
 om 26 0,
 om 27 1,
 om 28 2,
 oo 29 (.callm 25 [.tmp 26,.tmp 27,.tmp 28]),
 om 25 29,
 oo 30 (.ext (.tmp 25) 0),
 oo 31 (.ext (.tmp 25) 1),
 om 12 30,
 om 13 31] [2,25,26,27,28,29,30,31])
 (.seq
 (.region true [
 om 32 13,
 om 33 32,
 og 34 (.mov (.tmp 11)) 33 true,
 og 35 (.lenl (.tmp 34)) 33 true,
 og 36 (.bin .eql 3 (.tmp 35) (.const (.int .i64 0))) 33 true,
 og 37 (.mov (.tmp 36)) 33 true,
 og 38 (.mov (.tmp 10)) 37 false,
 og 39 (.nilchk (.tmp 38)) 37 false,
 og 40 (.faddr 1 1 (.tmp 39)) 37 false,
 og 41 (.load false 1 (.tmp 40)) 37 false,
 og 42 (.mov (.tmp 10)) 37 false,
 og 43 (.nilchk (.tmp 42)) 37 false,
 og 44 (.faddr 2 1 (.tmp 43)) 37 false,
 og 45 (.load false 1 (.tmp 44)) 37 false,
 og 46 (.mov (.tmp 12)) 37 false,
 og 47 (.iaddr 3 (.tmp 45) (.tmp 46)) 37 false,
 og 48 (.faddr 1 1 (.tmp 47)) 37 false,
 og 49 (.load false 1 (.tmp 48)) 37 false,
 og 50 (.iaddr 3 (.tmp 41) (.tmp 49)) 37 false,
 og 51 (.faddr 1 2 (.tmp 50)) 37 false,
 og 52 (.faddr 1 1 (.tmp 51)) 37 false,
 og 53 (.load false 1 (.tmp 52)) 37 false,
 og 54 (.mov (.tmp 10)) 37 false,
 og 55 (.nilchk (.tmp 54)) 37 false,
 og 56 (.faddr 3 1 (.tmp 55)) 37 false,
 og 57 (.load false 1 (.tmp 56)) 37 false,
 og 58 (.mov (.tmp 11)) 37 false,
 og 59 (.iaddr 1 (.tmp 58) (.const (.int .i64 0))) 37 false,
 og 60 (.load false 1 (.tmp 59)) 37 false,
 og 61 (.iaddr 5 (.tmp 57) (.tmp 60)) 37 false,
 og 62 (.faddr 1 2 (.tmp 61)) 37 false,
 og 63 (.faddr 1 1 (.tmp 62)) 37 false,
 og 64 (.load false 1 (.tmp 63)) 37 false,
 og 65 (.bin .geq 3 (.tmp 53) (.tmp 64)) 37 false,
 og 66 (.pick (.tmp 37) (.const (.bool true)) (.tmp 65)) 33 true,
 oo 67 (.pick (.tmp 33) (.tmp 66) (.const (.bool false)))] [13,32,33,34,35,36,37,38,39,40,41,42,43,44,45,46,47,48,49,50,51,52,53,54,55,56,57,58,59,60,61,62,63,64,65,66])
 (.cond (.tmp 67)
 (.seq
 (.region false [
 om 68 12,
 oo 69 (.build [.lit (.int .i64 0),.lit (.int .u32 0),.lit (.int .i64 0)] [(0,1,.tmp 68)]),
 ⟨none,.store 3 (.tmp 8) (.tmp 69),none⟩,
 oo 9 (.mov (.const (.bool true)))] [0,1,3,10,11,12,67,68,69])
 .ret)
 .skip)))
 (.seq
 (.seq
 (.region false [
 om 70 11,
 oo 71 (.lenl (.tmp 70)),
 oo 72 (.bin .eql 3 (.tmp 71) (.const (.int .i64 0))),
 om 73 72,
 og 74 (.mov (.tmp 3)) 73 false,
 og 75 (.bin .eql 3 (.tmp 74) (.const (.int .i64 6))) 73 false,
 oo 76 (.pick (.tmp 73) (.const (.bool true)) (.tmp 75))] [12,67,70,71,72,73,74,75])
 (.cond (.tmp 76)
 (.seq
 (.region false [
 oo 77 (.build [.lit (.int .i64 0),.lit (.int .u32 0),.lit (.int .i64 0)] []),
 ⟨none,.store 3 (.tmp 8) (.tmp 77),none⟩,
 oo 9 (.mov (.const (.bool false)))] [0,1,3,10,11,76,77])
 .ret)
 .skip))
 (.seq
 (.region true [
 om 78 10,
 oo 79 (.nilchk (.tmp 78)),
 oo 80 (.faddr 3 1 (.tmp 79)),
 oo 81 (.load false 1 (.tmp 80)),
 om 82 11,
 oo 83 (.iaddr 1 (.tmp 82) (.const (.int .i64 0))),
 oo 84 (.load false 1 (.tmp 83)),
 oo 85 (.iaddr 5 (.tmp 81) (.tmp 84)),
 oo 86 (.load true 5 (.tmp 85)),
 oo 14 (.alloc [.lit (.int .i64 0),.lit (.int .u32 0),.lit (.int .i64 0),.lit (.int .u32 0),.lit (.int .i64 0)]),
 ⟨none,.store 5 (.tmp 14) (.tmp 86),none⟩] [76,78,79,80,81,82,83,84,85,86])
 (.seq
 (.seq
 (.region false [
 om 87 11,
 oo 88 (.slc 1 (.tmp 87) (some (.const (.int .i64 1))) none),
 oo 89 (.lenl (.tmp 88)),
 oo 90 (.mov (.const (.int .i64 0)))] [11,87])
 (.block 0
 (.loop
 (.seq
 (.region false [
 oo 91 (.bin .lss 3 (.tmp 90) (.tmp 89))] [])
 (.seq
 (.cond (.tmp 91)
 .skip
 (.exit 0))
 (.seq
 (.block 1
 (.seq
 (.region false [
 oo 92 (.iaddr 1 (.tmp 88) (.tmp 90)),
 oo 93 (.load false 1 (.tmp 92)),
 om 16 93] [91,92,93])
 (.seq
 (.region true [
 om 94 10,
 oo 95 (.nilchk (.tmp 94)),
 oo 96 (.faddr 3 1 (.tmp 95)),
 oo 97 (.load false 1 (.tmp 96)),
 om 98 16,
 oo 99 (.iaddr 5 (.tmp 97) (.tmp 98)),
 oo 100 (.faddr 4 1 (.tmp 99)),
 oo 101 (.load false 1 (.tmp 100)),
 oo 102 (.faddr 4 1 (.tmp 14)),
 oo 103 (.load false 1 (.tmp 102)),
 oo 104 (.bin .lss 3 (.tmp 101) (.tmp 103))] [94,95,96,97,98,99,100,101,102,103])
 (.cond (.tmp 104)
 (.region false [
 om 105 10,
 oo 106 (.nilchk (.tmp 105)),
 oo 107 (.faddr 3 1 (.tmp 106)),
 oo 108 (.load false 1 (.tmp 107)),
 om 109 16,
 oo 110 (.iaddr 5 (.tmp 108) (.tmp 109)),
 oo 111 (.load true 5 (.tmp 110)),
 ⟨none,.store 5 (.tmp 14) (.tmp 111),none⟩] [16,104,105,106,107,108,109,110,111])
 .skip))) [16,104])
 (.region false [
 oo 112 (.bin .add 3 (.tmp 90) (.const (.int .i64 1))),
 om 90 112] [112])))) [] []) [10,88,89,90,91]))
 (.seq
 (.region false [
 om 114 0,
 om 115 1,
 oo 116 (.faddr 3 1 (.tmp 14)),
 oo 117 (.load false 1 (.tmp 116)),
 om 118 3,
 oo 119 (.bin .add 3 (.tmp 118) (.const (.int .i64 1))),
 oo 120 (.callm 40 [.tmp 114,.tmp 115,.tmp 117,.tmp 119]),
 om 113 120,
 oo 121 (.ext (.tmp 113) 0),
 oo 122 (.ext (.tmp 113) 1),
 oo 17 (.alloc [.lit (.int .i64 0),.lit (.int .u32 0),.lit (.int .i64 0)]),
 ⟨none,.store 3 (.tmp 17) (.tmp 121),none⟩,
 om 18 122] [0,1,3,113,114,115,116,117,118,119,120,121,122])
 (.seq
 (.seq
 (.region false [
 om 123 18,
 oo 124 (.un .not (.tmp 123))] [18,123])
 (.cond (.tmp 124)
 (.seq
 (.region false [
 oo 125 (.build [.lit (.int .i64 0),.lit (.int .u32 0),.lit (.int .i64 0)] []),
 ⟨none,.store 3 (.tmp 8) (.tmp 125),none⟩,
 oo 9 (.mov (.const (.bool false)))] [14,17,124,125])
 .ret)
 .skip))
 (.seq
 (.seq
 (.region false [
 oo 126 (.faddr 1 1 (.tmp 17)),
 oo 127 (.load false 1 (.tmp 126)),
 oo 128 (.bin .eql 45 (.tmp 127) (.const (.int .u32 0)))] [124,126,127])
 (.cond (.tmp 128)
 (.region false [
 oo 129 (.faddr 3 1 (.tmp 14)),
 oo 130 (.load false 1 (.tmp 129)),
 oo 131 (.faddr 1 1 (.tmp 17)),
 ⟨none,.store 1 (.tmp 131) (.tmp 130),none⟩] [128,129,130,131])
 .skip))
 (.seq
 (.region false [
 oo 132 (.faddr 2 1 (.tmp 17)),
 oo 133 (.load false 1 (.tmp 132)),
 oo 134 (.faddr 4 1 (.tmp 14)),
 oo 135 (.load false 1 (.tmp 134)),
 oo 136 (.bin .add 3 (.tmp 133) (.tmp 135)),
 oo 137 (.mnmx false [.tmp 136,.const (.int .i64 65535)]),
 oo 138 (.faddr 2 1 (.tmp 17)),
 ⟨none,.store 1 (.tmp 138) (.tmp 137),none⟩] [14,128,132,133,134,135,136,137,138])
 (.seq
 (.region false [
 oo 139 (.load true 3 (.tmp 17)),
 ⟨none,.store 3 (.tmp 8) (.tmp 139),none⟩,
 oo 9 (.mov (.const (.bool true)))] [17,139])
 .ret))))))))))))
abbrev v_q37 : List RV:= [.cell true 3 8,.tmp 9]
abbrev f_q37 : FuncId:= 40
theorem k_q37 : closedOf Tryd.prog Tryd.f40 = (false,some true,some v_q37,some c_q37.plain,140):= by kernel_rfl
theorem ac_q37 {args : List AV} {r : AV} (h : aw Tryd.prog c_q37 (env0 args) (endQ v_q37 r)) (hargs : args.length ≤ 140:= by decide) (hok : resOK r = true:= by rfl) : AC Tryd.prog f_q37 args r :=
  AC_mk (by kernel_rfl) Tryd.func40 k_q37 hargs hok (by decide) h
def c_q38 : ACode :=
 (.seq
 (.region false [
 oo 2 (.box (.tmp 0)),
 oo 4 (.mov (.const (.bool false)))] [0,4])
 (.seq
 (.region true [
 oo 5 (.load true 2 (.tmp 2)),
 oo 6 (.call 62 [.tmp 5]),
 om 7 6,
 og 8 (.mov (.tmp 1)) 7 true,
 og 9 (.faddr 1 1 (.tmp 2)) 7 true,
 og 10 (.load false 1 (.tmp 9)) 7 true,
 og 11 (.call 63 [.tmp 10]) 7 true,
 og 12 (.bin .and 45 (.tmp 8) (.tmp 11)) 7 true,
 og 13 (.faddr 0 1 (.tmp 2)) 7 true,
 og 14 (.load false 1 (.tmp 13)) 7 true,
 og 15 (.bin .eql 45 (.tmp 12) (.tmp 14)) 7 true,
 oo 16 (.pick (.tmp 7) (.tmp 15) (.const (.bool false))),
 om 4 16] [1,2,5,6,7,8,9,10,11,12,13,14,15,16])
 .ret))
abbrev v_q38 : List RV:= [.tmp 4]
abbrev f_q38 : FuncId:= 41
theorem k_q38 : closedOf Tryd.prog Tryd.f41 = (false,some true,some v_q38,some c_q38.plain,17):= by kernel_rfl
theorem ac_q38 {args : List AV} {r : AV} (h : aw Tryd.prog c_q38 (env0 args) (endQ v_q38 r)) (hargs : args.length ≤ 17:= by decide) (hok : resOK r = true:= by rfl) : AC Tryd.prog f_q38 args r :=
  AC_mk (by kernel_rfl) Tryd.func41 k_q38 hargs hok (by decide) h
def c_q40 : ACode :=
 (.seq
 (.region false [
 oo 2 (.box (.tmp 0)),
 oo 4 (.mov (.const (.nilIface)))] [0,4])
 (.seq
 (.region false [
 oo 7 (.faddr 0 7 (.tmp 2)),
 oo 8 (.faddr 0 1 (.tmp 7)),
 oo 9 (.load false 1 (.tmp 8)),
 om 10 1,
 oo 11 (.iaddr 2 (.tmp 9) (.tmp 10)),
 oo 12 (.load true 2 (.tmp 11)),
 oo 5 (.alloc [.lit (.string ⟨#[]⟩),.lit (.int .i64 0)]),
 ⟨none,.store 2 (.tmp 5) (.tmp 12),none⟩] [7,8,9,10,11,12])
 (.seq
 (.seq
 (.region false [
 oo 13 (.faddr 0 1 (.tmp 5)),
 oo 14 (.load false 1 (.tmp 13)),
 oo 15 (.callm 64 [.tmp 14]),
 om 6 15] [13,14,15])
 (.seq
 (.region false [
 om 16 6,
 oo 17 (.eqn true (.tmp 16))] [16])
 (.cond (.tmp 17)
 (.seq
 (.region false [
 om 18 6,
 om 4 18] [1,2,5,6,17,18])
 .ret)
 .skip)))
 (.seq
 (.block 0
 (.seq
 (.region false [
 oo 20 (.faddr 0 7 (.tmp 2)),
 oo 21 (.faddr 0 1 (.tmp 20)),
 oo 22 (.load false 1 (.tmp 21)),
 om 23 1,
 oo 24 (.slc 2 (.tmp 22) none (some (.tmp 23))),
 oo 25 (.mkfn (.func 66) [] [.tmp 5]),
 oo 26 (.callm 65 [.tmp 24,.tmp 25]),
 om 19 26] [1,2,6,17,20,21,22,23,24,25,26])
 (.cond (.tmp 19)
 (.seq
 (.region false [
 oo 27 (.load false 1 (.global 1)),
 om 4 27] [5,19,27])
 .ret)
 (.seq
 (.region false [
 oo 29 (.faddr 1 1 (.tmp 5)),
 oo 30 (.load false 1 (.tmp 29)),
 oo 31 (.callm 67 [.tmp 30]),
 oo 32 (.un .not (.tmp 31)),
 om 28 32] [5,19,29,30,31,32])
 (.cond (.tmp 28)
 (.seq
 (.region false [
 oo 33 (.load false 1 (.global 2)),
 om 4 33] [28,33])
 .ret)
 .skip)))) [28])
 (.seq
 (.region false [
 oo 4 (.mov (.const (.nilIface)))] [])
 .ret)))))
abbrev v_q40 : List RV:= [.tmp 4]
abbrev f_q40 : FuncId:= 43
theorem k_q40 : closedOf Tryd.prog Tryd.f43 = (false,some true,some v_q40,some c_q40.plain,34):= by kernel_rfl
theorem ac_q40 {args : List AV} {r : AV} (h : aw Tryd.prog c_q40 (env0 args) (endQ v_q40 r)) (hargs : args.length ≤ 34:= by decide) (hok : resOK r = true:= by rfl) : AC Tryd.prog f_q40 args r :=
  AC_mk (by kernel_rfl) Tryd.func43 k_q40 hargs hok (by decide) h
def c_q41 : ACode :=
 (.seq
 (.region false [
 oo 2 (.box (.tmp 0)),
 oo 4 (.mov (.const (.nilIface)))] [0,4])
 (.seq
 (.region false [
 oo 7 (.faddr 0 7 (.tmp 2)),
 oo 8 (.faddr 1 1 (.tmp 7)),
 oo 9 (.load false 1 (.tmp 8)),
 om 10 1,
 oo 11 (.iaddr 3 (.tmp 9) (.tmp 10)),
 oo 12 (.load true 3 (.tmp 11)),
 oo 5 (.alloc [.lit (.string ⟨#[]⟩),.lit (.int .u32 0),.lit (.int .i64 0)]),
 ⟨none,.store 3 (.tmp 5) (.tmp 12),none⟩] [7,8,9,10,11,12])
 (.seq
 (.seq
 (.region false [
 oo 13 (.faddr 0 1 (.tmp 5)),
 oo 14 (.load false 1 (.tmp 13)),
 oo 15 (.callm 64 [.tmp 14]),
 om 6 15] [13,14,15])
 (.seq
 (.region false [
 om 16 6,
 oo 17 (.eqn true (.tmp 16))] [16])
 (.cond (.tmp 17)
 (.seq
 (.region false [
 om 18 6,
 om 4 18] [1,2,5,6,17,18])
 .ret)
 .skip)))
 (.seq
 (.block 0
 (.seq
 (.region false [
 oo 20 (.faddr 0 7 (.tmp 2)),
 oo 21 (.faddr 1 1 (.tmp 20)),
 oo 22 (.load false 1 (.tmp 21)),
 om 23 1,
 oo 24 (.slc 3 (.tmp 22) none (some (.tmp 23))),
 oo 25 (.mkfn (.func 69) [] [.tmp 5]),
 oo 26 (.callm 68 [.tmp 24,.tmp 25]),
 om 19 26] [1,2,6,17,20,21,22,23,24,25,26])
 (.cond (.tmp 19)
 (.seq
 (.region false [
 oo 27 (.load false 1 (.global 1)),
 om 4 27] [5,19,27])
 .ret)
 (.seq
 (.region false [
 oo 29 (.faddr 1 2 (.tmp 5)),
 oo 30 (.load true 2 (.tmp 29)),
 oo 31 (.callm 62 [.tmp 30]),
 oo 32 (.un .not (.tmp 31)),
 om 28 32] [19,29,30,31,32])
 (.cond (.tmp 28)
 (.seq
 (.region false [
 oo 33 (.load false 1 (.global 2)),
 om 4 33] [5,28,33])
 .ret)
 (.seq
 (.region true [
 oo 35 (.faddr 1 2 (.tmp 5)),
 oo 36 (.load true 2 (.tmp 35)),
 oo 37 (.call 71 []),
 oo 38 (.call 70 [.tmp 36,.tmp 37]),
 om 39 38,
 og 40 (.call 71 []) 39 false,
 og 41 (.faddr 1 2 (.tmp 5)) 39 false,
 og 42 (.load true 2 (.tmp 41)) 39 false,
 og 43 (.call 70 [.tmp 40,.tmp 42]) 39 false,
 oo 44 (.pick (.tmp 39) (.const (.bool true)) (.tmp 43)),
 om 34 44] [5,28,35,36,37,38,39,40,41,42,43,44])
 (.cond (.tmp 34)
 (.seq
 (.region false [
 oo 45 (.load false 1 (.global 3)),
 om 4 45] [34,45])
 .ret)
 .skip)))))) [34])
 (.seq
 (.region false [
 oo 4 (.mov (.const (.nilIface)))] [])
 .ret)))))
abbrev v_q41 : List RV:= [.tmp 4]
abbrev f_q41 : FuncId:= 44
theorem k_q41 : closedOf Tryd.prog Tryd.f44 = (false,some true,some v_q41,some c_q41.plain,46):= by kernel_rfl
theorem ac_q41 {args : List AV} {r : AV} (h : aw Tryd.prog c_q41 (env0 args) (endQ v_q41 r)) (hargs : args.length ≤ 46:= by decide) (hok : resOK r = true:= by rfl) : AC Tryd.prog f_q41 args r :=
  AC_mk (by kernel_rfl) Tryd.func44 k_q41 hargs hok (by decide) h
def c_q42 : ACode :=
 (.seq
 (.region false [
 oo 2 (.box (.tmp 0)),
 oo 4 (.mov (.const (.nilIface)))] [0,4])
 (.seq
 (.region false [
 oo 6 (.faddr 0 7 (.tmp 2)),
 oo 7 (.faddr 2 1 (.tmp 6)),
 oo 8 (.load false 1 (.tmp 7)),
 om 9 1,
 oo 10 (.iaddr 3 (.tmp 8) (.tmp 9)),
 oo 11 (.load true 3 (.tmp 10)),
 oo 5 (.alloc [.lit (.int .i64 0),.lit (.int .i64 0),.lit (.int .u32 0)]),
 ⟨none,.store 3 (.tmp 5) (.tmp 11),none⟩] [6,7,8,9,10,11])
 (.seq
 (.block 0
 (.seq
 (.region false [
 oo 13 (.faddr 0 1 (.tmp 5)),
 oo 14 (.load false 1 (.tmp 13)),
 oo 15 (.faddr 0 7 (.tmp 2)),
 oo 16 (.faddr 0 1 (.tmp 15)),
 oo 17 (.load false 1 (.tmp 16)),
 oo 18 (.lenl (.tmp 17)),
 oo 19 (.callm 72 [.tmp 14,.tmp 18]),
 oo 20 (.un .not (.tmp 19)),
 om 21 20,
 og 22 (.faddr 1 1 (.tmp 5)) 21 false,
 og 23 (.load false 1 (.tmp 22)) 21 false,
 og 24 (.faddr 0 7 (.tmp 2)) 21 false,
 og 25 (.faddr 1 1 (.tmp 24)) 21 false,
 og 26 (.load false 1 (.tmp 25)) 21 false,
 og 27 (.lenl (.tmp 26)) 21 false,
 og 28 (.callm 72 [.tmp 23,.tmp 27]) 21 false,
 og 29 (.un .not (.tmp 28)) 21 false,
 oo 30 (.pick (.tmp 21) (.const (.bool true)) (.tmp 29)),
 om 12 30] [13,14,15,16,17,18,19,20,21,22,23,24,25,26,27,28,29,30])
 (.cond (.tmp 12)
 (.seq
 (.region false [
 oo 31 (.load false 1 (.global 4)),
 om 4 31] [1,2,5,12,31])
 .ret)
 (.seq
 (.region false [
 oo 33 (.load true 7 (.tmp 2)),
 oo 34 (.faddr 1 1 (.tmp 5)),
 oo 35 (.load false 1 (.tmp 34)),
 oo 36 (.faddr 2 1 (.tmp 5)),
 oo 37 (.load false 1 (.tmp 36)),
 oo 38 (.callm 73 [.tmp 33,.tmp 35,.tmp 37]),
 oo 39 (.un .not (.tmp 38)),
 om 32 39] [12,33,34,35,36,37,38,39])
 (.cond (.tmp 32)
 (.seq
 (.region false [
 oo 40 (.load false 1 (.global 5)),
 om 4 40] [1,2,5,32,40])
 .ret)
 (.seq
 (.region false [
 oo 42 (.faddr 0 7 (.tmp 2)),
 oo 43 (.faddr 2 1 (.tmp 42)),
 oo 44 (.load false 1 (.tmp 43)),
 om 45 1,
 oo 46 (.slc 3 (.tmp 44) none (some (.tmp 45))),
 oo 47 (.mkfn (.func 75) [] [.tmp 5]),
 oo 48 (.callm 74 [.tmp 46,.tmp 47]),
 om 41 48] [1,2,5,32,42,43,44,45,46,47,48])
 (.cond (.tmp 41)
 (.seq
 (.region false [
 oo 49 (.load false 1 (.global 1)),
 om 4 49] [41,49])
 .ret)
 .skip)))))) [41])
 (.seq
 (.region false [
 oo 4 (.mov (.const (.nilIface)))] [])
 .ret))))
abbrev v_q42 : List RV:= [.tmp 4]
abbrev f_q42 : FuncId:= 45
theorem k_q42 : closedOf Tryd.prog Tryd.f45 = (false,some true,some v_q42,some c_q42.plain,50):= by kernel_rfl
theorem ac_q42 {args : List AV} {r : AV} (h : aw Tryd.prog c_q42 (env0 args) (endQ v_q42 r)) (hargs : args.length ≤ 50:= by decide) (hok : resOK r = true:= by rfl) : AC Tryd.prog f_q42 args r :=
  AC_mk (by kernel_rfl) Tryd.func45 k_q42 hargs hok (by decide) h
def c_q43 : ACode :=
 (.seq
 (.region false [
 oo 2 (.box (.tmp 0)),
 oo 4 (.mov (.const (.nilIface)))] [0,4])
 (.seq
 (.region false [
 oo 6 (.faddr 0 7 (.tmp 2)),
 oo 7 (.faddr 3 1 (.tmp 6)),
 oo 8 (.load false 1 (.tmp 7)),
 om 9 1,
 oo 10 (.iaddr 5 (.tmp 8) (.tmp 9)),
 oo 11 (.load true 5 (.tmp 10)),
 oo 5 (.alloc [.lit (.int .i64 0),.lit (.int .u32 0),.lit (.int .i64 0),.lit (.int .u32 0),.lit (.int .i64 0)]),
 ⟨none,.store 5 (.tmp 5) (.tmp 11),none⟩] [1,6,7,8,9,10,11])
 (.seq
 (.block 0
 (.seq
 (.region false [
 oo 13 (.faddr 0 1 (.tmp 5)),
 oo 14 (.load false 1 (.tmp 13)),
 oo 15 (.faddr 0 7 (.tmp 2)),
 oo 16 (.faddr 0 1 (.tmp 15)),
 oo 17 (.load false 1 (.tmp 16)),
 oo 18 (.lenl (.tmp 17)),
 oo 19 (.callm 72 [.tmp 14,.tmp 18]),
 oo 20 (.un .not (.tmp 19)),
 om 12 20] [2,13,14,15,16,17,18,19,20])
 (.cond (.tmp 12)
 (.seq
 (.region false [
 oo 21 (.load false 1 (.global 4)),
 om 4 21] [5,12,21])
 .ret)
 (.seq
 (.region false [
 oo 23 (.faddr 1 2 (.tmp 5)),
 oo 24 (.load true 2 (.tmp 23)),
 oo 25 (.callm 62 [.tmp 24]),
 oo 26 (.un .not (.tmp 25)),
 om 27 26,
 og 28 (.faddr 4 1 (.tmp 5)) 27 false,
 og 29 (.load false 1 (.tmp 28)) 27 false,
 og 30 (.callm 67 [.tmp 29]) 27 false,
 og 31 (.un .not (.tmp 30)) 27 false,
 oo 32 (.pick (.tmp 27) (.const (.bool true)) (.tmp 31)),
 om 22 32] [12,23,24,25,26,27,28,29,30,31,32])
 (.cond (.tmp 22)
 (.seq
 (.region false [
 oo 33 (.load false 1 (.global 2)),
 om 4 33] [5,22,33])
 .ret)
 (.seq
 (.region false [
 oo 35 (.faddr 3 1 (.tmp 5)),
 oo 36 (.load false 1 (.tmp 35)),
 oo 37 (.callm 76 [.tmp 36]),
 oo 38 (.un .not (.tmp 37)),
 om 34 38] [5,22,35,36,37,38])
 (.cond (.tmp 34)
 (.seq
 (.region false [
 oo 39 (.load false 1 (.global 3)),
 om 4 39] [34,39])
 .ret)
 .skip)))))) [34])
 (.seq
 (.region false [
 oo 4 (.mov (.const (.nilIface)))] [])
 .ret))))
abbrev v_q43 : List RV:= [.tmp 4]
abbrev f_q43 : FuncId:= 46
theorem k_q43 : closedOf Tryd.prog Tryd.f46 = (false,some true,some v_q43,some c_q43.plain,40):= by kernel_rfl
theorem ac_q43 {args : List AV} {r : AV} (h : aw Tryd.prog c_q43 (env0 args) (endQ v_q43 r)) (hargs : args.length ≤ 40:= by decide) (hok : resOK r = true:= by rfl) : AC Tryd.prog f_q43 args r :=
  AC_mk (by kernel_rfl) Tryd.func46 k_q43 hargs hok (by decide) h
def c_q44 : ACode :=
 (.seq
 (.region false [
 oo 2 (.box (.tmp 0)),
 oo 4 (.mov (.const (.nilIface)))] [0,4])
 (.seq
 (.region false [
 oo 6 (.faddr 0 7 (.tmp 2)),
 oo 7 (.faddr 4 1 (.tmp 6)),
 oo 8 (.load false 1 (.tmp 7)),
 om 9 1,
 oo 10 (.iaddr 3 (.tmp 8) (.tmp 9)),
 oo 11 (.load true 3 (.tmp 10)),
 oo 5 (.alloc [.lit (.int .u32 0),.lit (.int .i64 0),.lit (.int .u32 0)]),
 ⟨none,.store 3 (.tmp 5) (.tmp 11),none⟩] [6,7,8,9,10,11])
 (.seq
 (.block 0
 (.seq
 (.region false [
 oo 13 (.faddr 0 2 (.tmp 5)),
 oo 14 (.load true 2 (.tmp 13)),
 oo 15 (.callm 62 [.tmp 14]),
 oo 16 (.un .not (.tmp 15)),
 om 12 16] [13,14,15,16])
 (.cond (.tmp 12)
 (.seq
 (.region false [
 oo 17 (.load false 1 (.global 2)),
 om 4 17] [1,2,5,12,17])
 .ret)
 (.seq
 (.region true [
 oo 19 (.faddr 0 2 (.tmp 5)),
 oo 20 (.load true 2 (.tmp 19)),
 oo 21 (.call 71 []),
 oo 22 (.call 70 [.tmp 20,.tmp 21]),
 oo 23 (.un .not (.tmp 22)),
 om 24 23,
 og 25 (.faddr 2 1 (.tmp 5)) 24 false,
 og 26 (.load false 1 (.tmp 25)) 24 false,
 og 27 (.call 76 [.tmp 26]) 24 false,
 og 28 (.un .not (.tmp 27)) 24 false,
 oo 29 (.pick (.tmp 24) (.const (.bool true)) (.tmp 28)),
 om 18 29] [12,19,20,21,22,23,24,25,26,27,28,29])
 (.cond (.tmp 18)
 (.seq
 (.region false [
 oo 30 (.load false 1 (.global 3)),
 om 4 30] [1,2,5,18,30])
 .ret)
 (.seq
 (.region false [
 oo 32 (.faddr 0 7 (.tmp 2)),
 oo 33 (.faddr 4 1 (.tmp 32)),
 oo 34 (.load false 1 (.tmp 33)),
 om 35 1,
 oo 36 (.slc 3 (.tmp 34) none (some (.tmp 35))),
 oo 37 (.mkfn (.func 78) [] [.tmp 5]),
 oo 38 (.callm 77 [.tmp 36,.tmp 37]),
 om 31 38] [1,2,5,18,32,33,34,35,36,37,38])
 (.cond (.tmp 31)
 (.seq
 (.region false [
 oo 39 (.load false 1 (.global 1)),
 om 4 39] [31,39])
 .ret)
 .skip)))))) [31])
 (.seq
 (.region false [
 oo 4 (.mov (.const (.nilIface)))] [])
 .ret))))
abbrev v_q44 : List RV:= [.tmp 4]
abbrev f_q44 : FuncId:= 47
theorem k_q44 : closedOf Tryd.prog Tryd.f47 = (false,some true,some v_q44,some c_q44.plain,40):= by kernel_rfl
theorem ac_q44 {args : List AV} {r : AV} (h : aw Tryd.prog c_q44 (env0 args) (endQ v_q44 r)) (hargs : args.length ≤ 40:= by decide) (hok : resOK r = true:= by rfl) : AC Tryd.prog f_q44 args r :=
  AC_mk (by kernel_rfl) Tryd.func47 k_q44 hargs hok (by decide) h
def c_q45 : ACode :=
 (.seq
 (.region false [
 oo 2 (.box (.tmp 0)),
 oo 4 (.mov (.const (.nilIface)))] [0,4])
 (.seq
 (.region false [
 oo 6 (.faddr 0 7 (.tmp 2)),
 oo 7 (.faddr 5 1 (.tmp 6)),
 oo 8 (.load false 1 (.tmp 7)),
 om 9 1,
 oo 10 (.iaddr 3 (.tmp 8) (.tmp 9)),
 oo 11 (.load true 3 (.tmp 10)),
 oo 5 (.alloc [.lit (.int .i64 0),.lit (.int .u32 0),.lit (.int .u32 0)]),
 ⟨none,.store 3 (.tmp 5) (.tmp 11),none⟩] [6,7,8,9,10,11])
 (.seq
 (.block 0
 (.seq
 (.region false [
 oo 13 (.faddr 0 1 (.tmp 5)),
 oo 14 (.load false 1 (.tmp 13)),
 oo 15 (.faddr 0 7 (.tmp 2)),
 oo 16 (.faddr 1 1 (.tmp 15)),
 oo 17 (.load false 1 (.tmp 16)),
 oo 18 (.lenl (.tmp 17)),
 oo 19 (.callm 72 [.tmp 14,.tmp 18]),
 oo 20 (.un .not (.tmp 19)),
 om 12 20] [13,14,15,16,17,18,19,20])
 (.cond (.tmp 12)
 (.seq
 (.region false [
 oo 21 (.load false 1 (.global 4)),
 om 4 21] [1,2,5,12,21])
 .ret)
 (.seq
 (.region false [
 oo 23 (.load true 7 (.tmp 2)),
 oo 24 (.faddr 0 1 (.tmp 5)),
 oo 25 (.load false 1 (.tmp 24)),
 oo 26 (.faddr 1 2 (.tmp 5)),
 oo 27 (.faddr 0 1 (.tmp 26)),
 oo 28 (.load false 1 (.tmp 27)),
 oo 29 (.callm 73 [.tmp 23,.tmp 25,.tmp 28]),
 oo 30 (.un .not (.tmp 29)),
 om 22 30] [12,23,24,25,26,27,28,29,30])
 (.cond (.tmp 22)
 (.seq
 (.region false [
 oo 31 (.load false 1 (.global 5)),
 om 4 31] [1,2,5,22,31])
 .ret)
 (.seq
 (.region false [
 oo 33 (.faddr 1 2 (.tmp 5)),
 oo 34 (.faddr 1 1 (.tmp 33)),
 oo 35 (.load false 1 (.tmp 34)),
 oo 36 (.callm 79 [.tmp 35]),
 oo 37 (.un .not (.tmp 36)),
 om 32 37] [22,33,34,35,36,37])
 (.cond (.tmp 32)
 (.seq
 (.region false [
 oo 38 (.load false 1 (.global 3)),
 om 4 38] [1,2,5,32,38])
 .ret)
 (.seq
 (.seq
 (.region false [
 oo 40 (.faddr 0 7 (.tmp 2)),
 oo 41 (.faddr 5 1 (.tmp 40)),
 oo 42 (.load false 1 (.tmp 41)),
 om 43 1,
 oo 44 (.slc 3 (.tmp 42) none (some (.tmp 43))),
 oo 45 (.mkfn (.func 81) [] [.tmp 5]),
 oo 46 (.callm 80 [.tmp 44,.tmp 45]),
 om 39 46] [1,32,40,41,42,43,44,45,46])
 (.cond (.tmp 39)
 .skip
 (.region false [
 oo 47 (.faddr 0 7 (.tmp 2)),
 oo 48 (.faddr 2 1 (.tmp 47)),
 oo 49 (.load false 1 (.tmp 48)),
 oo 50 (.mkfn (.func 82) [] [.tmp 5]),
 oo 51 (.callm 74 [.tmp 49,.tmp 50]),
 om 39 51] [2,5,47,48,49,50,51])))
 (.cond (.tmp 39)
 (.seq
 (.region false [
 oo 52 (.load false 1 (.global 1)),
 om 4 52] [2,5,39,52])
 .ret)
 .skip)))))))) [2,5,39])
 (.seq
 (.region false [
 oo 4 (.mov (.const (.nilIface)))] [])
 .ret))))
abbrev v_q45 : List RV:= [.tmp 4]
abbrev f_q45 : FuncId:= 48
theorem k_q45 : closedOf Tryd.prog Tryd.f48 = (false,some true,some v_q45,some c_q45.plain,53):= by kernel_rfl
theorem ac_q45 {args : List AV} {r : AV} (h : aw Tryd.prog c_q45 (env0 args) (endQ v_q45 r)) (hargs : args.length ≤ 53:= by decide) (hok : resOK r = true:= by rfl) : AC Tryd.prog f_q45 args r :=
  AC_mk (by kernel_rfl) Tryd.func48 k_q45 hargs hok (by decide) h
def c_q46 : ACode :=
 (.seq
 (.region false [
 oo 2 (.box (.tmp 0)),
 oo 4 (.mov (.const (.nilIface)))] [0,4])
 (.seq
 (.region false [
 oo 7 (.faddr 0 7 (.tmp 2)),
 oo 8 (.faddr 6 1 (.tmp 7)),
 oo 9 (.load false 1 (.tmp 8)),
 om 10 1,
 oo 11 (.iaddr 4 (.tmp 9) (.tmp 10)),
 oo 12 (.load true 4 (.tmp 11)),
 oo 5 (.alloc [.lit (.int .i64 0),.lit (.int .u32 0),.lit (.bool false),.sl .nil 0 []]),
 ⟨none,.store 4 (.tmp 5) (.tmp 12),none⟩] [1,7,8,9,10,11,12])
 (.seq
 (.block 0
 (.seq
 (.region false [
 oo 14 (.faddr 0 1 (.tmp 5)),
 oo 15 (.load false 1 (.tmp 14)),
 oo 16 (.faddr 0 7 (.tmp 2)),
 oo 17 (.faddr 1 1 (.tmp 16)),
 oo 18 (.load false 1 (.tmp 17)),
 oo 19 (.lenl (.tmp 18)),
 oo 20 (.callm 72 [.tmp 15,.tmp 19]),
 oo 21 (.un .not (.tmp 20)),
 om 13 21] [2,14,15,16,17,18,19,20,21])
 (.cond (.tmp 13)
 (.seq
 (.region false [
 oo 22 (.load false 1 (.global 4)),
 om 4 22] [5,13,22])
 .ret)
 (.seq
 (.region false [
 oo 24 (.faddr 1 1 (.tmp 5)),
 oo 25 (.load false 1 (.tmp 24)),
 oo 26 (.callm 79 [.tmp 25]),
 oo 27 (.un .not (.tmp 26)),
 om 28 27,
 og 29 (.faddr 3 1 (.tmp 5)) 28 false,
 og 30 (.load false 1 (.tmp 29)) 28 false,
 og 31 (.callm 83 [.tmp 30,.func 84]) 28 false,
 oo 32 (.pick (.tmp 28) (.const (.bool true)) (.tmp 31)),
 om 23 32] [13,24,25,26,27,28,29,30,31,32])
 (.cond (.tmp 23)
 (.seq
 (.region false [
 oo 33 (.load false 1 (.global 3)),
 om 4 33] [5,23,33])
 .ret)
 (.seq
 (.region false [
 oo 35 (.faddr 3 1 (.tmp 5)),
 oo 36 (.load false 1 (.tmp 35)),
 oo 37 (.lenl (.tmp 36)),
 oo 38 (.bin .gtr 3 (.tmp 37) (.const (.int .i64 4))),
 om 34 38] [23,35,36,37,38])
 (.cond (.tmp 34)
 (.seq
 (.region false [
 oo 39 (.load false 1 (.global 0)),
 om 4 39] [5,34,39])
 .ret)
 .skip)))))) [34])
 (.seq
 (.region false [
 oo 40 (.faddr 3 1 (.tmp 5)),
 oo 41 (.load false 1 (.tmp 40)),
 oo 42 (.callm 86 [.tmp 41]),
 oo 43 (.callm 85 [.tmp 42]),
 om 6 43] [40,41,42,43])
 (.seq
 (.seq
 (.shift
 (.region true [
 om 44 6,
 oo 45 (.call 34 [.tmp 44]),
 oo 46 (.lenl (.tmp 45)),
 oo 47 (.faddr 3 1 (.tmp 5)),
 oo 48 (.load false 1 (.tmp 47)),
 oo 49 (.lenl (.tmp 48)),
 oo 50 (.bin .lss 3 (.tmp 46) (.tmp 49))] [5,6,44,45,46,47,48,49]))
 (.cond (.tmp 50)
 (.seq
 (.region false [
 oo 51 (.load false 1 (.global 1)),
 om 4 51] [50,51])
 .ret)
 .skip))
 (.seq
 (.region false [
 oo 4 (.mov (.const (.nilIface)))] [50])
 .ret))))))
abbrev v_q46 : List RV:= [.tmp 4]
abbrev f_q46 : FuncId:= 49
theorem k_q46 : closedOf Tryd.prog Tryd.f49 = (false,some true,some v_q46,some c_q46.plain,52):= by kernel_rfl
theorem ac_q46 {args : List AV} {r : AV} (h : aw Tryd.prog c_q46 (env0 args) (endQ v_q46 r)) (hargs : args.length ≤ 52:= by decide) (hok : resOK r = true:= by rfl) : AC Tryd.prog f_q46 args r :=
  AC_mk (by kernel_rfl) Tryd.func49 k_q46 hargs hok (by decide) h
def c_q47 : ACode :=
 (.seq
 (.region false [
 oo 2 (.mov (.const (.slice none 0 0)))] [2])
 (.seq
 (.seq
 (.region false [
 om 3 0,
 oo 4 (.eqs false (.tmp 3))] [3])
 (.cond (.tmp 4)
 (.seq
 (.region false [
 oo 2 (.mov (.const (.slice none 0 0)))] [0,4])
 .ret)
 .skip))
 (.seq
 (.shift
 (.region false [
 oo 5 (.bsl0 2),
 om 6 0,
 oo 7 (.app 2 24 [] (.tmp 5) (.tmp 6)),
 om 2 7] [0,4,5,6,7]))
 .ret)))
abbrev v_q47 : List RV:= [.tmp 2]
abbrev f_q47 : FuncId:= 50
theorem k_q47 : closedOf Tryd.prog Tryd.f50 = (false,some true,some v_q47,some c_q47.plain,8):= by kernel_rfl
theorem ac_q47 {args : List AV} {r : AV} (h : aw Tryd.prog c_q47 (env0 args) (endQ v_q47 r)) (hargs : args.length ≤ 8:= by decide) (hok : resOK r = true:= by rfl) : AC Tryd.prog f_q47 args r :=
  AC_mk (by kernel_rfl) Tryd.func50 k_q47 hargs hok (by decide) h
def c_q48 : ACode :=
 (.seq
 (.region false [
 oo 2 (.mov (.const (.slice none 0 0)))] [2])
 (.seq
 (.seq
 (.region false [
 om 3 0,
 oo 4 (.eqs false (.tmp 3))] [3])
 (.cond (.tmp 4)
 (.seq
 (.region false [
 oo 2 (.mov (.const (.slice none 0 0)))] [0,4])
 .ret)
 .skip))
 (.seq
 (.shift
 (.region false [
 oo 5 (.bsl0 3),
 om 6 0,
 oo 7 (.app 3 32 [] (.tmp 5) (.tmp 6)),
 om 2 7] [0,4,5,6,7]))
 .ret)))
abbrev v_q48 : List RV:= [.tmp 2]
abbrev f_q48 : FuncId:= 51
theorem k_q48 : closedOf Tryd.prog Tryd.f51 = (false,some true,some v_q48,some c_q48.plain,8):= by kernel_rfl
theorem ac_q48 {args : List AV} {r : AV} (h : aw Tryd.prog c_q48 (env0 args) (endQ v_q48 r)) (hargs : args.length ≤ 8:= by decide) (hok : resOK r = true:= by rfl) : AC Tryd.prog f_q48 args r :=
  AC_mk (by kernel_rfl) Tryd.func51 k_q48 hargs hok (by decide) h
def c_q49 : ACode :=
 (.seq
 (.region false [
 oo 2 (.mov (.const (.slice none 0 0)))] [2])
 (.seq
 (.seq
 (.region false [
 om 3 0,
 oo 4 (.eqs false (.tmp 3))] [3])
 (.cond (.tmp 4)
 (.seq
 (.region false [
 oo 2 (.mov (.const (.slice none 0 0)))] [0,4])
 .ret)
 .skip))
 (.seq
 (.shift
 (.region false [
 oo 5 (.bsl0 3),
 om 6 0,
 oo 7 (.app 3 24 [] (.tmp 5) (.tmp 6)),
 om 2 7] [0,4,5,6,7]))
 .ret)))
abbrev v_q49 : List RV:= [.tmp 2]
abbrev f_q49 : FuncId:= 52
theorem k_q49 : closedOf Tryd.prog Tryd.f52 = (false,some true,some v_q49,some c_q49.plain,8):= by kernel_rfl
theorem ac_q49 {args : List AV} {r : AV} (h : aw Tryd.prog c_q49 (env0 args) (endQ v_q49 r)) (hargs : args.length ≤ 8:= by decide) (hok : resOK r = true:= by rfl) : AC Tryd.prog f_q49 args r :=
  AC_mk (by kernel_rfl) Tryd.func52 k_q49 hargs hok (by decide) h
def c_q50 : ACode :=
 (.seq
 (.region false [
 oo 2 (.mov (.const (.slice none 0 0)))] [2])
 (.seq
 (.seq
 (.region false [
 om 3 0,
 oo 4 (.eqs false (.tmp 3))] [3])
 (.cond (.tmp 4)
 (.seq
 (.region false [
 oo 2 (.mov (.const (.slice none 0 0)))] [0,4])
 .ret)
 .skip))
 (.seq
 (.shift
 (.region false [
 oo 5 (.bsl0 5),
 om 6 0,
 oo 7 (.app 5 40 [] (.tmp 5) (.tmp 6)),
 om 2 7] [0,4,5,6,7]))
 .ret)))
abbrev v_q50 : List RV:= [.tmp 2]
abbrev f_q50 : FuncId:= 53
theorem k_q50 : closedOf Tryd.prog Tryd.f53 = (false,some true,some v_q50,some c_q50.plain,8):= by kernel_rfl
theorem ac_q50 {args : List AV} {r : AV} (h : aw Tryd.prog c_q50 (env0 args) (endQ v_q50 r)) (hargs : args.length ≤ 8:= by decide) (hok : resOK r = true:= by rfl) : AC Tryd.prog f_q50 args r :=
  AC_mk (by kernel_rfl) Tryd.func53 k_q50 hargs hok (by decide) h
def c_q51 : ACode :=
 (.seq
 (.region false [
 oo 2 (.mov (.const (.slice none 0 0)))] [2])
 (.seq
 (.seq
 (.region false [
 om 3 0,
 oo 4 (.eqs false (.tmp 3))] [3])
 (.cond (.tmp 4)
 (.seq
 (.region false [
 oo 2 (.mov (.const (.slice none 0 0)))] [0,4])
 .ret)
 .skip))
 (.seq
 (.shift
 (.region false [
 oo 5 (.bsl0 3),
 om 6 0,
 oo 7 (.app 3 24 [] (.tmp 5) (.tmp 6)),
 om 2 7] [0,4,5,6,7]))
 .ret)))
abbrev v_q51 : List RV:= [.tmp 2]
abbrev f_q51 : FuncId:= 54
theorem k_q51 : closedOf Tryd.prog Tryd.f54 = (false,some true,some v_q51,some c_q51.plain,8):= by kernel_rfl
theorem ac_q51 {args : List AV} {r : AV} (h : aw Tryd.prog c_q51 (env0 args) (endQ v_q51 r)) (hargs : args.length ≤ 8:= by decide) (hok : resOK r = true:= by rfl) : AC Tryd.prog f_q51 args r :=
  AC_mk (by kernel_rfl) Tryd.func54 k_q51 hargs hok (by decide) h
def c_q52 : ACode :=
 (.seq
 (.region false [
 oo 2 (.mov (.const (.slice none 0 0)))] [2])
 (.seq
 (.seq
 (.region false [
 om 3 0,
 oo 4 (.eqs false (.tmp 3))] [3])
 (.cond (.tmp 4)
 (.seq
 (.region false [
 oo 2 (.mov (.const (.slice none 0 0)))] [0,4])
 .ret)
 .skip))
 (.seq
 (.shift
 (.region false [
 oo 5 (.bsl0 3),
 om 6 0,
 oo 7 (.app 3 16 [] (.tmp 5) (.tmp 6)),
 om 2 7] [0,4,5,6,7]))
 .ret)))
abbrev v_q52 : List RV:= [.tmp 2]
abbrev f_q52 : FuncId:= 55
theorem k_q52 : closedOf Tryd.prog Tryd.f55 = (false,some true,some v_q52,some c_q52.plain,8):= by kernel_rfl
theorem ac_q52 {args : List AV} {r : AV} (h : aw Tryd.prog c_q52 (env0 args) (endQ v_q52 r)) (hargs : args.length ≤ 8:= by decide) (hok : resOK r = true:= by rfl) : AC Tryd.prog f_q52 args r :=
  AC_mk (by kernel_rfl) Tryd.func55 k_q52 hargs hok (by decide) h
def c_q53 : ACode :=
 (.seq
 (.region false [
 oo 2 (.mov (.const (.slice none 0 0)))] [2])
 (.seq
 (.seq
 (.region false [
 om 3 0,
 oo 4 (.eqs false (.tmp 3))] [3])
 (.cond (.tmp 4)
 (.seq
 (.region false [
 oo 2 (.mov (.const (.slice none 0 0)))] [0,4])
 .ret)
 .skip))
 (.seq
 (.shift
 (.region false [
 oo 5 (.bsl0 4),
 om 6 0,
 oo 7 (.app 4 40 [] (.tmp 5) (.tmp 6)),
 om 2 7] [0,4,5,6,7]))
 .ret)))
abbrev v_q53 : List RV:= [.tmp 2]
abbrev f_q53 : FuncId:= 56
theorem k_q53 : closedOf Tryd.prog Tryd.f56 = (false,some true,some v_q53,some c_q53.plain,8):= by kernel_rfl
theorem ac_q53 {args : List AV} {r : AV} (h : aw Tryd.prog c_q53 (env0 args) (endQ v_q53 r)) (hargs : args.length ≤ 8:= by decide) (hok : resOK r = true:= by rfl) : AC Tryd.prog f_q53 args r :=
  AC_mk (by kernel_rfl) Tryd.func56 k_q53 hargs hok (by decide) h
def c_q54 : ACode :=
 (.seq
 (.region false [
 oo 2 (.mov (.const (.slice none 0 0)))] [2])
 (.seq
 (.seq
 (.region false [
 om 3 0,
 oo 4 (.eqs false (.tmp 3))] [3])
 (.cond (.tmp 4)
 (.seq
 (.region false [
 oo 2 (.mov (.const (.slice none 0 0)))] [0,4])
 .ret)
 .skip))
 (.seq
 (.shift
 (.region false [
 oo 5 (.bsl0 1),
 om 6 0,
 oo 7 (.app 1 4 [] (.tmp 5) (.tmp 6)),
 om 2 7] [0,4,5,6,7]))
 .ret)))
abbrev v_q54 : List RV:= [.tmp 2]
abbrev f_q54 : FuncId:= 57
theorem k_q54 : closedOf Tryd.prog Tryd.f57 = (false,some true,some v_q54,some c_q54.plain,8):= by kernel_rfl
theorem ac_q54 {args : List AV} {r : AV} (h : aw Tryd.prog c_q54 (env0 args) (endQ v_q54 r)) (hargs : args.length ≤ 8:= by decide) (hok : resOK r = true:= by rfl) : AC Tryd.prog f_q54 args r :=
  AC_mk (by kernel_rfl) Tryd.func57 k_q54 hargs hok (by decide) h
def c_q55 : ACode :=
 (.seq
 (.region false [
 oo 8 (.mov (.const (.bool true)))] [])
 (.seq
 (.region false [
 oo 9 (.mov (.const (.bool true)))] [])
 (.block 0
 (.loop
 (.block 1
 (.seq
 (.region false [
 om 19 2,
 om 20 1,
 oo 21 (.bin .sub 3 (.tmp 19) (.tmp 20)),
 om 10 21] [19,20,21])
 (.seq
 (.seq
 (.region false [
 om 22 10,
 oo 23 (.bin .leq 3 (.tmp 22) (.const (.int .i64 12)))] [22])
 (.cond (.tmp 23)
 (.seq
 (.region false [
 om 24 0,
 om 25 1,
 om 26 2,
 oo 27 (.callm 87 [.tmp 24,.tmp 25,.tmp 26])] [0,1,2,3,8,9,10,23,24,25,26,27])
 .ret)
 .skip))
 (.seq
 (.seq
 (.region false [
 om 28 3,
 oo 29 (.bin .eql 3 (.tmp 28) (.const (.int .i64 0)))] [23,28])
 (.cond (.tmp 29)
 (.seq
 (.region false [
 om 30 0,
 om 31 1,
 om 32 2,
 oo 33 (.callm 88 [.tmp 30,.tmp 31,.tmp 32])] [0,1,2,3,8,9,10,29,30,31,32,33])
 .ret)
 .skip))
 (.seq
 (.seq
 (.region false [
 om 34 8,
 oo 35 (.un .not (.tmp 34))] [29,34])
 (.cond (.tmp 35)
 (.seq
 (.region false [
 om 36 0,
 om 37 1,
 om 38 2,
 oo 39 (.callm 89 [.tmp 36,.tmp 37,.tmp 38])] [35,36,37,38,39])
 (.region false [
 om 40 3,
 oo 41 (.bin .sub 3 (.tmp 40) (.const (.int .i64 1))),
 om 3 41] [40,41]))
 .skip))
 (.seq
 (.region false [
 om 43 0,
 om 44 1,
 om 45 2,
 oo 46 (.callm 90 [.tmp 43,.tmp 44,.tmp 45]),
 om 42 46,
 oo 47 (.ext (.tmp 42) 0),
 oo 48 (.ext (.tmp 42) 1),
 om 11 47,
 om 12 48] [35,42,43,44,45,46,47,48])
 (.seq
 (.seq
 (.region false [
 om 49 12,
 oo 50 (.bin .eql 142 (.tmp 49) (.const (.int .i64 2)))] [49])
 (.cond (.tmp 50)
 (.seq
 (.region false [
 om 51 0,
 om 52 1,
 om 53 2,
 oo 54 (.callm 91 [.tmp 51,.tmp 52,.tmp 53])] [12,50,51,52,53,54])
 (.seq
 (.region false [
 om 55 2,
 oo 56 (.bin .sub 3 (.tmp 55) (.const (.int .i64 1))),
 om 57 11,
 om 58 1,
 oo 59 (.bin .sub 3 (.tmp 57) (.tmp 58)),
 oo 60 (.bin .sub 3 (.tmp 56) (.tmp 59)),
 om 11 60] [55,56,57,58,59,60])
 (.region false [
 oo 12 (.mov (.const (.int .i64 1)))] [])))
 .skip))
 (.seq
 (.seq
 (.region false [
 om 61 8,
 om 62 61,
 og 63 (.mov (.tmp 9)) 62 true,
 oo 64 (.pick (.tmp 62) (.tmp 63) (.const (.bool false))),
 om 65 64,
 og 66 (.mov (.tmp 12)) 65 true,
 og 67 (.bin .eql 142 (.tmp 66) (.const (.int .i64 1))) 65 true,
 oo 68 (.pick (.tmp 65) (.tmp 67) (.const (.bool false)))] [12,50,61,62,63,64,65,66,67])
 (.cond (.tmp 68)
 (.seq
 (.region false [
 om 69 0,
 om 70 1,
 om 71 2,
 oo 72 (.callm 92 [.tmp 69,.tmp 70,.tmp 71])] [68,69,70,71])
 (.cond (.tmp 72)
 .ret
 .skip))
 .skip))
 (.seq
 (.seq
 (.region true [
 om 73 1,
 oo 74 (.bin .gtr 3 (.tmp 73) (.const (.int .i64 0))),
 om 75 74,
 og 76 (.mov (.tmp 0)) 75 true,
 og 77 (.mov (.tmp 1)) 75 true,
 og 78 (.bin .sub 3 (.tmp 77) (.const (.int .i64 1))) 75 true,
 og 79 (.iaddr 1 (.tmp 76) (.tmp 78)) 75 true,
 og 80 (.load false 1 (.tmp 79)) 75 true,
 og 81 (.mov (.tmp 0)) 75 true,
 og 82 (.mov (.tmp 11)) 75 true,
 og 83 (.iaddr 1 (.tmp 81) (.tmp 82)) 75 true,
 og 84 (.load false 1 (.tmp 83)) 75 true,
 og 85 (.call 93 [.tmp 80,.tmp 84]) 75 true,
 og 86 (.un .not (.tmp 85)) 75 true,
 oo 87 (.pick (.tmp 75) (.tmp 86) (.const (.bool false)))] [68,72,73,74,75,76,77,78,79,80,81,82,83,84,85,86])
 (.cond (.tmp 87)
 (.seq
 (.region false [
 om 88 0,
 om 89 1,
 om 90 2,
 om 91 11,
 oo 92 (.callm 94 [.tmp 88,.tmp 89,.tmp 90,.tmp 91]),
 om 13 92] [1,10,11,87,88,89,90,91,92])
 (.seq
 (.region false [
 om 93 13,
 om 1 93] [13,93])
 (.exit 1)))
 .skip))
 (.seq
 (.region false [
 om 95 0,
 om 96 1,
 om 97 2,
 om 98 11,
 oo 99 (.callm 95 [.tmp 95,.tmp 96,.tmp 97,.tmp 98]),
 om 94 99,
 oo 100 (.ext (.tmp 94) 0),
 oo 101 (.ext (.tmp 94) 1),
 om 14 100,
 om 15 101] [8,9,11,87,94,95,96,97,98,99,100,101])
 (.seq
 (.region false [
 om 102 15,
 om 9 102] [15,102])
 (.seq
 (.region false [
 om 103 14,
 om 104 1,
 oo 105 (.bin .sub 3 (.tmp 103) (.tmp 104)),
 om 106 2,
 om 107 14,
 oo 108 (.bin .sub 3 (.tmp 106) (.tmp 107)),
 om 16 105,
 om 17 108] [103,104,105,106,107,108])
 (.seq
 (.region false [
 om 109 10,
 oo 110 (.bin .quo 3 (.tmp 109) (.const (.int .i64 8))),
 om 18 110] [10,109,110])
 (.seq
 (.region false [
 om 111 16,
 om 112 17,
 oo 113 (.bin .lss 3 (.tmp 111) (.tmp 112))] [111,112])
 (.cond (.tmp 113)
 (.seq
 (.region false [
 om 114 16,
 om 115 18,
 oo 116 (.bin .geq 3 (.tmp 114) (.tmp 115)),
 om 8 116] [16,17,18,113,114,115,116])
 (.seq
 (.region false [
 om 117 0,
 om 118 1,
 om 119 14,
 om 120 3,
 oo 121 (.callm 58 [.tmp 117,.tmp 118,.tmp 119,.tmp 120])] [1,117,118,119,120,121])
 (.region false [
 om 122 14,
 oo 123 (.bin .add 3 (.tmp 122) (.const (.int .i64 1))),
 om 1 123] [14,122,123])))
 (.seq
 (.region false [
 om 124 17,
 om 125 18,
 oo 126 (.bin .geq 3 (.tmp 124) (.tmp 125)),
 om 8 126] [16,17,18,113,124,125,126])
 (.seq
 (.region false [
 om 127 0,
 om 128 14,
 oo 129 (.bin .add 3 (.tmp 128) (.const (.int .i64 1))),
 om 130 2,
 om 131 3,
 oo 132 (.callm 58 [.tmp 127,.tmp 129,.tmp 130,.tmp 131])] [2,127,128,129,130,131,132])
 (.region false [
 om 133 14,
 om 2 133] [14,133]))))))))))))))))) []) [] []) [])))
abbrev v_q55 : List RV:= []
abbrev f_q55 : FuncId:= 58
theorem k_q55 : closedOf Tryd.prog Tryd.f58 = (false,some true,some v_q55,some c_q55.plain,134):= by kernel_rfl
theorem ac_q55 {args : List AV} {r : AV} (h : aw Tryd.prog c_q55 (env0 args) (endQ v_q55 r)) (hargs : args.length ≤ 134:= by decide) (hok : resOK r = true:= by rfl) : AC Tryd.prog f_q55 args r :=
  AC_mk (by kernel_rfl) Tryd.func58 k_q55 hargs hok (by decide) h
theorem am_q55 {args : List AV} {c0 c1 : List (Nat × List AV)} {r : AV} (h : aw Tryd.prog c_q55 (env0M args c0) (endM v_q55 r (c0.map (·.1)) c1)) (hc0 : ∀ q ∈ c0,100000 ≤ q.1) (hargs : args.length ≤ 134:= by decide) (hok : resOK r = true:= by rfl) : AM Tryd.prog f_q55 args c0 r c1 :=
  AM_mk (by kernel_rfl) Tryd.func58 k_q55 hargs hok (by decide) hc0 h
def c_q56 : ACode :=
 (.seq
 (.region false [
 oo 2 (.mov (.const (.int .i64 0)))] [2])
 (.seq
 (.cond (.const (.bool false))
 (.seq
 (.region false [
 om 3 0,
 oo 4 (.cint .u32 (.tmp 3)),
 oo 5 (.callm 96 [.tmp 4]),
 om 2 5] [0,3,4,5])
 .ret)
 .skip)
 (.seq
 (.region false [
 om 6 0,
 oo 7 (.callm 97 [.tmp 6]),
 om 2 7] [0,6,7])
 .ret)))
abbrev v_q56 : List RV:= [.tmp 2]
abbrev f_q56 : FuncId:= 59
theorem k_q56 : closedOf Tryd.prog Tryd.f59 = (false,some true,some v_q56,some c_q56.plain,8):= by kernel_rfl
theorem ac_q56 {args : List AV} {r : AV} (h : aw Tryd.prog c_q56 (env0 args) (endQ v_q56 r)) (hargs : args.length ≤ 8:= by decide) (hok : resOK r = true:= by rfl) : AC Tryd.prog f_q56 args r :=
  AC_mk (by kernel_rfl) Tryd.func59 k_q56 hargs hok (by decide) h
def c_q57 : ACode :=
 (.seq
 (.region false [
 oo 2 (.mov (.const (.slice none 0 0)))] [2])
 (.seq
 (.seq
 (.region false [
 om 3 0,
 oo 4 (.eqs false (.tmp 3))] [3])
 (.cond (.tmp 4)
 (.seq
 (.region false [
 oo 2 (.mov (.const (.slice none 0 0)))] [0,4])
 .ret)
 .skip))
 (.seq
 (.shift
 (.region false [
 oo 5 (.bsl0 1),
 om 6 0,
 oo 7 (.app 1 8 [] (.tmp 5) (.tmp 6)),
 om 2 7] [0,4,5,6,7]))
 .ret)))
abbrev v_q57 : List RV:= [.tmp 2]
abbrev f_q57 : FuncId:= 60
theorem k_q57 : closedOf Tryd.prog Tryd.f60 = (false,some true,some v_q57,some c_q57.plain,8):= by kernel_rfl
theorem ac_q57 {args : List AV} {r : AV} (h : aw Tryd.prog c_q57 (env0 args) (endQ v_q57 r)) (hargs : args.length ≤ 8:= by decide) (hok : resOK r = true:= by rfl) : AC Tryd.prog f_q57 args r :=
  AC_mk (by kernel_rfl) Tryd.func60 k_q57 hargs hok (by decide) h
def c_q58 : ACode :=
 (.seq
 (.region false [
 oo 4 (.mov (.const (.int .i64 0)))] [4])
 (.seq
 (.seq
 (.region false [
 om 6 0,
 oo 7 (.lenl (.tmp 6)),
 oo 8 (.mov (.const (.int .i64 0)))] [6])
 (.block 0
 (.loop
 (.seq
 (.region false [
 oo 9 (.bin .lss 3 (.tmp 8) (.tmp 7))] [])
 (.seq
 (.cond (.tmp 9)
 .skip
 (.exit 0))
 (.seq
 (.block 1
 (.seq
 (.region false [
 om 10 8,
 om 5 10] [9,10])
 (.seq
 (.region false [
 om 11 1,
 om 12 0,
 om 13 5,
 oo 14 (.iaddr 1 (.tmp 12) (.tmp 13)),
 oo 15 (.load false 1 (.tmp 14)),
 oo 16 (.callvm (.tmp 11) [.tmp 15])] [11,12,13,14,15])
 (.cond (.tmp 16)
 (.seq
 (.region false [
 om 17 5,
 om 4 17] [0,1,5,7,8,16,17])
 .ret)
 .skip))) [5,16])
 (.region false [
 oo 18 (.bin .add 3 (.tmp 8) (.const (.int .i64 1))),
 om 8 18] [18])))) [] []) [0,1,7,8,9]))
 (.seq
 (.region false [
 oo 4 (.mov (.const (.int .i64 (-1))))] [])
 .ret)))
abbrev v_q58 : List RV:= [.tmp 4]
abbrev f_q58 : FuncId:= 61
theorem k_q58 : closedOf Tryd.prog Tryd.f61 = (false,some true,some v_q58,some c_q58.plain,19):= by kernel_rfl
theorem ac_q58 {args : List AV} {r : AV} (h : aw Tryd.prog c_q58 (env0 args) (endQ v_q58 r)) (hargs : args.length ≤ 19:= by decide) (hok : resOK r = true:= by rfl) : AC Tryd.prog f_q58 args r :=
  AC_mk (by kernel_rfl) Tryd.func61 k_q58 hargs hok (by decide) h
def c_q59 : ACode :=
 (.seq
 (.region false [
 oo 1 (.box (.tmp 0)),
 oo 2 (.mov (.const (.bool false)))] [0,2])
 (.seq
 (.region true [
 oo 3 (.faddr 1 1 (.tmp 1)),
 oo 4 (.load false 1 (.tmp 3)),
 oo 5 (.bin .geq 3 (.tmp 4) (.const (.int .i64 0))),
 om 6 5,
 og 7 (.faddr 1 1 (.tmp 1)) 6 true,
 og 8 (.load false 1 (.tmp 7)) 6 true,
 og 9 (.bin .leq 3 (.tmp 8) (.const (.int .i64 32))) 6 true,
 oo 10 (.pick (.tmp 6) (.tmp 9) (.const (.bool false))),
 om 11 10,
 og 12 (.faddr 0 1 (.tmp 1)) 11 true,
 og 13 (.load false 1 (.tmp 12)) 11 true,
 og 14 (.faddr 1 1 (.tmp 1)) 11 true,
 og 15 (.load false 1 (.tmp 14)) 11 true,
 og 16 (.call 63 [.tmp 15]) 11 true,
 og 17 (.bin .andNot 45 (.tmp 13) (.tmp 16)) 11 true,
 og 18 (.bin .eql 45 (.tmp 17) (.const (.int .u32 0))) 11 true,
 oo 19 (.pick (.tmp 11) (.tmp 18) (.const (.bool false))),
 om 2 19] [1,3,4,5,6,7,8,9,10,11,12,13,14,15,16,17,18,19])
 .ret))
abbrev v_q59 : List RV:= [.tmp 2]
abbrev f_q59 : FuncId:= 62
theorem k_q59 : closedOf Tryd.prog Tryd.f62 = (false,some true,some v_q59,some c_q59.plain,20):= by kernel_rfl
theorem ac_q59 {args : List AV} {r : AV} (h : aw Tryd.prog c_q59 (env0 args) (endQ v_q59 r)) (hargs : args.length ≤ 20:= by decide) (hok : resOK r = true:= by rfl) : AC Tryd.prog f_q59 args r :=
  AC_mk (by kernel_rfl) Tryd.func62 k_q59 hargs hok (by decide) h
def c_q60 : ACode :=
 (.seq
 (.region false [
 oo 2 (.mov (.const (.int .u32 0)))] [2])
 (.seq
 (.region false [
 om 4 0,
 oo 5 (.mnmx true [.tmp 4,.const (.int .i64 0)]),
 oo 6 (.mnmx false [.tmp 5,.const (.int .i64 32)]),
 om 3 6] [0,4,5,6])
 (.seq
 (.region false [
 om 7 3,
 oo 8 (.bin .shr 45 (.const (.int .u32 4294967295)) (.tmp 7)),
 oo 9 (.un .xor (.tmp 8)),
 om 2 9] [3,7,8,9])
 .ret)))
abbrev v_q60 : List RV:= [.tmp 2]
abbrev f_q60 : FuncId:= 63
theorem k_q60 : closedOf Tryd.prog Tryd.f63 = (false,some true,some v_q60,some c_q60.plain,10):= by kernel_rfl
theorem ac_q60 {args : List AV} {r : AV} (h : aw Tryd.prog c_q60 (env0 args) (endQ v_q60 r)) (hargs : args.length ≤ 10:= by decide) (hok : resOK r = true:= by rfl) : AC Tryd.prog f_q60 args r :=
  AC_mk (by kernel_rfl) Tryd.func63 k_q60 hargs hok (by decide) h
def c_q61 : ACode :=
 (.seq
 (.region false [
 oo 2 (.mov (.const (.nilIface)))] [2])
 (.seq
 (.seq
 (.region false [
 om 5 0,
 oo 6 (.lens (.tmp 5)),
 oo 7 (.bin .lss 3 (.tmp 6) (.const (.int .i64 1))),
 om 8 7,
 og 9 (.mov (.tmp 0)) 8 false,
 og 10 (.lens (.tmp 9)) 8 false,
 og 11 (.bin .gtr 3 (.tmp 10) (.const (.int .i64 12))) 8 false,
 oo 12 (.pick (.tmp 8) (.const (.bool true)) (.tmp 11)),
 om 13 12,
 og 14 (.mov (.tmp 0)) 13 false,
 og 15 (.idxs (.tmp 14) (.const (.int .i64 0))) 13 false,
 og 16 (.callm 98 [.tmp 15]) 13 false,
 og 17 (.un .not (.tmp 16)) 13 false,
 oo 18 (.pick (.tmp 13) (.const (.bool true)) (.tmp 17))] [5,6,7,8,9,10,11,12,13,14,15,16,17])
 (.cond (.tmp 18)
 (.seq
 (.region false [
 oo 19 (.load false 1 (.global 6)),
 om 2 19] [0,18,19])
 .ret)
 .skip))
 (.seq
 (.seq
 (.region false [
 om 20 0,
 oo 21 (.lens (.tmp 20)),
 oo 22 (.mov (.const (.int .i64 0)))] [18,20])
 (.block 0
 (.loop
 (.seq
 (.region false [
 oo 23 (.bin .lss 3 (.tmp 22) (.tmp 21))] [])
 (.seq
 (.cond (.tmp 23)
 .skip
 (.exit 0))
 (.seq
 (.block 1
 (.seq
 (.region false [
 om 24 22,
 om 3 24] [23,24])
 (.seq
 (.region false [
 om 25 0,
 om 26 3,
 oo 27 (.idxs (.tmp 25) (.tmp 26)),
 om 4 27] [3,25,26,27])
 (.seq
 (.region false [
 om 28 4,
 oo 29 (.callm 98 [.tmp 28]),
 oo 30 (.un .not (.tmp 29)),
 om 31 30,
 og 32 (.mov (.tmp 4)) 31 true,
 og 33 (.bin .neq 5 (.tmp 32) (.const (.int .u8 45))) 31 true,
 oo 34 (.pick (.tmp 31) (.tmp 33) (.const (.bool false))),
 om 35 34,
 og 36 (.mov (.tmp 4)) 35 true,
 og 37 (.bin .lss 5 (.tmp 36) (.const (.int .u8 48))) 35 true,
 og 38 (.mov (.tmp 37)) 35 true,
 og 39 (.mov (.tmp 4)) 38 false,
 og 40 (.bin .gtr 5 (.tmp 39) (.const (.int .u8 57))) 38 false,
 og 41 (.pick (.tmp 38) (.const (.bool true)) (.tmp 40)) 35 true,
 oo 42 (.pick (.tmp 35) (.tmp 41) (.const (.bool false)))] [4,28,29,30,31,32,33,34,35,36,37,38,39,40,41])
 (.cond (.tmp 42)
 (.seq
 (.region false [
 oo 43 (.load false 1 (.global 6)),
 om 2 43] [0,21,22,42,43])
 .ret)
 .skip)))) [42])
 (.region false [
 oo 44 (.bin .add 3 (.tmp 22) (.const (.int .i64 1))),
 om 22 44] [44])))) [] []) [0,21,22,23]))
 (.seq
 (.region false [
 oo 2 (.mov (.const (.nilIface)))] [])
 .ret))))
abbrev v_q61 : List RV:= [.tmp 2]
abbrev f_q61 : FuncId:= 64
theorem k_q61 : closedOf Tryd.prog Tryd.f64 = (false,some true,some v_q61,some c_q61.plain,45):= by kernel_rfl
theorem ac_q61 {args : List AV} {r : AV} (h : aw Tryd.prog c_q61 (env0 args) (endQ v_q61 r)) (hargs : args.length ≤ 45:= by decide) (hok : resOK r = true:= by rfl) : AC Tryd.prog f_q61 args r :=
  AC_mk (by kernel_rfl) Tryd.func64 k_q61 hargs hok (by decide) h
def c_q62 : ACode :=
 (.seq
 (.region false [
 oo 4 (.mov (.const (.bool false)))] [4])
 (.seq
 (.region false [
 om 5 0,
 om 6 1,
 oo 7 (.callm 99 [.tmp 5,.tmp 6]),
 oo 8 (.bin .geq 3 (.tmp 7) (.const (.int .i64 0))),
 om 4 8] [0,1,5,6,7,8])
 .ret))
abbrev v_q62 : List RV:= [.tmp 4]
abbrev f_q62 : FuncId:= 65
theorem k_q62 : closedOf Tryd.prog Tryd.f65 = (false,some true,some v_q62,some c_q62.plain,9):= by kernel_rfl
theorem ac_q62 {args : List AV} {r : AV} (h : aw Tryd.prog c_q62 (env0 args) (endQ v_q62 r)) (hargs : args.length ≤ 9:= by decide) (hok : resOK r = true:= by rfl) : AC Tryd.prog f_q62 args r :=
  AC_mk (by kernel_rfl) Tryd.func65 k_q62 hargs hok (by decide) h
def c_q63 : ACode :=
 (.seq
 (.region false [
 oo 2 (.box (.tmp 0)),
 oo 3 (.mov (.const (.bool false)))] [0,3])
 (.seq
 (.region false [
 oo 4 (.faddr 0 1 (.tmp 2)),
 oo 5 (.load false 1 (.tmp 4)),
 oo 6 (.faddr 0 1 (.tmp 1)),
 oo 7 (.load false 1 (.tmp 6)),
 oo 8 (.bin .eql 9 (.tmp 5) (.tmp 7)),
 om 3 8] [1,2,4,5,6,7,8])
 .ret))
abbrev v_q63 : List RV:= [.tmp 3]
abbrev f_q63 : FuncId:= 66
theorem k_q63 : closedOf Tryd.prog Tryd.f66 = (false,some true,some v_q63,some c_q63.plain,9):= by kernel_rfl
theorem ac_q63 {args : List AV} {r : AV} (h : aw Tryd.prog c_q63 (env0 args) (endQ v_q63 r)) (hargs : args.length ≤ 9:= by decide) (hok : resOK r = true:= by rfl) : AC Tryd.prog f_q63 args r :=
  AC_mk (by kernel_rfl) Tryd.func66 k_q63 hargs hok (by decide) h
def c_q64 : ACode :=
 (.seq
 (.region false [
 oo 2 (.mov (.const (.bool false)))] [2])
 (.seq
 (.region false [
 om 3 0,
 oo 4 (.bin .geq 3 (.tmp 3) (.const (.int .i64 0))),
 om 5 4,
 og 6 (.mov (.tmp 0)) 5 true,
 og 7 (.bin .leq 3 (.tmp 6) (.const (.int .i64 65535))) 5 true,
 oo 8 (.pick (.tmp 5) (.tmp 7) (.const (.bool false))),
 om 2 8] [0,3,4,5,6,7,8])
 .ret))
abbrev v_q64 : List RV:= [.tmp 2]
abbrev f_q64 : FuncId:= 67
theorem k_q64 : closedOf Tryd.prog Tryd.f67 = (false,some true,some v_q64,some c_q64.plain,9):= by kernel_rfl
theorem ac_q64 {args : List AV} {r : AV} (h : aw Tryd.prog c_q64 (env0 args) (endQ v_q64 r)) (hargs : args.length ≤ 9:= by decide) (hok : resOK r = true:= by rfl) : AC Tryd.prog f_q64 args r :=
  AC_mk (by kernel_rfl) Tryd.func67 k_q64 hargs hok (by decide) h
def c_q65 : ACode :=
 (.seq
 (.region false [
 oo 4 (.mov (.const (.bool false)))] [4])
 (.seq
 (.region false [
 om 5 0,
 om 6 1,
 oo 7 (.callm 100 [.tmp 5,.tmp 6]),
 oo 8 (.bin .geq 3 (.tmp 7) (.const (.int .i64 0))),
 om 4 8] [0,1,5,6,7,8])
 .ret))
abbrev v_q65 : List RV:= [.tmp 4]
abbrev f_q65 : FuncId:= 68
theorem k_q65 : closedOf Tryd.prog Tryd.f68 = (false,some true,some v_q65,some c_q65.plain,9):= by kernel_rfl
theorem ac_q65 {args : List AV} {r : AV} (h : aw Tryd.prog c_q65 (env0 args) (endQ v_q65 r)) (hargs : args.length ≤ 9:= by decide) (hok : resOK r = true:= by rfl) : AC Tryd.prog f_q65 args r :=
  AC_mk (by kernel_rfl) Tryd.func68 k_q65 hargs hok (by decide) h
def c_q66 : ACode :=
 (.seq
 (.region false [
 oo 2 (.box (.tmp 0)),
 oo 3 (.mov (.const (.bool false)))] [0,3])
 (.seq
 (.region false [
 oo 4 (.faddr 0 1 (.tmp 2)),
 oo 5 (.load false 1 (.tmp 4)),
 oo 6 (.faddr 0 1 (.tmp 1)),
 oo 7 (.load false 1 (.tmp 6)),
 oo 8 (.bin .eql 9 (.tmp 5) (.tmp 7)),
 om 3 8] [1,2,4,5,6,7,8])
 .ret))
abbrev v_q66 : List RV:= [.tmp 3]
abbrev f_q66 : FuncId:= 69
theorem k_q66 : closedOf Tryd.prog Tryd.f69 = (false,some true,some v_q66,some c_q66.plain,9):= by kernel_rfl
theorem ac_q66 {args : List AV} {r : AV} (h : aw Tryd.prog c_q66 (env0 args) (endQ v_q66 r)) (hargs : args.length ≤ 9:= by decide) (hok : resOK r = true:= by rfl) : AC Tryd.prog f_q66 args r :=
  AC_mk (by kernel_rfl) Tryd.func69 k_q66 hargs hok (by decide) h
def c_q67 : ACode :=
 (.seq
 (.region false [
 oo 2 (.box (.tmp 0)),
 oo 3 (.box (.tmp 1)),
 oo 4 (.mov (.const (.bool false)))] [0,1,4])
 (.seq
 (.region false [
 oo 5 (.load true 2 (.tmp 2)),
 oo 6 (.callm 62 [.tmp 5]),
 om 7 6,
 og 8 (.faddr 1 1 (.tmp 2)) 7 true,
 og 9 (.load false 1 (.tmp 8)) 7 true,
 og 10 (.faddr 1 1 (.tmp 3)) 7 true,
 og 11 (.load false 1 (.tmp 10)) 7 true,
 og 12 (.bin .geq 3 (.tmp 9) (.tmp 11)) 7 true,
 oo 13 (.pick (.tmp 7) (.tmp 12) (.const (.bool false))),
 om 14 13,
 og 15 (.load true 2 (.tmp 3)) 14 true,
 og 16 (.faddr 0 1 (.tmp 2)) 14 true,
 og 17 (.load false 1 (.tmp 16)) 14 true,
 og 18 (.callm 41 [.tmp 15,.tmp 17]) 14 true,
 oo 19 (.pick (.tmp 14) (.tmp 18) (.const (.bool false))),
 om 4 19] [2,3,5,6,7,8,9,10,11,12,13,14,15,16,17,18,19])
 .ret))
abbrev v_q67 : List RV:= [.tmp 4]
abbrev f_q67 : FuncId:= 70
theorem k_q67 : closedOf Tryd.prog Tryd.f70 = (false,some true,some v_q67,some c_q67.plain,20):= by kernel_rfl
theorem ac_q67 {args : List AV} {r : AV} (h : aw Tryd.prog c_q67 (env0 args) (endQ v_q67 r)) (hargs : args.length ≤ 20:= by decide) (hok : resOK r = true:= by rfl) : AC Tryd.prog f_q67 args r :=
  AC_mk (by kernel_rfl) Tryd.func70 k_q67 hargs hok (by decide) h
def c_q68 : ACode :=
 (.seq
 (.region false [
 oo 0 (.alloc [.lit (.int .u32 0),.lit (.int .i64 0)])] [])
 (.seq
 (.region false [
 oo 1 (.build [.lit (.int .u8 0),.lit (.int .u8 0),.lit (.int .u8 0),.lit (.int .u8 0)] [(0,1,.const (.int .u8 224)),(1,1,.const (.int .u8 0)),(2,1,.const (.int .u8 0)),(3,1,.const (.int .u8 0))]),
 oo 2 (.callm 101 [.tmp 1]),
 oo 3 (.build [.lit (.int .u32 0),.lit (.int .i64 0)] [(0,1,.tmp 2),(1,1,.const (.int .i64 4))]),
 ⟨none,.store 2 (.tmp 0) (.tmp 3),none⟩] [1,2,3])
 .ret))
abbrev v_q68 : List RV:= [.cell true 2 0]
abbrev f_q68 : FuncId:= 71
theorem k_q68 : closedOf Tryd.prog Tryd.f71 = (false,some true,some v_q68,some c_q68.plain,4):= by kernel_rfl
theorem ac_q68 {args : List AV} {r : AV} (h : aw Tryd.prog c_q68 (env0 args) (endQ v_q68 r)) (hargs : args.length ≤ 4:= by decide) (hok : resOK r = true:= by rfl) : AC Tryd.prog f_q68 args r :=
  AC_mk (by kernel_rfl) Tryd.func71 k_q68 hargs hok (by decide) h
def c_q69 : ACode :=
 (.seq
 (.region false [
 oo 4 (.mov (.const (.bool false)))] [4])
 (.seq
 (.region false [
 om 5 0,
 oo 6 (.bin .geq 3 (.tmp 5) (.const (.int .i64 0))),
 om 7 6,
 og 8 (.mov (.tmp 0)) 7 true,
 og 9 (.mov (.tmp 1)) 7 true,
 og 10 (.bin .lss 3 (.tmp 8) (.tmp 9)) 7 true,
 oo 11 (.pick (.tmp 7) (.tmp 10) (.const (.bool false))),
 om 4 11] [0,1,5,6,7,8,9,10,11])
 .ret))
abbrev v_q69 : List RV:= [.tmp 4]
abbrev f_q69 : FuncId:= 72
theorem k_q69 : closedOf Tryd.prog Tryd.f72 = (false,some true,some v_q69,some c_q69.plain,12):= by kernel_rfl
theorem ac_q69 {args : List AV} {r : AV} (h : aw Tryd.prog c_q69 (env0 args) (endQ v_q69 r)) (hargs : args.length ≤ 12:= by decide) (hok : resOK r = true:= by rfl) : AC Tryd.prog f_q69 args r :=
  AC_mk (by kernel_rfl) Tryd.func72 k_q69 hargs hok (by decide) h
def c_q70 : ACode :=
 (.seq
 (.region false [
 oo 3 (.box (.tmp 0)),
 oo 6 (.mov (.const (.bool false)))] [0,6])
 (.seq
 (.region false [
 om 7 2,
 oo 8 (.bin .neq 45 (.tmp 7) (.const (.int .u32 0))),
 om 9 8,
 og 10 (.faddr 0 7 (.tmp 3)) 9 true,
 og 11 (.faddr 1 1 (.tmp 10)) 9 true,
 og 12 (.load false 1 (.tmp 11)) 9 true,
 og 13 (.mov (.tmp 1)) 9 true,
 og 14 (.iaddr 3 (.tmp 12) (.tmp 13)) 9 true,
 og 15 (.faddr 1 2 (.tmp 14)) 9 true,
 og 16 (.load true 2 (.tmp 15)) 9 true,
 og 17 (.mov (.tmp 2)) 9 true,
 og 18 (.callm 41 [.tmp 16,.tmp 17]) 9 true,
 oo 19 (.pick (.tmp 9) (.tmp 18) (.const (.bool false))),
 om 6 19] [1,2,3,7,8,9,10,11,12,13,14,15,16,17,18,19])
 .ret))
abbrev v_q70 : List RV:= [.tmp 6]
abbrev f_q70 : FuncId:= 73
theorem k_q70 : closedOf Tryd.prog Tryd.f73 = (false,some true,some v_q70,some c_q70.plain,20):= by kernel_rfl
theorem ac_q70 {args : List AV} {r : AV} (h : aw Tryd.prog c_q70 (env0 args) (endQ v_q70 r)) (hargs : args.length ≤ 20:= by decide) (hok : resOK r = true:= by rfl) : AC Tryd.prog f_q70 args r :=
  AC_mk (by kernel_rfl) Tryd.func73 k_q70 hargs hok (by decide) h
def c_q71 : ACode :=
 (.seq
 (.region false [
 oo 4 (.mov (.const (.bool false)))] [4])
 (.seq
 (.region false [
 om 5 0,
 om 6 1,
 oo 7 (.callm 102 [.tmp 5,.tmp 6]),
 oo 8 (.bin .geq 3 (.tmp 7) (.const (.int .i64 0))),
 om 4 8] [0,1,5,6,7,8])
 .ret))
abbrev v_q71 : List RV:= [.tmp 4]
abbrev f_q71 : FuncId:= 74
theorem k_q71 : closedOf Tryd.prog Tryd.f74 = (false,some true,some v_q71,some c_q71.plain,9):= by kernel_rfl
theorem ac_q71 {args : List AV} {r : AV} (h : aw Tryd.prog c_q71 (env0 args) (endQ v_q71 r)) (hargs : args.length ≤ 9:= by decide) (hok : resOK r = true:= by rfl) : AC Tryd.prog f_q71 args r :=
  AC_mk (by kernel_rfl) Tryd.func74 k_q71 hargs hok (by decide) h
def c_q72 : ACode :=
 (.seq
 (.region false [
 oo 2 (.box (.tmp 0)),
 oo 3 (.mov (.const (.bool false)))] [0,3])
 (.seq
 (.region false [
 oo 4 (.faddr 2 1 (.tmp 2)),
 oo 5 (.load false 1 (.tmp 4)),
 oo 6 (.faddr 2 1 (.tmp 1)),
 oo 7 (.load false 1 (.tmp 6)),
 oo 8 (.bin .eql 45 (.tmp 5) (.tmp 7)),
 om 9 8,
 og 10 (.faddr 0 1 (.tmp 2)) 9 false,
 og 11 (.load false 1 (.tmp 10)) 9 false,
 og 12 (.faddr 0 1 (.tmp 1)) 9 false,
 og 13 (.load false 1 (.tmp 12)) 9 false,
 og 14 (.bin .eql 3 (.tmp 11) (.tmp 13)) 9 false,
 og 15 (.mov (.tmp 14)) 9 false,
 og 16 (.faddr 1 1 (.tmp 2)) 15 true,
 og 17 (.load false 1 (.tmp 16)) 15 true,
 og 18 (.faddr 1 1 (.tmp 1)) 15 true,
 og 19 (.load false 1 (.tmp 18)) 15 true,
 og 20 (.bin .eql 3 (.tmp 17) (.tmp 19)) 15 true,
 og 21 (.pick (.tmp 15) (.tmp 20) (.const (.bool false))) 9 false,
 oo 22 (.pick (.tmp 9) (.const (.bool true)) (.tmp 21)),
 om 3 22] [1,2,4,5,6,7,8,9,10,11,12,13,14,15,16,17,18,19,20,21,22])
 .ret))
abbrev v_q72 : List RV:= [.tmp 3]
abbrev f_q72 : FuncId:= 75
theorem k_q72 : closedOf Tryd.prog Tryd.f75 = (false,some true,some v_q72,some c_q72.plain,23):= by kernel_rfl
theorem ac_q72 {args : List AV} {r : AV} (h : aw Tryd.prog c_q72 (env0 args) (endQ v_q72 r)) (hargs : args.length ≤ 23:= by decide) (hok : resOK r = true:= by rfl) : AC Tryd.prog f_q72 args r :=
  AC_mk (by kernel_rfl) Tryd.func75 k_q72 hargs hok (by decide) h
def c_q73 : ACode :=
 (.seq
 (.region false [
 oo 2 (.mov (.const (.bool false)))] [2])
 (.seq
 (.region false [
 om 3 0,
 oo 4 (.bin .neq 45 (.tmp 3) (.const (.int .u32 0))),
 om 5 4,
 og 6 (.mov (.tmp 0)) 5 true,
 og 7 (.callm 79 [.tmp 6]) 5 true,
 og 8 (.un .not (.tmp 7)) 5 true,
 oo 9 (.pick (.tmp 5) (.tmp 8) (.const (.bool false))),
 om 2 9] [0,3,4,5,6,7,8,9])
 .ret))
abbrev v_q73 : List RV:= [.tmp 2]
abbrev f_q73 : FuncId:= 76
theorem k_q73 : closedOf Tryd.prog Tryd.f76 = (false,some true,some v_q73,some c_q73.plain,10):= by kernel_rfl
theorem ac_q73 {args : List AV} {r : AV} (h : aw Tryd.prog c_q73 (env0 args) (endQ v_q73 r)) (hargs : args.length ≤ 10:= by decide) (hok : resOK r = true:= by rfl) : AC Tryd.prog f_q73 args r :=
  AC_mk (by kernel_rfl) Tryd.func76 k_q73 hargs hok (by decide) h
def c_q74 : ACode :=
 (.seq
 (.region false [
 oo 4 (.mov (.const (.bool false)))] [4])
 (.seq
 (.region false [
 om 5 0,
 om 6 1,
 oo 7 (.callm 103 [.tmp 5,.tmp 6]),
 oo 8 (.bin .geq 3 (.tmp 7) (.const (.int .i64 0))),
 om 4 8] [0,1,5,6,7,8])
 .ret))
abbrev v_q74 : List RV:= [.tmp 4]
abbrev f_q74 : FuncId:= 77
theorem k_q74 : closedOf Tryd.prog Tryd.f77 = (false,some true,some v_q74,some c_q74.plain,9):= by kernel_rfl
theorem ac_q74 {args : List AV} {r : AV} (h : aw Tryd.prog c_q74 (env0 args) (endQ v_q74 r)) (hargs : args.length ≤ 9:= by decide) (hok : resOK r = true:= by rfl) : AC Tryd.prog f_q74 args r :=
  AC_mk (by kernel_rfl) Tryd.func77 k_q74 hargs hok (by decide) h
end Go.Proofs.YtjceingdmfogeaaDoor.VL
end

