import Derived.Test.YtjceingdmfogeaaGreatDoorProg
import Derived.Test.YtjceingdmfogeaaGreatDoorGa7
set_option linter.unusedVariables false
set_option linter.unusedSimpArgs false
section
set_option maxRecDepth 100000
namespace Go.Proofs.YtjceingdmfogeaaGreatDoor.VL
open Go.Proofs
def om (d s : Nat) : AOper:= ⟨some d,.mov (.tmp s),none⟩
def oo (d : Nat) (x : AOp) : AOper:= ⟨some d,x,none⟩
def og (d : Nat) (x : AOp) (g : Nat) (b : Bool) : AOper:= ⟨some d,x,some (g,b)⟩
@[go_sem] theorem x_om {P : Program} {D : Bool} {d s : Nat} {os : List AOper} {E : Env} {K : Env → Prop} : awX D P (om d s :: os) E K = awX D P (⟨some d,.mov (.tmp s),none⟩ :: os) E K:= rfl
@[go_sem] theorem x_oo {P : Program} {D : Bool} {d : Nat} {x : AOp} {os : List AOper} {E : Env} {K : Env → Prop} : awX D P (oo d x :: os) E K = awX D P (⟨some d,x,none⟩ :: os) E K:= rfl
@[go_sem] theorem x_og {P : Program} {D : Bool} {d g : Nat} {b : Bool} {x : AOp} {os : List AOper} {E : Env} {K : Env → Prop} : awX D P (og d x g b :: os) E K = awX D P (⟨some d,x,some (g,b)⟩ :: os) E K:= rfl
@[go_sem] theorem l_om {d s : Nat} {os : List AOper} : allocs (om d s :: os) = allocs os:= rfl
@[go_sem] theorem l_oo {d : Nat} {x : AOp} {os : List AOper} : allocs (oo d x :: os) = allocs (⟨some d,x,none⟩ :: os):= rfl
@[go_sem] theorem l_og {d g : Nat} {x : AOp} {b : Bool} {os : List AOper} : allocs (og d x g b :: os) = allocs (⟨some d,x,some (g,b)⟩ :: os):= rfl
def c_q0 : ACode :=
 (.seq
 (.region false [
 oo 4 (.mov (.const (.bool false)))] [4])
 (.seq
 (.region false [
 oo 16 (.callm 5 []),
 om 5 16] [16])
 (.seq
 (.seq
 (.region false [
 om 17 5,
 oo 18 (.un .not (.tmp 17))] [17])
 (.cond (.tmp 18)
 (.seq
 (.region false [
 oo 4 (.mov (.const (.bool false)))] [0,1,5,18])
 .ret)
 .skip))
 (.seq
 (.region false [
 om 19 0,
 oo 20 (.callm 6 [.tmp 19,.const (.int .i64 5)]),
 oo 21 (.bin .add 3 (.tmp 20) (.const (.int .i64 1))),
 om 0 21] [18,19,20,21])
 (.seq
 (.region false [
 oo 22 (.build [.lit (.string ⟨#[]⟩),.lit (.int .i64 0)] [(0,1,.const (.string ⟨#[97]⟩))]),
 oo 23 (.bslice 1 2 [.tmp 22]),
 oo 24 (.build [.sl .nil 0 [],.sl .nil 0 [],.sl .nil 0 [],.sl .nil 0 [],.sl .nil 0 [],.sl .nil 0 [],.sl .nil 0 []] [(0,1,.tmp 23)]),
 oo 6 (.alloc [.sl .nil 0 [],.sl .nil 0 [],.sl .nil 0 [],.sl .nil 0 [],.sl .nil 0 [],.sl .nil 0 [],.sl .nil 0 []]),
 ⟨none,.store 7 (.tmp 6) (.tmp 24),none⟩] [22,23,24])
 (.seq
 (.seq
 (.region false [
 oo 7 (.mov (.const (.int .i64 0)))] [])
 (.block 0
 (.loop
 (.seq
 (.seq
 (.region false [
 om 25 7,
 om 26 0,
 oo 27 (.bin .lss 3 (.tmp 25) (.tmp 26))] [25,26])
 (.cond (.tmp 27)
 .skip
 (.exit 0)))
 (.seq
 (.block 1
 (.seq
 (.region true [
 oo 30 (.faddr 1 1 (.tmp 6)),
 oo 31 (.loadc false 1 (.tmp 30)),
 om 32 7,
 oo 33 (.call 7 [.tmp 32]),
 oo 34 (.bin .add 9 (.const (.string ⟨#[108]⟩)) (.tmp 33)),
 om 35 7,
 oo 36 (.bin .mul 3 (.const (.int .i64 4)) (.tmp 35)),
 oo 37 (.bin .add 3 (.const (.int .i64 8)) (.tmp 36)),
 oo 38 (.build [.lit (.int .u32 0),.lit (.int .i64 0)] [(0,1,.const (.int .u32 167772160)),(1,1,.tmp 37)]),
 oo 39 (.build [.lit (.string ⟨#[]⟩),.lit (.int .u32 0),.lit (.int .i64 0)] [(0,1,.tmp 34),(1,2,.tmp 38)]),
 oo 40 (.bslice 1 3 [.tmp 39]),
 oo 41 (.app 3 32 [] (.tmp 31) (.tmp 40)),
 oo 42 (.faddr 1 1 (.tmp 6)),
 ⟨none,.store 1 (.tmp 42) (.tmp 41),none⟩] [27,30,31,32,33,34,35,36,37,38,39,40,41,42])
 (.region false [
 oo 43 (.faddr 2 1 (.tmp 6)),
 oo 44 (.load false 1 (.tmp 43)),
 om 45 7,
 om 46 7,
 oo 47 (.cint .u32 (.tmp 46)),
 oo 48 (.bin .add 37 (.const (.int .u32 167772160)) (.tmp 47)),
 oo 49 (.bin .add 37 (.tmp 48) (.const (.int .u32 1))),
 oo 50 (.build [.lit (.int .i64 0),.lit (.int .i64 0),.lit (.int .u32 0)] [(1,1,.tmp 45),(2,1,.tmp 49)]),
 oo 51 (.bslice 1 3 [.tmp 50]),
 oo 52 (.app 3 24 [] (.tmp 44) (.tmp 51)),
 oo 53 (.faddr 2 1 (.tmp 6)),
 ⟨none,.store 1 (.tmp 53) (.tmp 52),none⟩] [43,44,45,46,47,48,49,50,51,52,53])) [])
 (.region false [
 om 28 7,
 oo 29 (.bin .add 3 (.tmp 28) (.const (.int .i64 1))),
 om 7 29] [28,29]))) [] []) [7,27]))
 (.seq
 (.region false [
 om 54 1,
 oo 55 (.callm 6 [.tmp 54,.const (.int .i64 24)]),
 om 1 55] [54,55])
 (.seq
 (.region false [
 oo 57 (.load true 7 (.tmp 6)),
 oo 58 (.callm 8 [.tmp 57]),
 om 56 58,
 oo 59 (.ext (.tmp 56) 0),
 oo 60 (.ext (.tmp 56) 1),
 om 8 59,
 om 9 60] [6,56,57,58,59,60])
 (.seq
 (.seq
 (.region false [
 om 61 8,
 oo 62 (.eqp false (.tmp 61)),
 om 63 62,
 og 64 (.mov (.tmp 9)) 63 false,
 og 65 (.eqn true (.tmp 64)) 63 false,
 oo 66 (.pick (.tmp 63) (.const (.bool true)) (.tmp 65))] [9,61,62,63,64,65])
 (.cond (.tmp 66)
 (.seq
 (.region false [
 oo 4 (.mov (.const (.bool false)))] [0,1,5,8,66])
 .ret)
 .skip))
 (.seq
 (.region false [
 om 67 1,
 oo 68 (.bin .sub 3 (.const (.int .i64 23)) (.tmp 67)),
 oo 69 (.cint .u64 (.tmp 68)),
 oo 70 (.bin .shl 37 (.const (.int .u32 1)) (.tmp 69)),
 oo 71 (.bin .or 37 (.const (.int .u32 167772160)) (.tmp 70)),
 om 10 71] [66,67,68,69,70,71])
 (.seq
 (.region false [
 om 72 1,
 oo 73 (.bin .quo 3 (.tmp 72) (.const (.int .i64 4))),
 om 74 0,
 oo 75 (.bin .sub 3 (.tmp 74) (.const (.int .i64 1))),
 oo 76 (.mnmx false [.tmp 73,.tmp 75]),
 om 11 76] [0,1,72,73,74,75,76])
 (.seq
 (.region false [
 om 78 8,
 om 79 10,
 oo 80 (.callm 9 [.tmp 78,.const (.int .i64 0),.tmp 79]),
 om 77 80,
 oo 81 (.ext (.tmp 77) 0),
 oo 82 (.ext (.tmp 77) 1),
 om 12 81,
 om 13 82] [77,78,79,80,81,82])
 (.seq
 (.region false [
 om 84 8,
 om 85 10,
 oo 86 (.callm 10 [.tmp 84,.const (.int .i64 0),.tmp 85]),
 om 83 86,
 oo 87 (.ext (.tmp 83) 0),
 oo 88 (.ext (.tmp 83) 1),
 oo 14 (.alloc [.lit (.int .i64 0),.lit (.int .u32 0),.lit (.int .i64 0)]),
 ⟨none,.store 3 (.tmp 14) (.tmp 87),none⟩,
 om 15 88] [8,10,83,84,85,86,87,88])
 (.seq
 (.region false [
 om 89 5,
 om 90 89,
 og 91 (.mov (.tmp 13)) 90 true,
 oo 92 (.pick (.tmp 90) (.tmp 91) (.const (.bool false))),
 om 93 92,
 og 94 (.mov (.tmp 12)) 93 true,
 og 95 (.mov (.tmp 11)) 93 true,
 og 96 (.bin .eql 3 (.tmp 94) (.tmp 95)) 93 true,
 oo 97 (.pick (.tmp 93) (.tmp 96) (.const (.bool false))),
 om 98 97,
 og 99 (.mov (.tmp 15)) 98 true,
 oo 100 (.pick (.tmp 98) (.tmp 99) (.const (.bool false))),
 om 101 100,
 og 102 (.faddr 0 1 (.tmp 14)) 101 true,
 og 103 (.load false 1 (.tmp 102)) 101 true,
 og 104 (.mov (.tmp 11)) 101 true,
 og 105 (.bin .eql 3 (.tmp 103) (.tmp 104)) 101 true,
 oo 106 (.pick (.tmp 101) (.tmp 105) (.const (.bool false))),
 om 107 106,
 og 108 (.faddr 1 1 (.tmp 14)) 107 true,
 og 109 (.load false 1 (.tmp 108)) 107 true,
 og 110 (.bin .eql 37 (.tmp 109) (.const (.int .u32 0))) 107 true,
 oo 111 (.pick (.tmp 107) (.tmp 110) (.const (.bool false))),
 om 112 111,
 og 113 (.faddr 2 1 (.tmp 14)) 112 true,
 og 114 (.load false 1 (.tmp 113)) 112 true,
 og 115 (.bin .eql 3 (.tmp 114) (.const (.int .i64 0))) 112 true,
 oo 116 (.pick (.tmp 112) (.tmp 115) (.const (.bool false))),
 om 4 116] [5,11,12,13,14,15,89,90,91,92,93,94,95,96,97,98,99,100,101,102,103,104,105,106,107,108,109,110,111,112,113,114,115,116])
 .ret))))))))))))))
abbrev v_q0 : List RV:= [.tmp 4]
abbrev f_q0 : FuncId:= 3
theorem k_q0 : closedOf Tryz.prog Tryz.f3 = (false,some true,some v_q0,some c_q0.plain,117):= by kernel_rfl
theorem ac_q0 {args : List AV} {r : AV} (h : aw Tryz.prog c_q0 (env0 args) (endQ v_q0 r)) (hargs : args.length ≤ 117:= by decide) (hok : resOK r = true:= by rfl) : AC Tryz.prog f_q0 args r :=
  AC_mk (by kernel_rfl) Tryz.func3 k_q0 hargs hok (by decide) h
def c_q1 : ACode :=
 (.seq
 (.region false [
 oo 6 (.mov (.const (.bool false)))] [6])
 (.seq
 (.region false [
 oo 17 (.callm 11 []),
 om 7 17] [17])
 (.seq
 (.seq
 (.region false [
 om 18 7,
 oo 19 (.un .not (.tmp 18))] [7,18])
 (.cond (.tmp 19)
 (.seq
 (.region false [
 oo 6 (.mov (.const (.bool false)))] [0,1,2,19])
 .ret)
 .skip))
 (.seq
 (.region false [
 om 20 0,
 oo 21 (.callm 6 [.tmp 20,.const (.int .i64 5)]),
 oo 22 (.bin .add 3 (.tmp 21) (.const (.int .i64 2))),
 om 0 22] [19,20,21,22])
 (.seq
 (.region false [
 om 23 1,
 om 24 0,
 oo 25 (.callm 6 [.tmp 23,.tmp 24]),
 om 1 25] [23,24,25])
 (.seq
 (.region false [
 oo 26 (.callm 12 [.const (.int .i64 0)]),
 oo 27 (.callm 12 [.const (.int .i64 1)]),
 oo 28 (.bslice 2 3 [.tmp 26,.tmp 27]),
 oo 29 (.build [.sl .nil 0 [],.sl .nil 0 [],.sl .nil 0 [],.sl .nil 0 [],.sl .nil 0 [],.sl .nil 0 [],.sl .nil 0 []] [(1,1,.tmp 28)]),
 oo 8 (.alloc [.sl .nil 0 [],.sl .nil 0 [],.sl .nil 0 [],.sl .nil 0 [],.sl .nil 0 [],.sl .nil 0 [],.sl .nil 0 []]),
 ⟨none,.store 7 (.tmp 8) (.tmp 29),none⟩] [26,27,28,29])
 (.seq
 (.seq
 (.region false [
 oo 9 (.mov (.const (.int .i64 0)))] [])
 (.block 0
 (.loop
 (.seq
 (.seq
 (.region false [
 om 30 9,
 om 31 0,
 oo 32 (.bin .lss 3 (.tmp 30) (.tmp 31))] [30,31])
 (.cond (.tmp 32)
 .skip
 (.exit 0)))
 (.seq
 (.block 1
 (.seq
 (.region true [
 oo 35 (.faddr 0 1 (.tmp 8)),
 oo 36 (.loadc false 1 (.tmp 35)),
 om 37 9,
 oo 38 (.call 7 [.tmp 37]),
 oo 39 (.bin .add 9 (.const (.string ⟨#[114]⟩)) (.tmp 38)),
 oo 40 (.build [.lit (.string ⟨#[]⟩),.lit (.int .i64 0)] [(0,1,.tmp 39)]),
 oo 41 (.bslice 1 2 [.tmp 40]),
 oo 42 (.app 2 24 [] (.tmp 36) (.tmp 41)),
 oo 43 (.faddr 0 1 (.tmp 8)),
 ⟨none,.store 1 (.tmp 43) (.tmp 42),none⟩] [32,35,36,37,38,39,40,41,42,43])
 (.region true [
 oo 44 (.faddr 2 1 (.tmp 8)),
 oo 45 (.loadc false 1 (.tmp 44)),
 om 46 9,
 oo 47 (.call 13 [.tmp 46,.const (.int .i64 0)]),
 oo 48 (.bslice 1 3 [.tmp 47]),
 oo 49 (.app 3 24 [] (.tmp 45) (.tmp 48)),
 oo 50 (.faddr 2 1 (.tmp 8)),
 ⟨none,.store 1 (.tmp 50) (.tmp 49),none⟩] [44,45,46,47,48,49,50])) [])
 (.region false [
 om 33 9,
 oo 34 (.bin .add 3 (.tmp 33) (.const (.int .i64 1))),
 om 9 34] [33,34]))) [] []) [9,32]))
 (.seq
 (.seq
 (.region false [
 oo 10 (.mov (.const (.int .i64 0)))] [])
 (.block 2
 (.loop
 (.seq
 (.seq
 (.region false [
 om 51 10,
 om 52 0,
 oo 53 (.bin .lss 3 (.tmp 51) (.tmp 52))] [51,52])
 (.cond (.tmp 53)
 .skip
 (.exit 2)))
 (.seq
 (.block 3
 (.region true [
 oo 56 (.faddr 3 1 (.tmp 8)),
 oo 57 (.loadc false 1 (.tmp 56)),
 om 58 10,
 oo 59 (.call 12 [.const (.int .i64 1)]),
 oo 60 (.fld true 1 2 (.tmp 59)),
 om 61 10,
 oo 62 (.bin .add 3 (.tmp 61) (.const (.int .i64 1))),
 om 63 0,
 oo 64 (.bin .rem 3 (.tmp 62) (.tmp 63)),
 oo 65 (.bin .add 3 (.tmp 64) (.const (.int .i64 1))),
 oo 66 (.call 14 [.const (.int .i64 0),.tmp 65]),
 oo 67 (.build [.lit (.int .i64 0),.lit (.int .u32 0),.lit (.int .i64 0),.lit (.int .u32 0),.lit (.int .i64 0)] [(0,1,.tmp 58),(1,2,.tmp 60),(3,1,.tmp 66)]),
 oo 68 (.bslice 1 5 [.tmp 67]),
 oo 69 (.app 5 40 [] (.tmp 57) (.tmp 68)),
 oo 70 (.faddr 3 1 (.tmp 8)),
 ⟨none,.store 1 (.tmp 70) (.tmp 69),none⟩] [53,56,57,58,59,60,61,62,63,64,65,66,67,68,69,70]) [])
 (.region false [
 om 54 10,
 oo 55 (.bin .add 3 (.tmp 54) (.const (.int .i64 1))),
 om 10 55] [54,55]))) [] []) [10,53]))
 (.seq
 (.seq
 (.region false [
 om 71 2] [])
 (.cond (.tmp 71)
 (.region false [
 oo 72 (.load true 7 (.tmp 8)),
 oo 73 (.callm 15 [.tmp 72,.const (.int .i64 1),.const (.int .i64 1)]),
 ⟨none,.store 7 (.tmp 8) (.tmp 73),none⟩] [71,72,73])
 .skip))
 (.seq
 (.region false [
 oo 75 (.load true 7 (.tmp 8)),
 oo 76 (.callm 8 [.tmp 75]),
 om 74 76,
 oo 77 (.ext (.tmp 74) 0),
 oo 78 (.ext (.tmp 74) 1),
 om 11 77,
 om 12 78] [8,71,74,75,76,77,78])
 (.seq
 (.seq
 (.region false [
 om 79 11,
 oo 80 (.eqp false (.tmp 79)),
 om 81 80,
 og 82 (.mov (.tmp 12)) 81 false,
 og 83 (.eqn true (.tmp 82)) 81 false,
 oo 84 (.pick (.tmp 81) (.const (.bool true)) (.tmp 83))] [12,79,80,81,82,83])
 (.cond (.tmp 84)
 (.seq
 (.region false [
 oo 6 (.mov (.const (.bool false)))] [0,1,2,11,84])
 .ret)
 .skip))
 (.seq
 (.region false [
 om 86 11,
 om 87 1,
 oo 88 (.callm 14 [.const (.int .i64 1),.const (.int .i64 200)]),
 oo 89 (.callm 16 [.tmp 86,.tmp 87,.tmp 88]),
 om 85 89,
 oo 90 (.ext (.tmp 85) 0),
 oo 91 (.ext (.tmp 85) 1),
 om 13 90,
 om 14 91] [84,85,86,87,88,89,90,91])
 (.seq
 (.region false [
 om 93 11,
 om 94 1,
 oo 95 (.callm 14 [.const (.int .i64 1),.const (.int .i64 200)]),
 oo 96 (.callm 17 [.tmp 93,.tmp 94,.tmp 95]),
 om 92 96,
 oo 97 (.ext (.tmp 92) 0),
 oo 98 (.ext (.tmp 92) 1),
 oo 15 (.alloc [.lit (.int .i64 0),.lit (.int .i64 0),.lit (.int .i64 0),.lit (.bool false)]),
 ⟨none,.store 4 (.tmp 15) (.tmp 97),none⟩,
 om 16 98] [92,93,94,95,96,97,98])
 (.seq
 (.region true [
 om 99 14,
 oo 100 (.un .not (.tmp 99)),
 om 101 100,
 og 102 (.mov (.tmp 13)) 101 true,
 og 103 (.lenl (.tmp 102)) 101 true,
 og 104 (.bin .eql 3 (.tmp 103) (.const (.int .i64 0))) 101 true,
 oo 105 (.pick (.tmp 101) (.tmp 104) (.const (.bool false))),
 om 106 105,
 og 107 (.mov (.tmp 16)) 106 true,
 oo 108 (.pick (.tmp 106) (.tmp 107) (.const (.bool false))),
 om 109 108,
 og 110 (.faddr 0 1 (.tmp 15)) 109 true,
 og 111 (.load false 1 (.tmp 110)) 109 true,
 og 112 (.mov (.tmp 1)) 109 true,
 og 113 (.bin .eql 3 (.tmp 111) (.tmp 112)) 109 true,
 oo 114 (.pick (.tmp 109) (.tmp 113) (.const (.bool false))),
 om 115 114,
 og 116 (.faddr 1 1 (.tmp 15)) 115 true,
 og 117 (.load false 1 (.tmp 116)) 115 true,
 og 118 (.mov (.tmp 1)) 115 true,
 og 119 (.bin .add 3 (.tmp 118) (.const (.int .i64 1))) 115 true,
 og 120 (.mov (.tmp 0)) 115 true,
 og 121 (.bin .rem 3 (.tmp 119) (.tmp 120)) 115 true,
 og 122 (.bin .eql 3 (.tmp 117) (.tmp 121)) 115 true,
 oo 123 (.pick (.tmp 115) (.tmp 122) (.const (.bool false))),
 om 124 123,
 og 125 (.mov (.tmp 11)) 124 true,
 og 126 (.call 18 [.tmp 125]) 124 true,
 og 127 (.mov (.tmp 2)) 124 true,
 og 128 (.eqb false 4 (.tmp 126) (.tmp 127)) 124 true,
 oo 129 (.pick (.tmp 124) (.tmp 128) (.const (.bool false))),
 om 6 129] [0,1,2,11,13,14,15,16,99,100,101,102,103,104,105,106,107,108,109,110,111,112,113,114,115,116,117,118,119,120,121,122,123,124,125,126,127,128,129])
 .ret))))))))))))))
abbrev v_q1 : List RV:= [.tmp 6]
abbrev f_q1 : FuncId:= 4
theorem k_q1 : closedOf Tryz.prog Tryz.f4 = (false,some true,some v_q1,some c_q1.plain,130):= by kernel_rfl
theorem ac_q1 {args : List AV} {r : AV} (h : aw Tryz.prog c_q1 (env0 args) (endQ v_q1 r)) (hargs : args.length ≤ 130:= by decide) (hok : resOK r = true:= by rfl) : AC Tryz.prog f_q1 args r :=
  AC_mk (by kernel_rfl) Tryz.func4 k_q1 hargs hok (by decide) h
def c_q2 : ACode :=
 (.seq
 (.region false [
 oo 0 (.mov (.const (.bool false)))] [0])
 (.seq
 (.region false [
 oo 6 (.callm 19 [.const (.int .i64 2),.const (.int .i64 0)]),
 oo 7 (.callm 8 [.tmp 6]),
 om 5 7,
 oo 8 (.ext (.tmp 5) 0),
 oo 9 (.ext (.tmp 5) 1),
 om 1 8,
 om 2 9] [5,6,7,8,9])
 (.seq
 (.seq
 (.region false [
 om 10 1,
 oo 11 (.eqp false (.tmp 10)),
 om 12 11,
 og 13 (.mov (.tmp 2)) 12 false,
 og 14 (.eqn true (.tmp 13)) 12 false,
 oo 15 (.pick (.tmp 12) (.const (.bool true)) (.tmp 14))] [2,10,11,12,13,14])
 (.cond (.tmp 15)
 (.seq
 (.region false [
 oo 0 (.mov (.const (.bool false)))] [1,15])
 .ret)
 .skip))
 (.seq
 (.region false [
 om 17 1,
 oo 18 (.callm 14 [.const (.int .i64 0),.const (.int .i64 9)]),
 oo 19 (.callm 10 [.tmp 17,.const (.int .i64 0),.tmp 18]),
 om 16 19,
 oo 20 (.ext (.tmp 16) 0),
 oo 21 (.ext (.tmp 16) 1),
 oo 3 (.alloc [.lit (.int .i64 0),.lit (.int .u32 0),.lit (.int .i64 0)]),
 ⟨none,.store 3 (.tmp 3) (.tmp 20),none⟩,
 om 4 21] [1,15,16,17,18,19,20,21])
 (.seq
 (.region false [
 om 22 4,
 om 23 22,
 og 24 (.faddr 0 1 (.tmp 3)) 23 true,
 og 25 (.load false 1 (.tmp 24)) 23 true,
 og 26 (.bin .eql 3 (.tmp 25) (.const (.int .i64 0))) 23 true,
 oo 27 (.pick (.tmp 23) (.tmp 26) (.const (.bool false))),
 om 28 27,
 og 29 (.faddr 1 1 (.tmp 3)) 28 true,
 og 30 (.load false 1 (.tmp 29)) 28 true,
 og 31 (.bin .eql 37 (.tmp 30) (.const (.int .u32 0))) 28 true,
 oo 32 (.pick (.tmp 28) (.tmp 31) (.const (.bool false))),
 om 33 32,
 og 34 (.faddr 2 1 (.tmp 3)) 33 true,
 og 35 (.load false 1 (.tmp 34)) 33 true,
 og 36 (.bin .eql 3 (.tmp 35) (.const (.int .i64 0))) 33 true,
 oo 37 (.pick (.tmp 33) (.tmp 36) (.const (.bool false))),
 om 0 37] [3,4,22,23,24,25,26,27,28,29,30,31,32,33,34,35,36,37])
 .ret)))))
abbrev v_q2 : List RV:= [.tmp 0]
abbrev f_q2 : FuncId:= 5
theorem k_q2 : closedOf Tryz.prog Tryz.f5 = (false,some true,some v_q2,some c_q2.plain,38):= by kernel_rfl
theorem ac_q2 {args : List AV} {r : AV} (h : aw Tryz.prog c_q2 (env0 args) (endQ v_q2 r)) (hargs : args.length ≤ 38:= by decide) (hok : resOK r = true:= by rfl) : AC Tryz.prog f_q2 args r :=
  AC_mk (by kernel_rfl) Tryz.func5 k_q2 hargs hok (by decide) h
def c_q3 : ACode :=
 (.seq
 (.region false [
 oo 4 (.mov (.const (.int .i64 0)))] [4])
 (.seq
 (.region false [
 om 6 0,
 om 7 1,
 oo 8 (.bin .rem 3 (.tmp 6) (.tmp 7)),
 om 5 8] [0,6,7,8])
 (.seq
 (.seq
 (.region false [
 om 9 5,
 oo 10 (.bin .lss 3 (.tmp 9) (.const (.int .i64 0)))] [9])
 (.cond (.tmp 10)
 (.region false [
 om 11 5,
 om 12 1,
 oo 13 (.bin .add 3 (.tmp 11) (.tmp 12)),
 om 5 13] [1,10,11,12,13])
 .skip))
 (.seq
 (.region false [
 om 14 5,
 om 4 14] [1,5,10,14])
 .ret))))
abbrev v_q3 : List RV:= [.tmp 4]
abbrev f_q3 : FuncId:= 6
theorem k_q3 : closedOf Tryz.prog Tryz.f6 = (false,some true,some v_q3,some c_q3.plain,15):= by kernel_rfl
theorem ac_q3 {args : List AV} {r : AV} (h : aw Tryz.prog c_q3 (env0 args) (endQ v_q3 r)) (hargs : args.length ≤ 15:= by decide) (hok : resOK r = true:= by rfl) : AC Tryz.prog f_q3 args r :=
  AC_mk (by kernel_rfl) Tryz.func6 k_q3 hargs hok (by decide) h
def c_q4 : ACode :=
 (.seq
 (.region false [
 oo 2 (.mov (.const (.string ⟨#[]⟩)))] [2])
 (.seq
 (.region false [
 om 3 0,
 oo 4 (.callm 20 [.tmp 3]),
 om 2 4] [0,3,4])
 .ret))
abbrev v_q4 : List RV:= [.tmp 2]
abbrev f_q4 : FuncId:= 7
theorem k_q4 : closedOf Tryz.prog Tryz.f7 = (false,some true,some v_q4,some c_q4.plain,5):= by kernel_rfl
theorem ac_q4 {args : List AV} {r : AV} (h : aw Tryz.prog c_q4 (env0 args) (endQ v_q4 r)) (hargs : args.length ≤ 5:= by decide) (hok : resOK r = true:= by rfl) : AC Tryz.prog f_q4 args r :=
  AC_mk (by kernel_rfl) Tryz.func7 k_q4 hargs hok (by decide) h
def c_q5 : ACode :=
 (.seq
 (.region false [
 oo 1 (.box (.tmp 0)),
 oo 2 (.mov (.const (.pointer none))),
 oo 3 (.mov (.const (.nilIface)))] [0,2,3])
 (.seq
 (.seq
 (.region false [
 oo 12 (.load true 7 (.tmp 1)),
 oo 13 (.callm 21 [.tmp 12]),
 om 4 13] [12,13])
 (.seq
 (.region false [
 om 14 4,
 oo 15 (.eqn true (.tmp 14))] [14])
 (.cond (.tmp 15)
 (.seq
 (.region false [
 om 16 4,
 oo 2 (.mov (.const (.pointer none))),
 om 3 16] [1,4,15,16])
 .ret)
 .skip)))
 (.seq
 (.region true [
 oo 17 (.load true 7 (.tmp 1)),
 oo 18 (.call 22 [.tmp 17]),
 oo 19 (.faddr 1 1 (.tmp 1)),
 oo 20 (.load false 1 (.tmp 19)),
 oo 21 (.lenl (.tmp 20)),
 oo 22 (.mkf false 1 24 [.sl .nil 0 []] (.tmp 21) (.tmp 21)),
 oo 23 (.faddr 0 1 (.tmp 1)),
 oo 24 (.load false 1 (.tmp 23)),
 oo 25 (.lenl (.tmp 24)),
 oo 26 (.mkf false 1 24 [.sl .nil 0 []] (.tmp 25) (.tmp 25)),
 oo 27 (.mkm),
 oo 28 (.faddr 1 1 (.tmp 1)),
 oo 29 (.load false 1 (.tmp 28)),
 oo 30 (.lenl (.tmp 29)),
 oo 31 (.mkf false 1 24 [.sl .nil 0 []] (.tmp 30) (.tmp 30)),
 oo 32 (.build [.sl .nil 0 [],.sl .nil 0 [],.sl .nil 0 [],.sl .nil 0 [],.sl .nil 0 [],.sl .nil 0 [],.sl .nil 0 [],.sl .nil 0 [],.sl .nil 0 [],.lit (.map none),.sl .nil 0 [],.sl .nil 0 []] [(0,7,.tmp 18),(7,1,.tmp 22),(8,1,.tmp 26),(9,1,.tmp 27),(10,1,.tmp 31)]),
 oo 33 (.box (.tmp 32)),
 om 5 33] [4,15,17,18,19,20,21,22,23,24,25,26,27,28,29,30,31,32,33])
 (.seq
 (.seq
 (.shift
 (.region false [
 oo 34 (.faddr 2 1 (.tmp 1)),
 oo 35 (.load false 1 (.tmp 34)),
 oo 36 (.lenl (.tmp 35)),
 oo 37 (.mov (.const (.int .i64 0)))] [34]))
 (.block 0
 (.loop
 (.seq
 (.region false [
 oo 38 (.bin .lss 3 (.tmp 37) (.tmp 36))] [])
 (.seq
 (.cond (.tmp 38)
 .skip
 (.exit 0))
 (.seq
 (.block 1
 (.seq
 (.region false [
 om 39 37,
 oo 40 (.iaddr 3 (.tmp 35) (.tmp 37)),
 oo 41 (.load true 3 (.tmp 40)),
 oo 7 (.alloc [.lit (.int .i64 0),.lit (.int .i64 0),.lit (.int .u32 0)]),
 om 6 39,
 ⟨none,.store 3 (.tmp 7) (.tmp 41),none⟩] [38,39,40,41])
 (.seq
 (.region true [
 om 42 5,
 oo 43 (.nilchk (.tmp 42)),
 oo 44 (.faddr 7 1 (.tmp 43)),
 oo 45 (.loadc false 1 (.tmp 44)),
 oo 46 (.faddr 1 1 (.tmp 7)),
 oo 47 (.loadc false 1 (.tmp 46)),
 om 48 5,
 oo 49 (.nilchk (.tmp 48)),
 oo 50 (.faddr 7 1 (.tmp 49)),
 oo 51 (.loadc false 1 (.tmp 50)),
 oo 52 (.faddr 1 1 (.tmp 7)),
 oo 53 (.loadc false 1 (.tmp 52)),
 oo 54 (.iaddr 1 (.tmp 51) (.tmp 53)),
 oo 55 (.loadc false 1 (.tmp 54)),
 om 56 6,
 oo 57 (.bslice 1 1 [.tmp 56]),
 oo 58 (.app 1 8 [] (.tmp 55) (.tmp 57)),
 oo 59 (.iaddr 1 (.tmp 45) (.tmp 47)),
 ⟨none,.store 1 (.tmp 59) (.tmp 58),none⟩] [42,43,44,45,46,47,48,49,50,51,52,53,54,55,56,57,58,59])
 (.seq
 (.region true [
 om 60 5,
 oo 61 (.nilchk (.tmp 60)),
 oo 62 (.faddr 8 1 (.tmp 61)),
 oo 63 (.loadc false 1 (.tmp 62)),
 oo 64 (.faddr 0 1 (.tmp 7)),
 oo 65 (.loadc false 1 (.tmp 64)),
 om 66 5,
 oo 67 (.nilchk (.tmp 66)),
 oo 68 (.faddr 8 1 (.tmp 67)),
 oo 69 (.loadc false 1 (.tmp 68)),
 oo 70 (.faddr 0 1 (.tmp 7)),
 oo 71 (.loadc false 1 (.tmp 70)),
 oo 72 (.iaddr 1 (.tmp 69) (.tmp 71)),
 oo 73 (.loadc false 1 (.tmp 72)),
 om 74 6,
 oo 75 (.bslice 1 1 [.tmp 74]),
 oo 76 (.app 1 8 [] (.tmp 73) (.tmp 75)),
 oo 77 (.iaddr 1 (.tmp 63) (.tmp 65)),
 ⟨none,.store 1 (.tmp 77) (.tmp 76),none⟩] [60,61,62,63,64,65,66,67,68,69,70,71,72,73,74,75,76,77])
 (.region true [
 om 78 5,
 oo 79 (.nilchk (.tmp 78)),
 oo 80 (.faddr 9 1 (.tmp 79)),
 oo 81 (.load false 1 (.tmp 80)),
 oo 82 (.faddr 2 1 (.tmp 7)),
 oo 83 (.load false 1 (.tmp 82)),
 om 84 6,
 ⟨none,.mup false (.tmp 81) (.tmp 83) (.tmp 84),none⟩] [6,7,78,79,80,81,82,83,84])))) [])
 (.shift
 (.region false [
 oo 85 (.bin .add 3 (.tmp 37) (.const (.int .i64 1))),
 om 37 85] [85]))))) [] [7]) [35,36,37,38]))
 (.seq
 (.seq
 (.shift
 (.region false [
 oo 86 (.faddr 6 1 (.tmp 1)),
 oo 87 (.load false 1 (.tmp 86)),
 oo 88 (.lenl (.tmp 87)),
 oo 89 (.mov (.const (.int .i64 0)))] [86]))
 (.block 2
 (.loop
 (.seq
 (.region false [
 oo 90 (.bin .lss 3 (.tmp 89) (.tmp 88))] [])
 (.seq
 (.cond (.tmp 90)
 .skip
 (.exit 2))
 (.seq
 (.block 3
 (.seq
 (.region false [
 om 91 89,
 oo 92 (.iaddr 4 (.tmp 87) (.tmp 89)),
 oo 93 (.load true 4 (.tmp 92)),
 oo 9 (.alloc [.lit (.int .i64 0),.lit (.int .u32 0),.lit (.bool false),.sl .nil 0 []]),
 om 8 91,
 ⟨none,.store 4 (.tmp 9) (.tmp 93),none⟩] [90,91,92,93])
 (.seq
 (.region true [
 om 94 5,
 oo 95 (.nilchk (.tmp 94)),
 oo 96 (.faddr 10 1 (.tmp 95)),
 oo 97 (.loadc false 1 (.tmp 96)),
 oo 98 (.faddr 0 1 (.tmp 9)),
 oo 99 (.loadc false 1 (.tmp 98)),
 om 100 5,
 oo 101 (.nilchk (.tmp 100)),
 oo 102 (.faddr 10 1 (.tmp 101)),
 oo 103 (.loadc false 1 (.tmp 102)),
 oo 104 (.faddr 0 1 (.tmp 9)),
 oo 105 (.loadc false 1 (.tmp 104)),
 oo 106 (.iaddr 1 (.tmp 103) (.tmp 105)),
 oo 107 (.loadc false 1 (.tmp 106)),
 om 108 8,
 oo 109 (.bslice 1 1 [.tmp 108]),
 oo 110 (.app 1 8 [] (.tmp 107) (.tmp 109)),
 oo 111 (.iaddr 1 (.tmp 97) (.tmp 99)),
 ⟨none,.store 1 (.tmp 111) (.tmp 110),none⟩] [8,94,95,96,97,98,99,100,101,102,103,104,105,106,107,108,109,110,111])
 (.region true [
 om 112 5,
 om 113 5,
 oo 114 (.nilchk (.tmp 113)),
 oo 115 (.faddr 11 1 (.tmp 114)),
 oo 116 (.loadc false 1 (.tmp 115)),
 oo 117 (.faddr 1 1 (.tmp 9)),
 oo 118 (.loadc false 1 (.tmp 117)),
 oo 119 (.bslice 1 1 [.tmp 118]),
 oo 120 (.app 1 4 [] (.tmp 116) (.tmp 119)),
 oo 121 (.nilchk (.tmp 112)),
 oo 122 (.faddr 11 1 (.tmp 121)),
 ⟨none,.store 1 (.tmp 122) (.tmp 120),none⟩] [9,112,113,114,115,116,117,118,119,120,121,122]))) [])
 (.shift
 (.region false [
 oo 123 (.bin .add 3 (.tmp 89) (.const (.int .i64 1))),
 om 89 123] [123]))))) [] [9]) [87,88,89,90]))
 (.seq
 (.seq
 (.shift
 (.region false [
 oo 124 (.faddr 5 1 (.tmp 1)),
 oo 125 (.load false 1 (.tmp 124)),
 oo 126 (.lenl (.tmp 125)),
 oo 127 (.mov (.const (.int .i64 0)))] [1,124]))
 (.block 4
 (.loop
 (.seq
 (.region false [
 oo 128 (.bin .lss 3 (.tmp 127) (.tmp 126))] [])
 (.seq
 (.cond (.tmp 128)
 .skip
 (.exit 4))
 (.seq
 (.block 5
 (.seq
 (.region false [
 oo 129 (.iaddr 3 (.tmp 125) (.tmp 127)),
 oo 130 (.load true 3 (.tmp 129)),
 oo 11 (.alloc [.lit (.int .i64 0),.lit (.int .u32 0),.lit (.int .u32 0)]),
 ⟨none,.store 3 (.tmp 11) (.tmp 130),none⟩] [128,129,130])
 (.region true [
 om 131 5,
 om 132 5,
 oo 133 (.nilchk (.tmp 132)),
 oo 134 (.faddr 11 1 (.tmp 133)),
 oo 135 (.loadc false 1 (.tmp 134)),
 oo 136 (.faddr 1 2 (.tmp 11)),
 oo 137 (.faddr 1 1 (.tmp 136)),
 oo 138 (.loadc false 1 (.tmp 137)),
 oo 139 (.bslice 1 1 [.tmp 138]),
 oo 140 (.app 1 4 [] (.tmp 135) (.tmp 139)),
 oo 141 (.nilchk (.tmp 131)),
 oo 142 (.faddr 11 1 (.tmp 141)),
 ⟨none,.store 1 (.tmp 142) (.tmp 140),none⟩] [11,131,132,133,134,135,136,137,138,139,140,141,142])) [])
 (.region false [
 oo 143 (.bin .add 3 (.tmp 127) (.const (.int .i64 1))),
 om 127 143] [143])))) [] [11]) [125,126,127,128]))
 (.seq
 (.shift
 (.region false [
 om 144 5,
 oo 145 (.nilchk (.tmp 144)),
 oo 146 (.faddr 11 1 (.tmp 145)),
 oo 147 (.load false 1 (.tmp 146)),
 oo 148 (.callm 23 [.tmp 147])] [144,145,146,147,148]))
 (.seq
 (.region false [
 om 149 5,
 om 150 5,
 oo 151 (.nilchk (.tmp 150)),
 oo 152 (.faddr 11 1 (.tmp 151)),
 oo 153 (.load false 1 (.tmp 152)),
 oo 154 (.callm 24 [.tmp 153]),
 oo 155 (.nilchk (.tmp 149)),
 oo 156 (.faddr 11 1 (.tmp 155)),
 ⟨none,.store 1 (.tmp 156) (.tmp 154),none⟩] [149,150,151,152,153,154,155,156])
 (.seq
 (.region false [
 om 157 5,
 om 2 157,
 oo 3 (.mov (.const (.nilIface)))] [5,157])
 .ret)))))))))
abbrev v_q5 : List RV:= [.tmp 2,.tmp 3]
abbrev f_q5 : FuncId:= 8
theorem k_q5 : closedOf Tryz.prog Tryz.f8 = (false,some true,some v_q5,some c_q5.plain,158):= by kernel_rfl
theorem ac_q5 {args : List AV} {r : AV} (h : aw Tryz.prog c_q5 (env0 args) (endQ v_q5 r)) (hargs : args.length ≤ 158:= by decide) (hok : resOK r = true:= by rfl) : AC Tryz.prog f_q5 args r :=
  AC_mk (by kernel_rfl) Tryz.func8 k_q5 hargs hok (by decide) h
def c_q6 : ACode :=
 (.seq
 (.region false [
 oo 6 (.mov (.const (.int .i64 0))),
 oo 7 (.mov (.const (.bool false)))] [6,7])
 (.seq
 (.region false [
 om 14 0,
 oo 15 (.callm 25 [.tmp 14]),
 om 8 15] [14,15])
 (.seq
 (.region false [
 oo 9 (.mov (.const (.int .i64 (-1)))),
 oo 10 (.mov (.const (.int .i64 (-1))))] [])
 (.seq
 (.seq
 (.region false [
 om 16 0,
 om 17 1,
 oo 18 (.callm 26 [.tmp 16,.tmp 17]),
 oo 19 (.lenl (.tmp 18)),
 oo 20 (.mov (.const (.int .i64 0)))] [0,1,16,17])
 (.block 0
 (.loop
 (.seq
 (.region false [
 oo 21 (.bin .lss 3 (.tmp 20) (.tmp 19))] [])
 (.seq
 (.cond (.tmp 21)
 .skip
 (.exit 0))
 (.seq
 (.block 1
 (.seq
 (.region false [
 oo 22 (.iaddr 1 (.tmp 18) (.tmp 20)),
 oo 23 (.load false 1 (.tmp 22)),
 om 12 23] [21,22,23])
 (.seq
 (.region true [
 om 24 8,
 oo 25 (.nilchk (.tmp 24)),
 oo 26 (.faddr 1 1 (.tmp 25)),
 oo 27 (.load false 1 (.tmp 26)),
 om 28 8,
 oo 29 (.nilchk (.tmp 28)),
 oo 30 (.faddr 2 1 (.tmp 29)),
 oo 31 (.load false 1 (.tmp 30)),
 om 32 12,
 oo 33 (.iaddr 3 (.tmp 31) (.tmp 32)),
 oo 34 (.faddr 1 1 (.tmp 33)),
 oo 35 (.load false 1 (.tmp 34)),
 oo 36 (.iaddr 3 (.tmp 27) (.tmp 35)),
 oo 37 (.faddr 1 2 (.tmp 36)),
 oo 38 (.load true 2 (.tmp 37)),
 oo 13 (.alloc [.lit (.int .u32 0),.lit (.int .i64 0)]),
 ⟨none,.store 2 (.tmp 13) (.tmp 38),none⟩] [24,25,26,27,28,29,30,31,32,33,34,35,36,37,38])
 (.seq
 (.region false [
 oo 39 (.load true 2 (.tmp 13)),
 om 40 2,
 oo 41 (.callm 27 [.tmp 39,.tmp 40]),
 om 42 41,
 og 43 (.faddr 1 1 (.tmp 13)) 42 true,
 og 44 (.load false 1 (.tmp 43)) 42 true,
 og 45 (.mov (.tmp 10)) 42 true,
 og 46 (.bin .gtr 3 (.tmp 44) (.tmp 45)) 42 true,
 oo 47 (.pick (.tmp 42) (.tmp 46) (.const (.bool false)))] [39,40,41,42,43,44,45,46])
 (.cond (.tmp 47)
 (.region true [
 om 48 12,
 oo 49 (.faddr 1 1 (.tmp 13)),
 oo 50 (.load false 1 (.tmp 49)),
 om 9 48,
 om 10 50] [12,13,47,48,49,50])
 .skip)))) [12,13,47])
 (.region false [
 oo 51 (.bin .add 3 (.tmp 20) (.const (.int .i64 1))),
 om 20 51] [51])))) [] [13]) [2,8,10,18,19,20,21]))
 (.seq
 (.region false [
 om 52 9,
 oo 53 (.mnmx true [.tmp 52,.const (.int .i64 0)]),
 om 54 9,
 oo 55 (.bin .geq 3 (.tmp 54) (.const (.int .i64 0))),
 om 6 53,
 om 7 55] [9,52,53,54,55])
 .ret)))))
abbrev v_q6 : List RV:= [.tmp 6,.tmp 7]
abbrev f_q6 : FuncId:= 9
theorem k_q6 : closedOf Tryz.prog Tryz.f9 = (false,some true,some v_q6,some c_q6.plain,56):= by kernel_rfl
theorem ac_q6 {args : List AV} {r : AV} (h : aw Tryz.prog c_q6 (env0 args) (endQ v_q6 r)) (hargs : args.length ≤ 56:= by decide) (hok : resOK r = true:= by rfl) : AC Tryz.prog f_q6 args r :=
  AC_mk (by kernel_rfl) Tryz.func9 k_q6 hargs hok (by decide) h
def c_q7 : ACode :=
 (.seq
 (.region false [
 oo 6 (.alloc [.lit (.int .i64 0),.lit (.int .u32 0),.lit (.int .i64 0)]),
 oo 7 (.mov (.const (.bool false)))] [7])
 (.seq
 (.region false [
 om 8 0,
 om 9 1,
 om 10 2,
 oo 11 (.callm 28 [.tmp 8,.tmp 9,.tmp 10,.const (.int .i64 0)]),
 oo 12 (.ext (.tmp 11) 0),
 oo 13 (.ext (.tmp 11) 1),
 ⟨none,.store 3 (.tmp 6) (.tmp 12),none⟩,
 om 7 13] [0,1,2,8,9,10,11,12,13])
 .ret))
abbrev v_q7 : List RV:= [.cell true 3 6,.tmp 7]
abbrev f_q7 : FuncId:= 10
theorem k_q7 : closedOf Tryz.prog Tryz.f10 = (false,some true,some v_q7,some c_q7.plain,14):= by kernel_rfl
theorem ac_q7 {args : List AV} {r : AV} (h : aw Tryz.prog c_q7 (env0 args) (endQ v_q7 r)) (hargs : args.length ≤ 14:= by decide) (hok : resOK r = true:= by rfl) : AC Tryz.prog f_q7 args r :=
  AC_mk (by kernel_rfl) Tryz.func10 k_q7 hargs hok (by decide) h
def c_q8 : ACode :=
 (.seq
 (.region false [
 oo 0 (.mov (.const (.bool false)))] [0])
 (.seq
 (.region false [
 oo 6 (.callm 19 [.const (.int .i64 2),.const (.int .i64 0)]),
 oo 7 (.callm 8 [.tmp 6]),
 om 5 7,
 oo 8 (.ext (.tmp 5) 0),
 oo 9 (.ext (.tmp 5) 1),
 om 1 8,
 om 2 9] [5,6,7,8,9])
 (.seq
 (.seq
 (.region false [
 om 10 1,
 oo 11 (.eqp false (.tmp 10)),
 om 12 11,
 og 13 (.mov (.tmp 2)) 12 false,
 og 14 (.eqn true (.tmp 13)) 12 false,
 oo 15 (.pick (.tmp 12) (.const (.bool true)) (.tmp 14))] [2,10,11,12,13,14])
 (.cond (.tmp 15)
 (.seq
 (.region false [
 oo 0 (.mov (.const (.bool false)))] [1,15])
 .ret)
 .skip))
 (.seq
 (.region false [
 om 17 1,
 oo 18 (.callm 14 [.const (.int .i64 0),.const (.int .i64 1)]),
 oo 19 (.callm 17 [.tmp 17,.const (.int .i64 0),.tmp 18]),
 om 16 19,
 oo 20 (.ext (.tmp 16) 0),
 oo 21 (.ext (.tmp 16) 1),
 oo 3 (.alloc [.lit (.int .i64 0),.lit (.int .i64 0),.lit (.int .i64 0),.lit (.bool false)]),
 ⟨none,.store 4 (.tmp 3) (.tmp 20),none⟩,
 om 4 21] [15,16,17,18,19,20,21])
 (.seq
 (.region false [
 om 22 4,
 om 23 22,
 og 24 (.faddr 0 1 (.tmp 3)) 23 true,
 og 25 (.load false 1 (.tmp 24)) 23 true,
 og 26 (.bin .eql 3 (.tmp 25) (.const (.int .i64 (-1)))) 23 true,
 oo 27 (.pick (.tmp 23) (.tmp 26) (.const (.bool false))),
 om 28 27,
 og 29 (.faddr 1 1 (.tmp 3)) 28 true,
 og 30 (.load false 1 (.tmp 29)) 28 true,
 og 31 (.bin .eql 3 (.tmp 30) (.const (.int .i64 (-1)))) 28 true,
 oo 32 (.pick (.tmp 28) (.tmp 31) (.const (.bool false))),
 om 33 32,
 og 34 (.faddr 3 1 (.tmp 3)) 33 true,
 og 35 (.load false 1 (.tmp 34)) 33 true,
 oo 36 (.pick (.tmp 33) (.tmp 35) (.const (.bool false))),
 om 37 36,
 og 38 (.mov (.tmp 1)) 37 true,
 og 39 (.callm 18 [.tmp 38]) 37 true,
 og 40 (.un .not (.tmp 39)) 37 true,
 oo 41 (.pick (.tmp 37) (.tmp 40) (.const (.bool false))),
 om 0 41] [1,3,4,22,23,24,25,26,27,28,29,30,31,32,33,34,35,36,37,38,39,40,41])
 .ret)))))
abbrev v_q8 : List RV:= [.tmp 0]
abbrev f_q8 : FuncId:= 11
theorem k_q8 : closedOf Tryz.prog Tryz.f11 = (false,some true,some v_q8,some c_q8.plain,42):= by kernel_rfl
theorem ac_q8 {args : List AV} {r : AV} (h : aw Tryz.prog c_q8 (env0 args) (endQ v_q8 r)) (hargs : args.length ≤ 42:= by decide) (hok : resOK r = true:= by rfl) : AC Tryz.prog f_q8 args r :=
  AC_mk (by kernel_rfl) Tryz.func11 k_q8 hargs hok (by decide) h
def c_q9 : ACode :=
 (.seq
 (.region false [
 oo 2 (.alloc [.lit (.string ⟨#[]⟩),.lit (.int .u32 0),.lit (.int .i64 0)])] [])
 (.seq
 (.region false [
 om 3 0,
 oo 4 (.callm 29 [.const (.string ⟨#[108]⟩),.tmp 3]),
 om 5 0,
 oo 6 (.callm 14 [.tmp 5,.const (.int .i64 0)]),
 oo 7 (.build [.lit (.int .u32 0),.lit (.int .i64 0)] [(0,1,.tmp 6),(1,1,.const (.int .i64 24))]),
 oo 8 (.build [.lit (.string ⟨#[]⟩),.lit (.int .u32 0),.lit (.int .i64 0)] [(0,1,.tmp 4),(1,2,.tmp 7)]),
 ⟨none,.store 3 (.tmp 2) (.tmp 8),none⟩] [0,3,4,5,6,7,8])
 .ret))
abbrev v_q9 : List RV:= [.cell true 3 2]
abbrev f_q9 : FuncId:= 12
theorem k_q9 : closedOf Tryz.prog Tryz.f12 = (false,some true,some v_q9,some c_q9.plain,9):= by kernel_rfl
theorem ac_q9 {args : List AV} {r : AV} (h : aw Tryz.prog c_q9 (env0 args) (endQ v_q9 r)) (hargs : args.length ≤ 9:= by decide) (hok : resOK r = true:= by rfl) : AC Tryz.prog f_q9 args r :=
  AC_mk (by kernel_rfl) Tryz.func12 k_q9 hargs hok (by decide) h
def c_q10 : ACode :=
 (.seq
 (.region false [
 oo 4 (.alloc [.lit (.int .i64 0),.lit (.int .i64 0),.lit (.int .u32 0)])] [])
 (.seq
 (.region false [
 om 5 0,
 om 6 1,
 om 7 1,
 om 8 0,
 oo 9 (.bin .add 3 (.tmp 8) (.const (.int .i64 1))),
 oo 10 (.callm 14 [.tmp 7,.tmp 9]),
 oo 11 (.build [.lit (.int .i64 0),.lit (.int .i64 0),.lit (.int .u32 0)] [(0,1,.tmp 5),(1,1,.tmp 6),(2,1,.tmp 10)]),
 ⟨none,.store 3 (.tmp 4) (.tmp 11),none⟩] [0,1,5,6,7,8,9,10,11])
 .ret))
abbrev v_q10 : List RV:= [.cell true 3 4]
abbrev f_q10 : FuncId:= 13
theorem k_q10 : closedOf Tryz.prog Tryz.f13 = (false,some true,some v_q10,some c_q10.plain,12):= by kernel_rfl
theorem ac_q10 {args : List AV} {r : AV} (h : aw Tryz.prog c_q10 (env0 args) (endQ v_q10 r)) (hargs : args.length ≤ 12:= by decide) (hok : resOK r = true:= by rfl) : AC Tryz.prog f_q10 args r :=
  AC_mk (by kernel_rfl) Tryz.func13 k_q10 hargs hok (by decide) h
def c_q11 : ACode :=
 (.seq
 (.region false [
 oo 4 (.mov (.const (.int .u32 0)))] [4])
 (.seq
 (.region false [
 om 5 0,
 oo 6 (.cint .u32 (.tmp 5)),
 oo 7 (.bin .shl 37 (.tmp 6) (.const (.int .u64 8))),
 oo 8 (.bin .or 37 (.const (.int .u32 167772160)) (.tmp 7)),
 om 9 1,
 oo 10 (.cint .u32 (.tmp 9)),
 oo 11 (.bin .or 37 (.tmp 8) (.tmp 10)),
 om 4 11] [0,1,5,6,7,8,9,10,11])
 .ret))
abbrev v_q11 : List RV:= [.tmp 4]
abbrev f_q11 : FuncId:= 14
theorem k_q11 : closedOf Tryz.prog Tryz.f14 = (false,some true,some v_q11,some c_q11.plain,12):= by kernel_rfl
theorem ac_q11 {args : List AV} {r : AV} (h : aw Tryz.prog c_q11 (env0 args) (endQ v_q11 r)) (hargs : args.length ≤ 12:= by decide) (hok : resOK r = true:= by rfl) : AC Tryz.prog f_q11 args r :=
  AC_mk (by kernel_rfl) Tryz.func14 k_q11 hargs hok (by decide) h
def c_q12 : ACode :=
 (.seq
 (.region false [
 oo 3 (.box (.tmp 0)),
 oo 6 (.alloc [.sl .nil 0 [],.sl .nil 0 [],.sl .nil 0 [],.sl .nil 0 [],.sl .nil 0 [],.sl .nil 0 [],.sl .nil 0 []])] [0])
 (.seq
 (.region true [
 oo 7 (.faddr 5 1 (.tmp 3)),
 oo 8 (.loadc false 1 (.tmp 7)),
 oo 9 (.call 30 [.tmp 8]),
 om 10 1,
 om 11 1,
 oo 12 (.faddr 5 1 (.tmp 3)),
 oo 13 (.loadc false 1 (.tmp 12)),
 oo 14 (.lenl (.tmp 13)),
 oo 15 (.bin .add 3 (.const (.int .i64 200)) (.tmp 14)),
 oo 16 (.call 14 [.tmp 11,.tmp 15]),
 om 17 2,
 oo 18 (.call 31 [.tmp 17]),
 oo 19 (.build [.lit (.int .u32 0),.lit (.int .u32 0)] [(0,1,.tmp 16),(1,1,.tmp 18)]),
 oo 20 (.build [.lit (.int .i64 0),.lit (.int .u32 0),.lit (.int .u32 0)] [(0,1,.tmp 10),(1,2,.tmp 19)]),
 oo 21 (.bslice 1 3 [.tmp 20]),
 oo 22 (.app 3 16 [] (.tmp 9) (.tmp 21)),
 oo 23 (.faddr 5 1 (.tmp 3)),
 ⟨none,.store 1 (.tmp 23) (.tmp 22),none⟩] [1,2,7,8,9,10,11,12,13,14,15,16,17,18,19,20,21,22,23])
 (.seq
 (.region false [
 oo 24 (.load true 7 (.tmp 3)),
 ⟨none,.store 7 (.tmp 6) (.tmp 24),none⟩] [3,24])
 .ret)))
abbrev v_q12 : List RV:= [.cell true 7 6]
abbrev f_q12 : FuncId:= 15
theorem k_q12 : closedOf Tryz.prog Tryz.f15 = (false,some true,some v_q12,some c_q12.plain,25):= by kernel_rfl
theorem ac_q12 {args : List AV} {r : AV} (h : aw Tryz.prog c_q12 (env0 args) (endQ v_q12 r)) (hargs : args.length ≤ 25:= by decide) (hok : resOK r = true:= by rfl) : AC Tryz.prog f_q12 args r :=
  AC_mk (by kernel_rfl) Tryz.func15 k_q12 hargs hok (by decide) h
def c_q13 : ACode :=
 (.seq
 (.region false [
 oo 6 (.mov (.const (.slice none 0 0))),
 oo 7 (.mov (.const (.bool false)))] [6,7])
 (.seq
 (.region false [
 om 12 0,
 om 13 1,
 om 14 2,
 oo 15 (.callm 17 [.tmp 12,.tmp 13,.tmp 14]),
 om 11 15,
 oo 16 (.ext (.tmp 11) 0),
 oo 17 (.ext (.tmp 11) 1),
 oo 8 (.alloc [.lit (.int .i64 0),.lit (.int .i64 0),.lit (.int .i64 0),.lit (.bool false)]),
 ⟨none,.store 4 (.tmp 8) (.tmp 16),none⟩,
 om 9 17] [11,12,13,14,15,16,17])
 (.seq
 (.seq
 (.region false [
 om 18 9,
 oo 19 (.un .not (.tmp 18))] [18])
 (.cond (.tmp 19)
 (.seq
 (.region false [
 oo 6 (.mov (.const (.slice none 0 0))),
 oo 7 (.mov (.const (.bool false)))] [0,1,2,8,9,19])
 .ret)
 .skip))
 (.seq
 (.region false [
 om 20 1,
 oo 21 (.bslice 1 1 [.tmp 20]),
 om 10 21] [1,19,20,21])
 (.seq
 (.block 0
 (.loop
 (.seq
 (.seq
 (.region false [
 om 22 9,
 om 23 22,
 og 24 (.faddr 1 1 (.tmp 8)) 23 true,
 og 25 (.load false 1 (.tmp 24)) 23 true,
 og 26 (.bin .geq 3 (.tmp 25) (.const (.int .i64 0))) 23 true,
 oo 27 (.pick (.tmp 23) (.tmp 26) (.const (.bool false)))] [9,22,23,24,25,26])
 (.cond (.tmp 27)
 .skip
 (.exit 0)))
 (.block 1
 (.seq
 (.region true [
 om 28 0,
 oo 29 (.call 25 [.tmp 28]),
 oo 30 (.nilchk (.tmp 29)),
 oo 31 (.faddr 2 1 (.tmp 30)),
 oo 32 (.load false 1 (.tmp 31)),
 oo 33 (.faddr 1 1 (.tmp 8)),
 oo 34 (.load false 1 (.tmp 33)),
 oo 35 (.iaddr 3 (.tmp 32) (.tmp 34)),
 oo 36 (.faddr 0 1 (.tmp 35)),
 oo 37 (.load false 1 (.tmp 36)),
 om 1 37] [27,28,29,30,31,32,33,34,35,36,37])
 (.seq
 (.seq
 (.region false [
 om 38 10,
 om 39 1,
 oo 40 (.callm 32 [.tmp 38,.tmp 39])] [38,39])
 (.cond (.tmp 40)
 (.seq
 (.region false [
 oo 6 (.mov (.const (.slice none 0 0))),
 oo 7 (.mov (.const (.bool false)))] [0,1,2,8,10,40])
 .ret)
 .skip))
 (.seq
 (.region false [
 om 41 10,
 om 42 1,
 oo 43 (.bslice 1 1 [.tmp 42]),
 oo 44 (.app 1 8 [] (.tmp 41) (.tmp 43)),
 om 10 44] [40,41,42,43,44])
 (.region false [
 om 46 0,
 om 47 1,
 om 48 2,
 oo 49 (.callm 17 [.tmp 46,.tmp 47,.tmp 48]),
 om 45 49,
 oo 50 (.ext (.tmp 45) 0),
 oo 51 (.ext (.tmp 45) 1),
 ⟨none,.store 4 (.tmp 8) (.tmp 50),none⟩,
 om 9 51] [1,45,46,47,48,49,50,51])))) [])) [] []) [0,2,8,27])
 (.seq
 (.shift
 (.region false [
 om 52 10,
 om 6 52,
 oo 7 (.mov (.const (.bool true)))] [10,52]))
 .ret))))))
abbrev v_q13 : List RV:= [.tmp 6,.tmp 7]
abbrev f_q13 : FuncId:= 16
theorem k_q13 : closedOf Tryz.prog Tryz.f16 = (false,some true,some v_q13,some c_q13.plain,53):= by kernel_rfl
theorem ac_q13 {args : List AV} {r : AV} (h : aw Tryz.prog c_q13 (env0 args) (endQ v_q13 r)) (hargs : args.length ≤ 53:= by decide) (hok : resOK r = true:= by rfl) : AC Tryz.prog f_q13 args r :=
  AC_mk (by kernel_rfl) Tryz.func16 k_q13 hargs hok (by decide) h
def c_q14 : ACode :=
 (.seq
 (.region false [
 oo 6 (.alloc [.lit (.int .i64 0),.lit (.int .i64 0),.lit (.int .i64 0),.lit (.bool false)]),
 oo 7 (.mov (.const (.bool false)))] [7])
 (.seq
 (.region false [
 om 15 0,
 oo 16 (.callm 25 [.tmp 15]),
 om 8 16] [15,16])
 (.seq
 (.seq
 (.region false [
 om 17 1,
 oo 18 (.bin .lss 3 (.tmp 17) (.const (.int .i64 0))),
 om 19 18,
 og 20 (.mov (.tmp 1)) 19 false,
 og 21 (.mov (.tmp 8)) 19 false,
 og 22 (.nilchk (.tmp 21)) 19 false,
 og 23 (.faddr 0 1 (.tmp 22)) 19 false,
 og 24 (.load false 1 (.tmp 23)) 19 false,
 og 25 (.lenl (.tmp 24)) 19 false,
 og 26 (.bin .geq 3 (.tmp 20) (.tmp 25)) 19 false,
 oo 27 (.pick (.tmp 19) (.const (.bool true)) (.tmp 26))] [8,17,18,19,20,21,22,23,24,25,26])
 (.cond (.tmp 27)
 (.seq
 (.region false [
 oo 28 (.build [.lit (.int .i64 0),.lit (.int .i64 0),.lit (.int .i64 0),.lit (.bool false)] []),
 ⟨none,.store 4 (.tmp 6) (.tmp 28),none⟩,
 oo 7 (.mov (.const (.bool false)))] [0,1,2,27,28])
 .ret)
 .skip))
 (.seq
 (.seq
 (.region false [
 om 29 0,
 om 30 1,
 om 31 2,
 oo 32 (.callm 33 [.tmp 29,.tmp 30,.tmp 31])] [27,29,30,31])
 (.cond (.tmp 32)
 (.seq
 (.region false [
 oo 33 (.build [.lit (.int .i64 0),.lit (.int .i64 0),.lit (.int .i64 0),.lit (.bool false)] [(0,1,.const (.int .i64 (-1))),(1,1,.const (.int .i64 (-1))),(3,1,.const (.bool true))]),
 ⟨none,.store 4 (.tmp 6) (.tmp 33),none⟩,
 oo 7 (.mov (.const (.bool true)))] [0,1,2,32,33])
 .ret)
 .skip))
 (.seq
 (.region false [
 om 35 0,
 om 36 1,
 om 37 2,
 oo 38 (.callm 10 [.tmp 35,.tmp 36,.tmp 37]),
 om 34 38,
 oo 39 (.ext (.tmp 34) 0),
 oo 40 (.ext (.tmp 34) 1),
 oo 9 (.alloc [.lit (.int .i64 0),.lit (.int .u32 0),.lit (.int .i64 0)]),
 ⟨none,.store 3 (.tmp 9) (.tmp 39),none⟩,
 om 10 40] [1,32,34,35,36,37,38,39,40])
 (.seq
 (.seq
 (.region false [
 om 41 10,
 oo 42 (.un .not (.tmp 41))] [10,41])
 (.cond (.tmp 42)
 (.seq
 (.region false [
 oo 43 (.build [.lit (.int .i64 0),.lit (.int .i64 0),.lit (.int .i64 0),.lit (.bool false)] []),
 ⟨none,.store 4 (.tmp 6) (.tmp 43),none⟩,
 oo 7 (.mov (.const (.bool false)))] [0,2,9,42,43])
 .ret)
 .skip))
 (.seq
 (.region false [
 oo 44 (.faddr 0 1 (.tmp 9)),
 oo 45 (.load false 1 (.tmp 44)),
 oo 46 (.faddr 2 1 (.tmp 9)),
 oo 47 (.load false 1 (.tmp 46)),
 oo 48 (.faddr 1 1 (.tmp 9)),
 oo 49 (.load false 1 (.tmp 48)),
 oo 50 (.bin .eql 37 (.tmp 49) (.const (.int .u32 0))),
 oo 51 (.build [.lit (.int .i64 0),.lit (.int .i64 0),.lit (.int .i64 0),.lit (.bool false)] [(0,1,.tmp 45),(1,1,.const (.int .i64 (-1))),(2,1,.tmp 47),(3,1,.tmp 50)]),
 oo 11 (.alloc [.lit (.int .i64 0),.lit (.int .i64 0),.lit (.int .i64 0),.lit (.bool false)]),
 ⟨none,.store 4 (.tmp 11) (.tmp 51),none⟩] [42,44,45,46,47,48,49,50,51])
 (.seq
 (.region false [
 oo 52 (.faddr 1 1 (.tmp 9)),
 oo 53 (.load false 1 (.tmp 52)),
 om 12 53] [52,53])
 (.seq
 (.seq
 (.region false [
 oo 54 (.faddr 3 1 (.tmp 11)),
 oo 55 (.load false 1 (.tmp 54))] [54])
 (.cond (.tmp 55)
 (.region false [
 om 56 2,
 om 12 56] [2,55,56])
 .skip))
 (.seq
 (.seq
 (.region false [
 om 58 0,
 om 59 12,
 oo 60 (.callm 34 [.tmp 58,.tmp 59]),
 om 57 60,
 oo 61 (.ext (.tmp 57) 0),
 oo 62 (.ext (.tmp 57) 1),
 om 13 61,
 om 14 62] [2,12,55,57,58,59,60,61,62])
 (.seq
 (.region false [
 om 63 14,
 om 64 63,
 og 65 (.mov (.tmp 0)) 64 true,
 og 66 (.faddr 0 1 (.tmp 9)) 64 true,
 og 67 (.load false 1 (.tmp 66)) 64 true,
 og 68 (.callm 35 [.tmp 65,.tmp 67]) 64 true,
 og 69 (.mov (.tmp 13)) 64 true,
 og 70 (.callm 32 [.tmp 68,.tmp 69]) 64 true,
 oo 71 (.pick (.tmp 64) (.tmp 70) (.const (.bool false)))] [0,9,14,63,64,65,66,67,68,69,70])
 (.cond (.tmp 71)
 (.region false [
 om 72 13,
 oo 73 (.faddr 1 1 (.tmp 11)),
 ⟨none,.store 1 (.tmp 73) (.tmp 72),none⟩] [13,71,72,73])
 .skip)))
 (.seq
 (.region false [
 oo 74 (.load true 4 (.tmp 11)),
 ⟨none,.store 4 (.tmp 6) (.tmp 74),none⟩,
 oo 7 (.mov (.const (.bool true)))] [11,13,71,74])
 .ret)))))))))))
abbrev v_q14 : List RV:= [.cell true 4 6,.tmp 7]
abbrev f_q14 : FuncId:= 17
theorem k_q14 : closedOf Tryz.prog Tryz.f17 = (false,some true,some v_q14,some c_q14.plain,75):= by kernel_rfl
theorem ac_q14 {args : List AV} {r : AV} (h : aw Tryz.prog c_q14 (env0 args) (endQ v_q14 r)) (hargs : args.length ≤ 75:= by decide) (hok : resOK r = true:= by rfl) : AC Tryz.prog f_q14 args r :=
  AC_mk (by kernel_rfl) Tryz.func17 k_q14 hargs hok (by decide) h
def c_q15 : ACode :=
 (.seq
 (.region false [
 oo 2 (.mov (.const (.bool false)))] [2])
 (.seq
 (.region false [
 om 18 0,
 oo 19 (.callm 25 [.tmp 18]),
 om 3 19] [18,19])
 (.seq
 (.region false [
 oo 4 (.mov (.const (.slice none 0 0)))] [])
 (.seq
 (.seq
 (.region false [
 om 20 3,
 oo 21 (.nilchk (.tmp 20)),
 oo 22 (.faddr 5 1 (.tmp 21)),
 oo 23 (.load false 1 (.tmp 22)),
 oo 24 (.lenl (.tmp 23)),
 oo 25 (.mov (.const (.int .i64 0)))] [20,21,22])
 (.block 0
 (.loop
 (.seq
 (.region false [
 oo 26 (.bin .lss 3 (.tmp 25) (.tmp 24))] [])
 (.seq
 (.cond (.tmp 26)
 .skip
 (.exit 0))
 (.seq
 (.block 1
 (.seq
 (.region false [
 oo 27 (.iaddr 3 (.tmp 23) (.tmp 25)),
 oo 28 (.load true 3 (.tmp 27)),
 oo 6 (.alloc [.lit (.int .i64 0),.lit (.int .u32 0),.lit (.int .u32 0)]),
 ⟨none,.store 3 (.tmp 6) (.tmp 28),none⟩] [26,27,28])
 (.region false [
 om 29 4,
 oo 30 (.faddr 1 2 (.tmp 6)),
 oo 31 (.faddr 0 1 (.tmp 30)),
 oo 32 (.load false 1 (.tmp 31)),
 oo 33 (.bslice 1 1 [.tmp 32]),
 oo 34 (.app 1 4 [] (.tmp 29) (.tmp 33)),
 om 4 34] [6,29,30,31,32,33,34])) [])
 (.region false [
 oo 35 (.bin .add 3 (.tmp 25) (.const (.int .i64 1))),
 om 25 35] [35])))) [] [6]) [23,24,25,26]))
 (.seq
 (.seq
 (.region false [
 om 36 3,
 oo 37 (.nilchk (.tmp 36)),
 oo 38 (.faddr 6 1 (.tmp 37)),
 oo 39 (.load false 1 (.tmp 38)),
 oo 40 (.lenl (.tmp 39)),
 oo 41 (.mov (.const (.int .i64 0)))] [36,37,38])
 (.block 2
 (.loop
 (.seq
 (.region false [
 oo 42 (.bin .lss 3 (.tmp 41) (.tmp 40))] [])
 (.seq
 (.cond (.tmp 42)
 .skip
 (.exit 2))
 (.seq
 (.block 3
 (.seq
 (.region false [
 oo 43 (.iaddr 4 (.tmp 39) (.tmp 41)),
 oo 44 (.load true 4 (.tmp 43)),
 oo 8 (.alloc [.lit (.int .i64 0),.lit (.int .u32 0),.lit (.bool false),.sl .nil 0 []]),
 ⟨none,.store 4 (.tmp 8) (.tmp 44),none⟩] [42,43,44])
 (.region false [
 om 45 4,
 oo 46 (.faddr 3 1 (.tmp 8)),
 oo 47 (.load false 1 (.tmp 46)),
 oo 48 (.app 1 4 [] (.tmp 45) (.tmp 47)),
 om 4 48] [8,45,46,47,48])) [])
 (.region false [
 oo 49 (.bin .add 3 (.tmp 41) (.const (.int .i64 1))),
 om 41 49] [49])))) [] [8]) [39,40,41,42]))
 (.seq
 (.seq
 (.region false [
 om 50 3,
 oo 51 (.nilchk (.tmp 50)),
 oo 52 (.faddr 4 1 (.tmp 51)),
 oo 53 (.load false 1 (.tmp 52)),
 oo 54 (.lenl (.tmp 53)),
 oo 55 (.mov (.const (.int .i64 0)))] [50,51,52])
 (.block 4
 (.loop
 (.seq
 (.region false [
 oo 56 (.bin .lss 3 (.tmp 55) (.tmp 54))] [])
 (.seq
 (.cond (.tmp 56)
 .skip
 (.exit 4))
 (.seq
 (.block 5
 (.seq
 (.region false [
 oo 57 (.iaddr 3 (.tmp 53) (.tmp 55)),
 oo 58 (.load true 3 (.tmp 57)),
 oo 10 (.alloc [.lit (.int .u32 0),.lit (.int .i64 0),.lit (.int .u32 0)]),
 ⟨none,.store 3 (.tmp 10) (.tmp 58),none⟩] [56,57,58])
 (.region false [
 om 59 4,
 oo 60 (.faddr 2 1 (.tmp 10)),
 oo 61 (.load false 1 (.tmp 60)),
 oo 62 (.bslice 1 1 [.tmp 61]),
 oo 63 (.app 1 4 [] (.tmp 59) (.tmp 62)),
 om 4 63] [10,59,60,61,62,63])) [])
 (.region false [
 oo 64 (.bin .add 3 (.tmp 55) (.const (.int .i64 1))),
 om 55 64] [64])))) [] [10]) [53,54,55,56]))
 (.seq
 (.seq
 (.region false [
 om 65 3,
 oo 66 (.nilchk (.tmp 65)),
 oo 67 (.faddr 0 1 (.tmp 66)),
 oo 68 (.load false 1 (.tmp 67)),
 oo 69 (.lenl (.tmp 68)),
 oo 70 (.mov (.const (.int .i64 0)))] [3,65,66,67,68])
 (.block 6
 (.loop
 (.seq
 (.region false [
 oo 71 (.bin .lss 3 (.tmp 70) (.tmp 69))] [])
 (.seq
 (.cond (.tmp 71)
 .skip
 (.exit 6))
 (.seq
 (.block 7
 (.seq
 (.region false [
 om 72 70,
 om 11 72] [71,72])
 (.seq
 (.region false [
 om 73 4,
 oo 74 (.lenl (.tmp 73)),
 oo 75 (.mov (.const (.int .i64 0)))] [])
 (.block 8
 (.loop
 (.seq
 (.region false [
 oo 76 (.bin .lss 3 (.tmp 75) (.tmp 74))] [])
 (.seq
 (.cond (.tmp 76)
 .skip
 (.exit 8))
 (.seq
 (.block 9
 (.seq
 (.region false [
 oo 77 (.iaddr 1 (.tmp 73) (.tmp 75)),
 oo 78 (.load false 1 (.tmp 77)),
 om 13 78] [76,77,78])
 (.seq
 (.seq
 (.region false [
 om 80 0,
 om 81 11,
 om 82 13,
 oo 83 (.callm 17 [.tmp 80,.tmp 81,.tmp 82]),
 om 79 83,
 oo 84 (.ext (.tmp 79) 0),
 oo 85 (.ext (.tmp 79) 1),
 oo 14 (.alloc [.lit (.int .i64 0),.lit (.int .i64 0),.lit (.int .i64 0),.lit (.bool false)]),
 ⟨none,.store 4 (.tmp 14) (.tmp 84),none⟩,
 om 15 85] [14,79,80,81,82,83,84,85])
 (.seq
 (.region false [
 om 86 15,
 oo 87 (.un .not (.tmp 86))] [15,86])
 (.cond (.tmp 87)
 (.exit 9)
 .skip)))
 (.seq
 (.region false [
 om 89 0,
 om 90 11,
 om 91 13,
 oo 92 (.callm 16 [.tmp 89,.tmp 90,.tmp 91]),
 om 88 92,
 oo 93 (.ext (.tmp 88) 0),
 oo 94 (.ext (.tmp 88) 1),
 om 16 93,
 om 17 94] [13,16,87,88,89,90,91,92,93,94])
 (.seq
 (.region false [
 om 95 17,
 oo 96 (.un .not (.tmp 95))] [17,95])
 (.cond (.tmp 96)
 (.seq
 (.region false [
 oo 2 (.mov (.const (.bool true)))] [0,4,11,69,70,73,74,75,96])
 .ret)
 .skip))))) [13,87,96])
 (.region false [
 oo 97 (.bin .add 3 (.tmp 75) (.const (.int .i64 1))),
 om 75 97] [97])))) [] [14]) [11,73,74,75,76]))) [])
 (.region false [
 oo 98 (.bin .add 3 (.tmp 70) (.const (.int .i64 1))),
 om 70 98] [98])))) [] [14]) [0,4,69,70,71]))
 (.seq
 (.region false [
 oo 2 (.mov (.const (.bool false)))] [])
 .ret))))))))
abbrev v_q15 : List RV:= [.tmp 2]
abbrev f_q15 : FuncId:= 18
theorem k_q15 : closedOf Tryz.prog Tryz.f18 = (false,some true,some v_q15,some c_q15.plain,99):= by kernel_rfl
theorem ac_q15 {args : List AV} {r : AV} (h : aw Tryz.prog c_q15 (env0 args) (endQ v_q15 r)) (hargs : args.length ≤ 99:= by decide) (hok : resOK r = true:= by rfl) : AC Tryz.prog f_q15 args r :=
  AC_mk (by kernel_rfl) Tryz.func18 k_q15 hargs hok (by decide) h
def c_q16 : ACode :=
 (.seq
 (.region false [
 oo 4 (.alloc [.sl .nil 0 [],.sl .nil 0 [],.sl .nil 0 [],.sl .nil 0 [],.sl .nil 0 [],.sl .nil 0 [],.sl .nil 0 []])] [])
 (.seq
 (.region false [
 oo 10 (.build [.sl .nil 0 [],.sl .nil 0 [],.sl .nil 0 [],.sl .nil 0 [],.sl .nil 0 [],.sl .nil 0 [],.sl .nil 0 []] []),
 oo 5 (.alloc [.sl .nil 0 [],.sl .nil 0 [],.sl .nil 0 [],.sl .nil 0 [],.sl .nil 0 [],.sl .nil 0 [],.sl .nil 0 []]),
 ⟨none,.store 7 (.tmp 5) (.tmp 10),none⟩] [10])
 (.seq
 (.seq
 (.region false [
 oo 6 (.mov (.const (.int .i64 0)))] [])
 (.block 0
 (.loop
 (.seq
 (.seq
 (.region false [
 om 11 6,
 om 12 0,
 oo 13 (.bin .leq 3 (.tmp 11) (.tmp 12))] [11,12])
 (.cond (.tmp 13)
 .skip
 (.exit 0)))
 (.seq
 (.block 1
 (.region true [
 oo 16 (.faddr 1 1 (.tmp 5)),
 oo 17 (.loadc false 1 (.tmp 16)),
 om 18 6,
 oo 19 (.call 12 [.tmp 18]),
 oo 20 (.bslice 1 3 [.tmp 19]),
 oo 21 (.app 3 32 [] (.tmp 17) (.tmp 20)),
 oo 22 (.faddr 1 1 (.tmp 5)),
 ⟨none,.store 1 (.tmp 22) (.tmp 21),none⟩] [13,16,17,18,19,20,21,22]) [])
 (.region false [
 om 14 6,
 oo 15 (.bin .add 3 (.tmp 14) (.const (.int .i64 1))),
 om 6 15] [14,15]))) [] []) [6,13]))
 (.seq
 (.seq
 (.region false [
 oo 7 (.mov (.const (.int .i64 0)))] [])
 (.block 2
 (.loop
 (.seq
 (.seq
 (.region false [
 om 23 7,
 om 24 0,
 oo 25 (.bin .lss 3 (.tmp 23) (.tmp 24))] [23,24])
 (.cond (.tmp 25)
 .skip
 (.exit 2)))
 (.seq
 (.block 3
 (.seq
 (.region true [
 oo 28 (.faddr 0 1 (.tmp 5)),
 oo 29 (.loadc false 1 (.tmp 28)),
 om 30 7,
 oo 31 (.call 29 [.const (.string ⟨#[114]⟩),.tmp 30]),
 oo 32 (.build [.lit (.string ⟨#[]⟩),.lit (.int .i64 0)] [(0,1,.tmp 31),(1,1,.const (.int .i64 1))]),
 oo 33 (.bslice 1 2 [.tmp 32]),
 oo 34 (.app 2 24 [] (.tmp 29) (.tmp 33)),
 oo 35 (.faddr 0 1 (.tmp 5)),
 ⟨none,.store 1 (.tmp 35) (.tmp 34),none⟩] [25,28,29,30,31,32,33,34,35])
 (.region true [
 oo 36 (.faddr 2 1 (.tmp 5)),
 oo 37 (.loadc false 1 (.tmp 36)),
 om 38 7,
 om 39 7,
 oo 40 (.call 13 [.tmp 38,.tmp 39]),
 om 41 7,
 om 42 7,
 oo 43 (.bin .add 3 (.tmp 42) (.const (.int .i64 1))),
 oo 44 (.call 13 [.tmp 41,.tmp 43]),
 oo 45 (.bslice 2 3 [.tmp 40,.tmp 44]),
 oo 46 (.app 3 24 [] (.tmp 37) (.tmp 45)),
 oo 47 (.faddr 2 1 (.tmp 5)),
 ⟨none,.store 1 (.tmp 47) (.tmp 46),none⟩] [36,37,38,39,40,41,42,43,44,45,46,47])) [])
 (.region false [
 om 26 7,
 oo 27 (.bin .add 3 (.tmp 26) (.const (.int .i64 1))),
 om 7 27] [26,27]))) [] []) [7,25]))
 (.seq
 (.seq
 (.region false [
 oo 8 (.mov (.const (.int .i64 0)))] [])
 (.block 4
 (.loop
 (.seq
 (.seq
 (.region false [
 om 48 8,
 om 49 0,
 oo 50 (.bin .lss 3 (.tmp 48) (.tmp 49))] [48,49])
 (.cond (.tmp 50)
 .skip
 (.exit 4)))
 (.seq
 (.block 5
 (.seq
 (.region false [
 oo 9 (.mov (.const (.int .i64 0)))] [50])
 (.block 6
 (.loop
 (.seq
 (.seq
 (.region false [
 om 53 9,
 om 54 0,
 oo 55 (.bin .leq 3 (.tmp 53) (.tmp 54))] [53,54])
 (.cond (.tmp 55)
 .skip
 (.exit 6)))
 (.seq
 (.block 7
 (.seq
 (.seq
 (.region false [
 om 58 9,
 om 59 8,
 oo 60 (.bin .lss 3 (.tmp 58) (.tmp 59))] [55,58,59])
 (.cond (.tmp 60)
 (.region true [
 oo 61 (.faddr 3 1 (.tmp 5)),
 oo 62 (.loadc false 1 (.tmp 61)),
 om 63 8,
 oo 64 (.faddr 1 1 (.tmp 5)),
 oo 65 (.loadc false 1 (.tmp 64)),
 om 66 9,
 oo 67 (.iaddr 3 (.tmp 65) (.tmp 66)),
 oo 68 (.faddr 1 2 (.tmp 67)),
 oo 69 (.loadc true 2 (.tmp 68)),
 om 70 8,
 om 71 8,
 oo 72 (.call 14 [.tmp 70,.tmp 71]),
 om 73 8,
 om 74 9,
 oo 75 (.bin .sub 3 (.tmp 73) (.tmp 74)),
 oo 76 (.build [.lit (.int .i64 0),.lit (.int .u32 0),.lit (.int .i64 0),.lit (.int .u32 0),.lit (.int .i64 0)] [(0,1,.tmp 63),(1,2,.tmp 69),(3,1,.tmp 72),(4,1,.tmp 75)]),
 oo 77 (.bslice 1 5 [.tmp 76]),
 oo 78 (.app 5 40 [] (.tmp 62) (.tmp 77)),
 oo 79 (.faddr 3 1 (.tmp 5)),
 ⟨none,.store 1 (.tmp 79) (.tmp 78),none⟩] [60,61,62,63,64,65,66,67,68,69,70,71,72,73,74,75,76,77,78,79])
 .skip))
 (.seq
 (.region false [
 om 80 9,
 om 81 8,
 oo 82 (.bin .add 3 (.tmp 81) (.const (.int .i64 1))),
 oo 83 (.bin .gtr 3 (.tmp 80) (.tmp 82))] [60,80,81,82])
 (.cond (.tmp 83)
 (.region true [
 oo 84 (.faddr 3 1 (.tmp 5)),
 oo 85 (.loadc false 1 (.tmp 84)),
 om 86 8,
 oo 87 (.faddr 1 1 (.tmp 5)),
 oo 88 (.loadc false 1 (.tmp 87)),
 om 89 9,
 oo 90 (.iaddr 3 (.tmp 88) (.tmp 89)),
 oo 91 (.faddr 1 2 (.tmp 90)),
 oo 92 (.loadc true 2 (.tmp 91)),
 om 93 8,
 oo 94 (.bin .add 3 (.tmp 93) (.const (.int .i64 1))),
 om 95 8,
 oo 96 (.bin .add 3 (.tmp 95) (.const (.int .i64 2))),
 oo 97 (.call 14 [.tmp 94,.tmp 96]),
 om 98 9,
 om 99 8,
 oo 100 (.bin .sub 3 (.tmp 98) (.tmp 99)),
 oo 101 (.build [.lit (.int .i64 0),.lit (.int .u32 0),.lit (.int .i64 0),.lit (.int .u32 0),.lit (.int .i64 0)] [(0,1,.tmp 86),(1,2,.tmp 92),(3,1,.tmp 97),(4,1,.tmp 100)]),
 oo 102 (.bslice 1 5 [.tmp 101]),
 oo 103 (.app 5 40 [] (.tmp 85) (.tmp 102)),
 oo 104 (.faddr 3 1 (.tmp 5)),
 ⟨none,.store 1 (.tmp 104) (.tmp 103),none⟩] [83,84,85,86,87,88,89,90,91,92,93,94,95,96,97,98,99,100,101,102,103,104])
 .skip))) [83])
 (.region false [
 om 56 9,
 oo 57 (.bin .add 3 (.tmp 56) (.const (.int .i64 1))),
 om 9 57] [56,57]))) [] []) [9,55])) [])
 (.region false [
 om 51 8,
 oo 52 (.bin .add 3 (.tmp 51) (.const (.int .i64 1))),
 om 8 52] [51,52]))) [] []) [0,8,50]))
 (.seq
 (.region false [
 oo 105 (.callm 36 []),
 om 106 1,
 om 107 1,
 oo 108 (.bin .add 3 (.tmp 107) (.const (.int .i64 1))),
 oo 109 (.callm 14 [.tmp 106,.tmp 108]),
 oo 110 (.build [.lit (.int .u32 0),.lit (.int .i64 0),.lit (.int .u32 0)] [(0,2,.tmp 105),(2,1,.tmp 109)]),
 oo 111 (.bslice 1 3 [.tmp 110]),
 oo 112 (.faddr 4 1 (.tmp 5)),
 ⟨none,.store 1 (.tmp 112) (.tmp 111),none⟩] [1,105,106,107,108,109,110,111,112])
 (.seq
 (.region false [
 oo 113 (.load true 7 (.tmp 5)),
 ⟨none,.store 7 (.tmp 4) (.tmp 113),none⟩] [5,113])
 .ret)))))))
abbrev v_q16 : List RV:= [.cell true 7 4]
abbrev f_q16 : FuncId:= 19
theorem k_q16 : closedOf Tryz.prog Tryz.f19 = (false,some true,some v_q16,some c_q16.plain,114):= by kernel_rfl
theorem ac_q16 {args : List AV} {r : AV} (h : aw Tryz.prog c_q16 (env0 args) (endQ v_q16 r)) (hargs : args.length ≤ 114:= by decide) (hok : resOK r = true:= by rfl) : AC Tryz.prog f_q16 args r :=
  AC_mk (by kernel_rfl) Tryz.func19 k_q16 hargs hok (by decide) h
def c_q17 : ACode :=
 (.seq
 (.region false [
 oo 2 (.mov (.const (.string ⟨#[]⟩)))] [2])
 (.seq
 (.region false [
 om 3 0,
 oo 4 (.callm 37 [.tmp 3]),
 om 2 4] [0,3,4])
 .ret))
abbrev v_q17 : List RV:= [.tmp 2]
abbrev f_q17 : FuncId:= 20
theorem k_q17 : closedOf Tryz.prog Tryz.f20 = (false,some true,some v_q17,some c_q17.plain,5):= by kernel_rfl
theorem ac_q17 {args : List AV} {r : AV} (h : aw Tryz.prog c_q17 (env0 args) (endQ v_q17 r)) (hargs : args.length ≤ 5:= by decide) (hok : resOK r = true:= by rfl) : AC Tryz.prog f_q17 args r :=
  AC_mk (by kernel_rfl) Tryz.func20 k_q17 hargs hok (by decide) h
def c_q18 : ACode :=
 (.seq
 (.region false [
 oo 1 (.box (.tmp 0)),
 oo 2 (.mov (.const (.nilIface)))] [0,2])
 (.seq
 (.region false [
 oo 8 (.load true 7 (.tmp 1)),
 oo 9 (.build [.sl .nil 0 [],.sl .nil 0 [],.sl .nil 0 [],.sl .nil 0 [],.sl .nil 0 [],.sl .nil 0 [],.sl .nil 0 []] [(0,7,.tmp 8)]),
 oo 3 (.alloc [.sl .nil 0 [],.sl .nil 0 [],.sl .nil 0 [],.sl .nil 0 [],.sl .nil 0 [],.sl .nil 0 [],.sl .nil 0 []]),
 ⟨none,.store 7 (.tmp 3) (.tmp 9),none⟩] [8,9])
 (.seq
 (.seq
 (.region false [
 oo 10 (.faddr 0 1 (.tmp 1)),
 oo 11 (.load false 1 (.tmp 10)),
 oo 12 (.lenl (.tmp 11)),
 oo 13 (.load true 7 (.tmp 3)),
 oo 14 (.mkfn (.func 38) [.tmp 13] []),
 oo 15 (.build [.lit (.int .i64 0),.lit (.int .i64 0),.lit (.nilFunc)] [(0,1,.tmp 12),(1,1,.const (.int .i64 16)),(2,1,.tmp 14)]),
 oo 16 (.faddr 1 1 (.tmp 1)),
 oo 17 (.load false 1 (.tmp 16)),
 oo 18 (.lenl (.tmp 17)),
 oo 19 (.load true 7 (.tmp 3)),
 oo 20 (.mkfn (.func 39) [.tmp 19] []),
 oo 21 (.build [.lit (.int .i64 0),.lit (.int .i64 0),.lit (.nilFunc)] [(0,1,.tmp 18),(1,1,.const (.int .i64 24)),(2,1,.tmp 20)]),
 oo 22 (.faddr 2 1 (.tmp 1)),
 oo 23 (.load false 1 (.tmp 22)),
 oo 24 (.lenl (.tmp 23)),
 oo 25 (.load true 7 (.tmp 3)),
 oo 26 (.mkfn (.func 40) [.tmp 25] []),
 oo 27 (.build [.lit (.int .i64 0),.lit (.int .i64 0),.lit (.nilFunc)] [(0,1,.tmp 24),(1,1,.const (.int .i64 64)),(2,1,.tmp 26)]),
 oo 28 (.faddr 3 1 (.tmp 1)),
 oo 29 (.load false 1 (.tmp 28)),
 oo 30 (.lenl (.tmp 29)),
 oo 31 (.load true 7 (.tmp 3)),
 oo 32 (.mkfn (.func 41) [.tmp 31] []),
 oo 33 (.build [.lit (.int .i64 0),.lit (.int .i64 0),.lit (.nilFunc)] [(0,1,.tmp 30),(1,1,.const (.int .i64 96)),(2,1,.tmp 32)]),
 oo 34 (.faddr 4 1 (.tmp 1)),
 oo 35 (.load false 1 (.tmp 34)),
 oo 36 (.lenl (.tmp 35)),
 oo 37 (.load true 7 (.tmp 3)),
 oo 38 (.mkfn (.func 42) [.tmp 37] []),
 oo 39 (.build [.lit (.int .i64 0),.lit (.int .i64 0),.lit (.nilFunc)] [(0,1,.tmp 36),(1,1,.const (.int .i64 8)),(2,1,.tmp 38)]),
 oo 40 (.faddr 5 1 (.tmp 1)),
 oo 41 (.load false 1 (.tmp 40)),
 oo 42 (.lenl (.tmp 41)),
 oo 43 (.load true 7 (.tmp 3)),
 oo 44 (.mkfn (.func 43) [.tmp 43] []),
 oo 45 (.build [.lit (.int .i64 0),.lit (.int .i64 0),.lit (.nilFunc)] [(0,1,.tmp 42),(1,1,.const (.int .i64 8)),(2,1,.tmp 44)]),
 oo 46 (.faddr 6 1 (.tmp 1)),
 oo 47 (.load false 1 (.tmp 46)),
 oo 48 (.lenl (.tmp 47)),
 oo 49 (.load true 7 (.tmp 3)),
 oo 50 (.mkfn (.func 44) [.tmp 49] []),
 oo 51 (.build [.lit (.int .i64 0),.lit (.int .i64 0),.lit (.nilFunc)] [(0,1,.tmp 48),(1,1,.const (.int .i64 24)),(2,1,.tmp 50)]),
 oo 52 (.bslice 7 3 [.tmp 15,.tmp 21,.tmp 27,.tmp 33,.tmp 39,.tmp 45,.tmp 51]),
 oo 53 (.lenl (.tmp 52)),
 oo 54 (.mov (.const (.int .i64 0)))] [1,3,10,11,12,13,14,15,16,17,18,19,20,21,22,23,24,25,26,27,28,29,30,31,32,33,34,35,36,37,38,39,40,41,42,43,44,45,46,47,48,49,50,51])
 (.block 0
 (.loop
 (.seq
 (.region false [
 oo 55 (.bin .lss 3 (.tmp 54) (.tmp 53))] [])
 (.seq
 (.cond (.tmp 55)
 .skip
 (.exit 0))
 (.seq
 (.block 1
 (.seq
 (.region false [
 oo 56 (.iaddr 3 (.tmp 52) (.tmp 54)),
 oo 57 (.load true 3 (.tmp 56)),
 oo 5 (.alloc [.lit (.int .i64 0),.lit (.int .i64 0),.lit (.nilFunc)]),
 ⟨none,.store 3 (.tmp 5) (.tmp 57),none⟩] [55,56,57])
 (.seq
 (.region false [
 oo 58 (.faddr 0 1 (.tmp 5)),
 oo 59 (.load false 1 (.tmp 58)),
 oo 60 (.mov (.const (.int .i64 0)))] [58])
 (.block 2
 (.loop
 (.seq
 (.region false [
 oo 61 (.bin .lss 3 (.tmp 60) (.tmp 59))] [])
 (.seq
 (.cond (.tmp 61)
 .skip
 (.exit 2))
 (.seq
 (.block 3
 (.seq
 (.region false [
 om 62 60,
 om 6 62] [61,62])
 (.seq
 (.seq
 (.region false [
 om 63 6,
 oo 64 (.faddr 1 1 (.tmp 5)),
 oo 65 (.load false 1 (.tmp 64)),
 oo 66 (.bin .geq 3 (.tmp 63) (.tmp 65))] [63,64,65])
 (.cond (.tmp 66)
 (.seq
 (.region false [
 oo 67 (.load false 1 (.global 0)),
 om 2 67] [5,6,52,53,54,59,60,66,67])
 .ret)
 .skip))
 (.seq
 (.region false [
 oo 68 (.faddr 2 1 (.tmp 5)),
 oo 69 (.load false 1 (.tmp 68)),
 om 70 6,
 oo 71 (.callvm (.tmp 69) [.tmp 70]),
 om 7 71] [6,66,68,69,70,71])
 (.seq
 (.region false [
 om 72 7,
 oo 73 (.eqn true (.tmp 72))] [72])
 (.cond (.tmp 73)
 (.seq
 (.region false [
 om 74 7,
 om 2 74] [5,7,52,53,54,59,60,73,74])
 .ret)
 .skip))))) [7,73])
 (.region false [
 oo 75 (.bin .add 3 (.tmp 60) (.const (.int .i64 1))),
 om 60 75] [75])))) [] []) [5,59,60,61]))) [])
 (.region false [
 oo 76 (.bin .add 3 (.tmp 54) (.const (.int .i64 1))),
 om 54 76] [76])))) [] [5]) [52,53,54,55]))
 (.seq
 (.region false [
 oo 2 (.mov (.const (.nilIface)))] [])
 .ret))))
abbrev v_q18 : List RV:= [.tmp 2]
abbrev f_q18 : FuncId:= 21
theorem k_q18 : closedOf Tryz.prog Tryz.f21 = (false,some true,some v_q18,some c_q18.plain,77):= by kernel_rfl
theorem ac_q18 {args : List AV} {r : AV} (h : aw Tryz.prog c_q18 (env0 args) (endQ v_q18 r)) (hargs : args.length ≤ 77:= by decide) (hok : resOK r = true:= by rfl) : AC Tryz.prog f_q18 args r :=
  AC_mk (by kernel_rfl) Tryz.func21 k_q18 hargs hok (by decide) h
def c_q19 : ACode :=
 (.seq
 (.region false [
 oo 1 (.box (.tmp 0)),
 oo 2 (.alloc [.sl .nil 0 [],.sl .nil 0 [],.sl .nil 0 [],.sl .nil 0 [],.sl .nil 0 [],.sl .nil 0 [],.sl .nil 0 []])] [0])
 (.seq
 (.region true [
 oo 5 (.faddr 0 1 (.tmp 1)),
 oo 6 (.load false 1 (.tmp 5)),
 oo 7 (.call 45 [.tmp 6]),
 oo 8 (.faddr 1 1 (.tmp 1)),
 oo 9 (.load false 1 (.tmp 8)),
 oo 10 (.call 46 [.tmp 9]),
 oo 11 (.faddr 2 1 (.tmp 1)),
 oo 12 (.load false 1 (.tmp 11)),
 oo 13 (.call 47 [.tmp 12]),
 oo 14 (.faddr 3 1 (.tmp 1)),
 oo 15 (.load false 1 (.tmp 14)),
 oo 16 (.call 48 [.tmp 15]),
 oo 17 (.faddr 4 1 (.tmp 1)),
 oo 18 (.load false 1 (.tmp 17)),
 oo 19 (.call 49 [.tmp 18]),
 oo 20 (.faddr 5 1 (.tmp 1)),
 oo 21 (.load false 1 (.tmp 20)),
 oo 22 (.call 50 [.tmp 21]),
 oo 23 (.faddr 6 1 (.tmp 1)),
 oo 24 (.load false 1 (.tmp 23)),
 oo 25 (.call 51 [.tmp 24]),
 oo 26 (.build [.sl .nil 0 [],.sl .nil 0 [],.sl .nil 0 [],.sl .nil 0 [],.sl .nil 0 [],.sl .nil 0 [],.sl .nil 0 []] [(0,1,.tmp 7),(1,1,.tmp 10),(2,1,.tmp 13),(3,1,.tmp 16),(4,1,.tmp 19),(5,1,.tmp 22),(6,1,.tmp 25)]),
 oo 3 (.alloc [.sl .nil 0 [],.sl .nil 0 [],.sl .nil 0 [],.sl .nil 0 [],.sl .nil 0 [],.sl .nil 0 [],.sl .nil 0 []]),
 ⟨none,.store 7 (.tmp 3) (.tmp 26),none⟩] [1,5,6,7,8,9,10,11,12,13,14,15,16,17,18,19,20,21,22,23,24,25,26])
 (.seq
 (.seq
 (.shift
 (.region false [
 oo 27 (.faddr 6 1 (.tmp 3)),
 oo 28 (.load false 1 (.tmp 27)),
 oo 29 (.lenl (.tmp 28)),
 oo 30 (.mov (.const (.int .i64 0)))] [27,28]))
 (.block 0
 (.loop
 (.seq
 (.region false [
 oo 31 (.bin .lss 3 (.tmp 30) (.tmp 29))] [])
 (.seq
 (.cond (.tmp 31)
 .skip
 (.exit 0))
 (.seq
 (.block 1
 (.seq
 (.region false [
 om 32 30,
 om 4 32] [31,32])
 (.region true [
 oo 33 (.faddr 6 1 (.tmp 3)),
 oo 34 (.load false 1 (.tmp 33)),
 om 35 4,
 oo 36 (.faddr 6 1 (.tmp 3)),
 oo 37 (.load false 1 (.tmp 36)),
 om 38 4,
 oo 39 (.iaddr 4 (.tmp 37) (.tmp 38)),
 oo 40 (.faddr 3 1 (.tmp 39)),
 oo 41 (.load false 1 (.tmp 40)),
 oo 42 (.call 52 [.tmp 41]),
 oo 43 (.iaddr 4 (.tmp 34) (.tmp 35)),
 oo 44 (.faddr 3 1 (.tmp 43)),
 ⟨none,.store 1 (.tmp 44) (.tmp 42),none⟩] [4,33,34,35,36,37,38,39,40,41,42,43,44])) [])
 (.region false [
 oo 45 (.bin .add 3 (.tmp 30) (.const (.int .i64 1))),
 om 30 45] [45])))) [] []) [29,30,31]))
 (.seq
 (.region false [
 oo 46 (.load true 7 (.tmp 3)),
 ⟨none,.store 7 (.tmp 2) (.tmp 46),none⟩] [3,46])
 .ret))))
abbrev v_q19 : List RV:= [.cell true 7 2]
abbrev f_q19 : FuncId:= 22
theorem k_q19 : closedOf Tryz.prog Tryz.f22 = (false,some true,some v_q19,some c_q19.plain,47):= by kernel_rfl
theorem ac_q19 {args : List AV} {r : AV} (h : aw Tryz.prog c_q19 (env0 args) (endQ v_q19 r)) (hargs : args.length ≤ 47:= by decide) (hok : resOK r = true:= by rfl) : AC Tryz.prog f_q19 args r :=
  AC_mk (by kernel_rfl) Tryz.func22 k_q19 hargs hok (by decide) h
def c_q20 : ACode :=
 (.seq
 (.region false [
 om 3 0,
 oo 4 (.lenl (.tmp 3)),
 om 2 4] [3,4])
 (.region false [
 om 5 0,
 om 6 2,
 om 7 2,
 oo 8 (.cint .u64 (.tmp 7)),
 oo 9 (.callm 54 [.tmp 8]),
 oo 10 (.callm 53 [.tmp 5,.const (.int .i64 0),.tmp 6,.tmp 9])] [0,2,5,6,7,8,9,10]))
abbrev v_q20 : List RV:= []
abbrev f_q20 : FuncId:= 23
theorem k_q20 : closedOf Tryz.prog Tryz.f23 = (false,some true,some v_q20,some c_q20.plain,11):= by kernel_rfl
theorem ac_q20 {args : List AV} {r : AV} (h : aw Tryz.prog c_q20 (env0 args) (endQ v_q20 r)) (hargs : args.length ≤ 11:= by decide) (hok : resOK r = true:= by rfl) : AC Tryz.prog f_q20 args r :=
  AC_mk (by kernel_rfl) Tryz.func23 k_q20 hargs hok (by decide) h
theorem am_q20 {args : List AV} {c0 c1 : List (Nat × List AV)} {r : AV} (h : aw Tryz.prog c_q20 (env0M args c0) (endM v_q20 r (c0.map (·.1)) c1)) (hc0 : ∀ q ∈ c0,100000 ≤ q.1) (hargs : args.length ≤ 11:= by decide) (hok : resOK r = true:= by rfl) : AM Tryz.prog f_q20 args c0 r c1 :=
  AM_mk (by kernel_rfl) Tryz.func23 k_q20 hargs hok (by decide) hc0 h
def c_q21 : ACode :=
 (.seq
 (.region false [
 oo 2 (.mov (.const (.slice none 0 0)))] [2])
 (.seq
 (.seq
 (.region false [
 om 6 0,
 oo 7 (.lenl (.tmp 6)),
 oo 8 (.bin .lss 3 (.tmp 7) (.const (.int .i64 2)))] [6,7])
 (.cond (.tmp 8)
 (.seq
 (.shift
 (.region false [
 om 9 0,
 om 2 9] [0,8,9]))
 .ret)
 .skip))
 (.seq
 (.seq
 (.region false [
 oo 3 (.mov (.const (.int .i64 1)))] [8])
 (.block 0
 (.loop
 (.seq
 (.seq
 (.region false [
 om 10 3,
 om 11 0,
 oo 12 (.lenl (.tmp 11)),
 oo 13 (.bin .lss 3 (.tmp 10) (.tmp 12))] [10,11,12])
 (.cond (.tmp 13)
 .skip
 (.exit 0)))
 (.seq
 (.block 1
 (.seq
 (.region true [
 om 16 0,
 om 17 3,
 oo 18 (.iaddr 1 (.tmp 16) (.tmp 17)),
 oo 19 (.load false 1 (.tmp 18)),
 om 20 0,
 om 21 3,
 oo 22 (.bin .sub 3 (.tmp 21) (.const (.int .i64 1))),
 oo 23 (.iaddr 1 (.tmp 20) (.tmp 22)),
 oo 24 (.load false 1 (.tmp 23)),
 oo 25 (.bin .eql 37 (.tmp 19) (.tmp 24))] [13,16,17,18,19,20,21,22,23,24])
 (.cond (.tmp 25)
 (.seq
 (.region false [
 om 26 0,
 om 27 3,
 oo 28 (.slc 1 (.tmp 26) (some (.tmp 27)) none),
 om 4 28] [25,26,27,28])
 (.seq
 (.seq
 (.region false [
 oo 5 (.mov (.const (.int .i64 1)))] [])
 (.block 2
 (.loop
 (.seq
 (.seq
 (.region false [
 om 29 5,
 om 30 4,
 oo 31 (.lenl (.tmp 30)),
 oo 32 (.bin .lss 3 (.tmp 29) (.tmp 31))] [29,30,31])
 (.cond (.tmp 32)
 .skip
 (.exit 2)))
 (.seq
 (.block 3
 (.seq
 (.region true [
 om 35 4,
 om 36 5,
 oo 37 (.iaddr 1 (.tmp 35) (.tmp 36)),
 oo 38 (.load false 1 (.tmp 37)),
 om 39 4,
 om 40 5,
 oo 41 (.bin .sub 3 (.tmp 40) (.const (.int .i64 1))),
 oo 42 (.iaddr 1 (.tmp 39) (.tmp 41)),
 oo 43 (.load false 1 (.tmp 42)),
 oo 44 (.bin .neq 37 (.tmp 38) (.tmp 43))] [32,35,36,37,38,39,40,41,42,43])
 (.cond (.tmp 44)
 (.seq
 (.region false [
 om 45 0,
 om 46 3,
 om 47 4,
 om 48 5,
 oo 49 (.iaddr 1 (.tmp 47) (.tmp 48)),
 oo 50 (.load false 1 (.tmp 49)),
 oo 51 (.iaddr 1 (.tmp 45) (.tmp 46)),
 ⟨none,.store 1 (.tmp 51) (.tmp 50),none⟩] [44,45,46,47,48,49,50,51])
 (.region false [
 om 52 3,
 oo 53 (.bin .add 3 (.tmp 52) (.const (.int .i64 1))),
 om 3 53] [52,53]))
 .skip)) [44])
 (.region false [
 om 33 5,
 oo 34 (.bin .add 3 (.tmp 33) (.const (.int .i64 1))),
 om 5 34] [33,34]))) [] []) [4,5,32]))
 (.seq
 (.region false [
 om 54 0,
 om 55 3,
 oo 56 (.slc 1 (.tmp 54) (some (.tmp 55)) none),
 ⟨none,.clr [.lit (.int .u32 0)] (.tmp 56),none⟩] [54,55,56])
 (.seq
 (.region false [
 om 57 0,
 om 58 3,
 oo 59 (.slc 1 (.tmp 57) none (some (.tmp 58))),
 om 2 59] [0,3,57,58,59])
 .ret))))
 .skip)) [25])
 (.region false [
 om 14 3,
 oo 15 (.bin .add 3 (.tmp 14) (.const (.int .i64 1))),
 om 3 15] [14,15]))) [] []) [3,13]))
 (.seq
 (.region false [
 om 60 0,
 om 2 60] [0,60])
 .ret))))
abbrev v_q21 : List RV:= [.tmp 2]
abbrev f_q21 : FuncId:= 24
theorem k_q21 : closedOf Tryz.prog Tryz.f24 = (false,some true,some v_q21,some c_q21.plain,61):= by kernel_rfl
theorem ac_q21 {args : List AV} {r : AV} (h : aw Tryz.prog c_q21 (env0 args) (endQ v_q21 r)) (hargs : args.length ≤ 61:= by decide) (hok : resOK r = true:= by rfl) : AC Tryz.prog f_q21 args r :=
  AC_mk (by kernel_rfl) Tryz.func24 k_q21 hargs hok (by decide) h
theorem am_q21 {args : List AV} {c0 c1 : List (Nat × List AV)} {r : AV} (h : aw Tryz.prog c_q21 (env0M args c0) (endM v_q21 r (c0.map (·.1)) c1)) (hc0 : ∀ q ∈ c0,100000 ≤ q.1) (hargs : args.length ≤ 61:= by decide) (hok : resOK r = true:= by rfl) : AM Tryz.prog f_q21 args c0 r c1 :=
  AM_mk (by kernel_rfl) Tryz.func24 k_q21 hargs hok (by decide) hc0 h
def c_q22 : ACode :=
 (.seq
 (.region false [
 oo 2 (.mov (.const (.pointer none)))] [2])
 (.seq
 (.region false [
 om 3 0,
 oo 4 (.nilchk (.tmp 3)),
 oo 5 (.faddr 0 7 (.tmp 4)),
 om 2 5] [0,3,4,5])
 .ret))
abbrev v_q22 : List RV:= [.tmp 2]
abbrev f_q22 : FuncId:= 25
theorem k_q22 : closedOf Tryz.prog Tryz.f25 = (false,some true,some v_q22,some c_q22.plain,6):= by kernel_rfl
theorem ac_q22 {args : List AV} {r : AV} (h : aw Tryz.prog c_q22 (env0 args) (endQ v_q22 r)) (hargs : args.length ≤ 6:= by decide) (hok : resOK r = true:= by rfl) : AC Tryz.prog f_q22 args r :=
  AC_mk (by kernel_rfl) Tryz.func25 k_q22 hargs hok (by decide) h
def c_q23 : ACode :=
 (.seq
 (.region false [
 oo 4 (.mov (.const (.slice none 0 0)))] [4])
 (.seq
 (.region false [
 om 5 0,
 oo 6 (.nilchk (.tmp 5)),
 oo 7 (.faddr 8 1 (.tmp 6)),
 oo 8 (.load false 1 (.tmp 7)),
 om 9 1,
 oo 10 (.callm 55 [.tmp 8,.tmp 9]),
 om 4 10] [0,1,5,6,7,8,9,10])
 .ret))
abbrev v_q23 : List RV:= [.tmp 4]
abbrev f_q23 : FuncId:= 26
theorem k_q23 : closedOf Tryz.prog Tryz.f26 = (false,some true,some v_q23,some c_q23.plain,11):= by kernel_rfl
theorem ac_q23 {args : List AV} {r : AV} (h : aw Tryz.prog c_q23 (env0 args) (endQ v_q23 r)) (hargs : args.length ≤ 11:= by decide) (hok : resOK r = true:= by rfl) : AC Tryz.prog f_q23 args r :=
  AC_mk (by kernel_rfl) Tryz.func26 k_q23 hargs hok (by decide) h
def c_q24 : ACode :=
 (.seq
 (.region false [
 oo 2 (.box (.tmp 0)),
 oo 4 (.mov (.const (.bool false)))] [0,4])
 (.seq
 (.region true [
 oo 5 (.load true 2 (.tmp 2)),
 oo 6 (.call 56 [.tmp 5]),
 om 7 6,
 og 8 (.mov (.tmp 1)) 7 true,
 og 9 (.faddr 1 1 (.tmp 2)) 7 true,
 og 10 (.load false 1 (.tmp 9)) 7 true,
 og 11 (.call 57 [.tmp 10]) 7 true,
 og 12 (.bin .and 37 (.tmp 8) (.tmp 11)) 7 true,
 og 13 (.faddr 0 1 (.tmp 2)) 7 true,
 og 14 (.load false 1 (.tmp 13)) 7 true,
 og 15 (.bin .eql 37 (.tmp 12) (.tmp 14)) 7 true,
 oo 16 (.pick (.tmp 7) (.tmp 15) (.const (.bool false))),
 om 4 16] [1,2,5,6,7,8,9,10,11,12,13,14,15,16])
 .ret))
abbrev v_q24 : List RV:= [.tmp 4]
abbrev f_q24 : FuncId:= 27
theorem k_q24 : closedOf Tryz.prog Tryz.f27 = (false,some true,some v_q24,some c_q24.plain,17):= by kernel_rfl
theorem ac_q24 {args : List AV} {r : AV} (h : aw Tryz.prog c_q24 (env0 args) (endQ v_q24 r)) (hargs : args.length ≤ 17:= by decide) (hok : resOK r = true:= by rfl) : AC Tryz.prog f_q24 args r :=
  AC_mk (by kernel_rfl) Tryz.func27 k_q24 hargs hok (by decide) h
def c_q25 : ACode :=
 (.seq
 (.region false [
 oo 8 (.alloc [.lit (.int .i64 0),.lit (.int .u32 0),.lit (.int .i64 0)]),
 oo 9 (.mov (.const (.bool false)))] [9])
 (.seq
 (.region false [
 om 19 0,
 oo 20 (.callm 25 [.tmp 19]),
 om 10 20] [19,20])
 (.seq
 (.region false [
 om 21 0,
 om 22 1,
 om 23 2,
 oo 24 (.callm 58 [.tmp 21,.tmp 22,.tmp 23]),
 om 11 24] [21,22,23,24])
 (.seq
 (.seq
 (.region false [
 om 26 0,
 om 27 1,
 om 28 2,
 oo 29 (.callm 9 [.tmp 26,.tmp 27,.tmp 28]),
 om 25 29,
 oo 30 (.ext (.tmp 25) 0),
 oo 31 (.ext (.tmp 25) 1),
 om 12 30,
 om 13 31] [2,25,26,27,28,29,30,31])
 (.seq
 (.region true [
 om 32 13,
 om 33 32,
 og 34 (.mov (.tmp 11)) 33 true,
 og 35 (.lenl (.tmp 34)) 33 true,
 og 36 (.bin .eql 3 (.tmp 35) (.const (.int .i64 0))) 33 true,
 og 37 (.mov (.tmp 36)) 33 true,
 og 38 (.mov (.tmp 10)) 37 false,
 og 39 (.nilchk (.tmp 38)) 37 false,
 og 40 (.faddr 1 1 (.tmp 39)) 37 false,
 og 41 (.load false 1 (.tmp 40)) 37 false,
 og 42 (.mov (.tmp 10)) 37 false,
 og 43 (.nilchk (.tmp 42)) 37 false,
 og 44 (.faddr 2 1 (.tmp 43)) 37 false,
 og 45 (.load false 1 (.tmp 44)) 37 false,
 og 46 (.mov (.tmp 12)) 37 false,
 og 47 (.iaddr 3 (.tmp 45) (.tmp 46)) 37 false,
 og 48 (.faddr 1 1 (.tmp 47)) 37 false,
 og 49 (.load false 1 (.tmp 48)) 37 false,
 og 50 (.iaddr 3 (.tmp 41) (.tmp 49)) 37 false,
 og 51 (.faddr 1 2 (.tmp 50)) 37 false,
 og 52 (.faddr 1 1 (.tmp 51)) 37 false,
 og 53 (.load false 1 (.tmp 52)) 37 false,
 og 54 (.mov (.tmp 10)) 37 false,
 og 55 (.nilchk (.tmp 54)) 37 false,
 og 56 (.faddr 3 1 (.tmp 55)) 37 false,
 og 57 (.load false 1 (.tmp 56)) 37 false,
 og 58 (.mov (.tmp 11)) 37 false,
 og 59 (.iaddr 1 (.tmp 58) (.const (.int .i64 0))) 37 false,
 og 60 (.load false 1 (.tmp 59)) 37 false,
 og 61 (.iaddr 5 (.tmp 57) (.tmp 60)) 37 false,
 og 62 (.faddr 1 2 (.tmp 61)) 37 false,
 og 63 (.faddr 1 1 (.tmp 62)) 37 false,
 og 64 (.load false 1 (.tmp 63)) 37 false,
 og 65 (.bin .geq 3 (.tmp 53) (.tmp 64)) 37 false,
 og 66 (.pick (.tmp 37) (.const (.bool true)) (.tmp 65)) 33 true,
 oo 67 (.pick (.tmp 33) (.tmp 66) (.const (.bool false)))] [13,32,33,34,35,36,37,38,39,40,41,42,43,44,45,46,47,48,49,50,51,52,53,54,55,56,57,58,59,60,61,62,63,64,65,66])
 (.cond (.tmp 67)
 (.seq
 (.region false [
 om 68 12,
 oo 69 (.build [.lit (.int .i64 0),.lit (.int .u32 0),.lit (.int .i64 0)] [(0,1,.tmp 68)]),
 ⟨none,.store 3 (.tmp 8) (.tmp 69),none⟩,
 oo 9 (.mov (.const (.bool true)))] [0,1,3,10,11,12,67,68,69])
 .ret)
 .skip)))
 (.seq
 (.seq
 (.region false [
 om 70 11,
 oo 71 (.lenl (.tmp 70)),
 oo 72 (.bin .eql 3 (.tmp 71) (.const (.int .i64 0))),
 om 73 72,
 og 74 (.mov (.tmp 3)) 73 false,
 og 75 (.bin .eql 3 (.tmp 74) (.const (.int .i64 6))) 73 false,
 oo 76 (.pick (.tmp 73) (.const (.bool true)) (.tmp 75))] [12,67,70,71,72,73,74,75])
 (.cond (.tmp 76)
 (.seq
 (.region false [
 oo 77 (.build [.lit (.int .i64 0),.lit (.int .u32 0),.lit (.int .i64 0)] []),
 ⟨none,.store 3 (.tmp 8) (.tmp 77),none⟩,
 oo 9 (.mov (.const (.bool false)))] [0,1,3,10,11,76,77])
 .ret)
 .skip))
 (.seq
 (.region true [
 om 78 10,
 oo 79 (.nilchk (.tmp 78)),
 oo 80 (.faddr 3 1 (.tmp 79)),
 oo 81 (.load false 1 (.tmp 80)),
 om 82 11,
 oo 83 (.iaddr 1 (.tmp 82) (.const (.int .i64 0))),
 oo 84 (.load false 1 (.tmp 83)),
 oo 85 (.iaddr 5 (.tmp 81) (.tmp 84)),
 oo 86 (.load true 5 (.tmp 85)),
 oo 14 (.alloc [.lit (.int .i64 0),.lit (.int .u32 0),.lit (.int .i64 0),.lit (.int .u32 0),.lit (.int .i64 0)]),
 ⟨none,.store 5 (.tmp 14) (.tmp 86),none⟩] [76,78,79,80,81,82,83,84,85,86])
 (.seq
 (.seq
 (.region false [
 om 87 11,
 oo 88 (.slc 1 (.tmp 87) (some (.const (.int .i64 1))) none),
 oo 89 (.lenl (.tmp 88)),
 oo 90 (.mov (.const (.int .i64 0)))] [11,87])
 (.block 0
 (.loop
 (.seq
 (.region false [
 oo 91 (.bin .lss 3 (.tmp 90) (.tmp 89))] [])
 (.seq
 (.cond (.tmp 91)
 .skip
 (.exit 0))
 (.seq
 (.block 1
 (.seq
 (.region false [
 oo 92 (.iaddr 1 (.tmp 88) (.tmp 90)),
 oo 93 (.load false 1 (.tmp 92)),
 om 16 93] [91,92,93])
 (.seq
 (.region true [
 om 94 10,
 oo 95 (.nilchk (.tmp 94)),
 oo 96 (.faddr 3 1 (.tmp 95)),
 oo 97 (.load false 1 (.tmp 96)),
 om 98 16,
 oo 99 (.iaddr 5 (.tmp 97) (.tmp 98)),
 oo 100 (.faddr 4 1 (.tmp 99)),
 oo 101 (.load false 1 (.tmp 100)),
 oo 102 (.faddr 4 1 (.tmp 14)),
 oo 103 (.load false 1 (.tmp 102)),
 oo 104 (.bin .lss 3 (.tmp 101) (.tmp 103))] [94,95,96,97,98,99,100,101,102,103])
 (.cond (.tmp 104)
 (.region false [
 om 105 10,
 oo 106 (.nilchk (.tmp 105)),
 oo 107 (.faddr 3 1 (.tmp 106)),
 oo 108 (.load false 1 (.tmp 107)),
 om 109 16,
 oo 110 (.iaddr 5 (.tmp 108) (.tmp 109)),
 oo 111 (.load true 5 (.tmp 110)),
 ⟨none,.store 5 (.tmp 14) (.tmp 111),none⟩] [16,104,105,106,107,108,109,110,111])
 .skip))) [16,104])
 (.region false [
 oo 112 (.bin .add 3 (.tmp 90) (.const (.int .i64 1))),
 om 90 112] [112])))) [] []) [10,88,89,90,91]))
 (.seq
 (.region false [
 om 114 0,
 om 115 1,
 oo 116 (.faddr 3 1 (.tmp 14)),
 oo 117 (.load false 1 (.tmp 116)),
 om 118 3,
 oo 119 (.bin .add 3 (.tmp 118) (.const (.int .i64 1))),
 oo 120 (.callm 28 [.tmp 114,.tmp 115,.tmp 117,.tmp 119]),
 om 113 120,
 oo 121 (.ext (.tmp 113) 0),
 oo 122 (.ext (.tmp 113) 1),
 oo 17 (.alloc [.lit (.int .i64 0),.lit (.int .u32 0),.lit (.int .i64 0)]),
 ⟨none,.store 3 (.tmp 17) (.tmp 121),none⟩,
 om 18 122] [0,1,3,113,114,115,116,117,118,119,120,121,122])
 (.seq
 (.seq
 (.region false [
 om 123 18,
 oo 124 (.un .not (.tmp 123))] [18,123])
 (.cond (.tmp 124)
 (.seq
 (.region false [
 oo 125 (.build [.lit (.int .i64 0),.lit (.int .u32 0),.lit (.int .i64 0)] []),
 ⟨none,.store 3 (.tmp 8) (.tmp 125),none⟩,
 oo 9 (.mov (.const (.bool false)))] [14,17,124,125])
 .ret)
 .skip))
 (.seq
 (.seq
 (.region false [
 oo 126 (.faddr 1 1 (.tmp 17)),
 oo 127 (.load false 1 (.tmp 126)),
 oo 128 (.bin .eql 37 (.tmp 127) (.const (.int .u32 0)))] [124,126,127])
 (.cond (.tmp 128)
 (.region false [
 oo 129 (.faddr 3 1 (.tmp 14)),
 oo 130 (.load false 1 (.tmp 129)),
 oo 131 (.faddr 1 1 (.tmp 17)),
 ⟨none,.store 1 (.tmp 131) (.tmp 130),none⟩] [128,129,130,131])
 .skip))
 (.seq
 (.region false [
 oo 132 (.faddr 2 1 (.tmp 17)),
 oo 133 (.load false 1 (.tmp 132)),
 oo 134 (.faddr 4 1 (.tmp 14)),
 oo 135 (.load false 1 (.tmp 134)),
 oo 136 (.bin .add 3 (.tmp 133) (.tmp 135)),
 oo 137 (.mnmx false [.tmp 136,.const (.int .i64 65535)]),
 oo 138 (.faddr 2 1 (.tmp 17)),
 ⟨none,.store 1 (.tmp 138) (.tmp 137),none⟩] [14,128,132,133,134,135,136,137,138])
 (.seq
 (.region false [
 oo 139 (.load true 3 (.tmp 17)),
 ⟨none,.store 3 (.tmp 8) (.tmp 139),none⟩,
 oo 9 (.mov (.const (.bool true)))] [17,139])
 .ret))))))))))))
abbrev v_q25 : List RV:= [.cell true 3 8,.tmp 9]
abbrev f_q25 : FuncId:= 28
theorem k_q25 : closedOf Tryz.prog Tryz.f28 = (false,some true,some v_q25,some c_q25.plain,140):= by kernel_rfl
theorem ac_q25 {args : List AV} {r : AV} (h : aw Tryz.prog c_q25 (env0 args) (endQ v_q25 r)) (hargs : args.length ≤ 140:= by decide) (hok : resOK r = true:= by rfl) : AC Tryz.prog f_q25 args r :=
  AC_mk (by kernel_rfl) Tryz.func28 k_q25 hargs hok (by decide) h
def c_q26 : ACode :=
 (.seq
 (.region false [
 oo 4 (.mov (.const (.string ⟨#[]⟩)))] [4])
 (.seq
 (.seq
 (.region false [
 om 5 1,
 oo 6 (.bin .lss 3 (.tmp 5) (.const (.int .i64 10)))] [5])
 (.cond (.tmp 6)
 (.seq
 (.region false [
 om 7 0,
 om 8 1,
 oo 9 (.bin .add 3 (.const (.int .i64 48)) (.tmp 8)),
 oo 10 (.cint .i32 (.tmp 9)),
 oo 11 (.i2s (.tmp 10)),
 oo 12 (.bin .add 9 (.tmp 7) (.tmp 11)),
 om 4 12] [0,1,6,7,8,9,10,11,12])
 .ret)
 .skip))
 (.seq
 (.region false [
 om 13 0,
 om 14 1,
 oo 15 (.bin .quo 3 (.tmp 14) (.const (.int .i64 10))),
 oo 16 (.bin .add 3 (.const (.int .i64 48)) (.tmp 15)),
 oo 17 (.cint .i32 (.tmp 16)),
 oo 18 (.i2s (.tmp 17)),
 oo 19 (.bin .add 9 (.tmp 13) (.tmp 18)),
 om 20 1,
 oo 21 (.bin .rem 3 (.tmp 20) (.const (.int .i64 10))),
 oo 22 (.bin .add 3 (.const (.int .i64 48)) (.tmp 21)),
 oo 23 (.cint .i32 (.tmp 22)),
 oo 24 (.i2s (.tmp 23)),
 oo 25 (.bin .add 9 (.tmp 19) (.tmp 24)),
 om 4 25] [0,1,6,13,14,15,16,17,18,19,20,21,22,23,24,25])
 .ret)))
abbrev v_q26 : List RV:= [.tmp 4]
abbrev f_q26 : FuncId:= 29
theorem k_q26 : closedOf Tryz.prog Tryz.f29 = (false,some true,some v_q26,some c_q26.plain,26):= by kernel_rfl
theorem ac_q26 {args : List AV} {r : AV} (h : aw Tryz.prog c_q26 (env0 args) (endQ v_q26 r)) (hargs : args.length ≤ 26:= by decide) (hok : resOK r = true:= by rfl) : AC Tryz.prog f_q26 args r :=
  AC_mk (by kernel_rfl) Tryz.func29 k_q26 hargs hok (by decide) h
def c_q27 : ACode :=
 (.seq
 (.region false [
 oo 2 (.mov (.const (.slice none 0 0)))] [2])
 (.seq
 (.region false [
 om 5 0,
 oo 6 (.lenl (.tmp 5)),
 oo 7 (.mko 3 16 (.tmp 6)),
 om 3 7] [5,6,7])
 (.seq
 (.seq
 (.region false [
 oo 4 (.mov (.const (.int .i64 0)))] [])
 (.block 0
 (.loop
 (.seq
 (.seq
 (.region false [
 om 8 4,
 om 9 0,
 oo 10 (.lenl (.tmp 9)),
 oo 11 (.bin .lss 3 (.tmp 8) (.tmp 10))] [8,9,10])
 (.cond (.tmp 11)
 .skip
 (.exit 0)))
 (.seq
 (.block 1
 (.region false [
 om 14 3,
 om 15 0,
 om 16 4,
 oo 17 (.iaddr 3 (.tmp 15) (.tmp 16)),
 oo 18 (.load true 3 (.tmp 17)),
 oo 19 (.bslice 1 3 [.tmp 18]),
 oo 20 (.app 3 16 [] (.tmp 14) (.tmp 19)),
 om 3 20] [11,14,15,16,17,18,19,20]) [])
 (.region false [
 om 12 4,
 oo 13 (.bin .add 3 (.tmp 12) (.const (.int .i64 1))),
 om 4 13] [12,13]))) [] []) [0,4,11]))
 (.seq
 (.region false [
 om 21 3,
 om 2 21] [3,21])
 .ret))))
abbrev v_q27 : List RV:= [.tmp 2]
abbrev f_q27 : FuncId:= 30
theorem k_q27 : closedOf Tryz.prog Tryz.f30 = (false,some true,some v_q27,some c_q27.plain,22):= by kernel_rfl
theorem ac_q27 {args : List AV} {r : AV} (h : aw Tryz.prog c_q27 (env0 args) (endQ v_q27 r)) (hargs : args.length ≤ 22:= by decide) (hok : resOK r = true:= by rfl) : AC Tryz.prog f_q27 args r :=
  AC_mk (by kernel_rfl) Tryz.func30 k_q27 hargs hok (by decide) h
def c_q28 : ACode :=
 (.seq
 (.region false [
 oo 2 (.mov (.const (.int .u32 0)))] [2])
 (.seq
 (.region false [
 om 3 0,
 oo 4 (.cint .u32 (.tmp 3)),
 oo 5 (.bin .or 37 (.const (.int .u32 3758161920)) (.tmp 4)),
 om 2 5] [0,3,4,5])
 .ret))
abbrev v_q28 : List RV:= [.tmp 2]
abbrev f_q28 : FuncId:= 31
theorem k_q28 : closedOf Tryz.prog Tryz.f31 = (false,some true,some v_q28,some c_q28.plain,6):= by kernel_rfl
theorem ac_q28 {args : List AV} {r : AV} (h : aw Tryz.prog c_q28 (env0 args) (endQ v_q28 r)) (hargs : args.length ≤ 6:= by decide) (hok : resOK r = true:= by rfl) : AC Tryz.prog f_q28 args r :=
  AC_mk (by kernel_rfl) Tryz.func31 k_q28 hargs hok (by decide) h
def c_q29 : ACode :=
 (.seq
 (.region false [
 oo 4 (.mov (.const (.bool false)))] [4])
 (.seq
 (.region false [
 om 5 0,
 om 6 1,
 oo 7 (.callm 59 [.tmp 5,.tmp 6]),
 oo 8 (.bin .geq 3 (.tmp 7) (.const (.int .i64 0))),
 om 4 8] [0,1,5,6,7,8])
 .ret))
abbrev v_q29 : List RV:= [.tmp 4]
abbrev f_q29 : FuncId:= 32
theorem k_q29 : closedOf Tryz.prog Tryz.f32 = (false,some true,some v_q29,some c_q29.plain,9):= by kernel_rfl
theorem ac_q29 {args : List AV} {r : AV} (h : aw Tryz.prog c_q29 (env0 args) (endQ v_q29 r)) (hargs : args.length ≤ 9:= by decide) (hok : resOK r = true:= by rfl) : AC Tryz.prog f_q29 args r :=
  AC_mk (by kernel_rfl) Tryz.func32 k_q29 hargs hok (by decide) h
def c_q30 : ACode :=
 (.seq
 (.region false [
 oo 6 (.mov (.const (.bool false)))] [6])
 (.seq
 (.region false [
 om 10 0,
 om 11 2,
 oo 12 (.callm 34 [.tmp 10,.tmp 11]),
 om 9 12,
 oo 13 (.ext (.tmp 9) 0),
 oo 14 (.ext (.tmp 9) 1),
 om 7 13,
 om 8 14] [2,9,10,11,12,13,14])
 (.seq
 (.region false [
 om 15 8,
 om 16 15,
 og 17 (.mov (.tmp 0)) 16 true,
 og 18 (.callm 25 [.tmp 17]) 16 true,
 og 19 (.nilchk (.tmp 18)) 16 true,
 og 20 (.faddr 2 1 (.tmp 19)) 16 true,
 og 21 (.load false 1 (.tmp 20)) 16 true,
 og 22 (.mov (.tmp 7)) 16 true,
 og 23 (.iaddr 3 (.tmp 21) (.tmp 22)) 16 true,
 og 24 (.faddr 0 1 (.tmp 23)) 16 true,
 og 25 (.load false 1 (.tmp 24)) 16 true,
 og 26 (.mov (.tmp 1)) 16 true,
 og 27 (.bin .eql 3 (.tmp 25) (.tmp 26)) 16 true,
 oo 28 (.pick (.tmp 16) (.tmp 27) (.const (.bool false))),
 om 6 28] [0,1,7,8,15,16,17,18,19,20,21,22,23,24,25,26,27,28])
 .ret)))
abbrev v_q30 : List RV:= [.tmp 6]
abbrev f_q30 : FuncId:= 33
theorem k_q30 : closedOf Tryz.prog Tryz.f33 = (false,some true,some v_q30,some c_q30.plain,29):= by kernel_rfl
theorem ac_q30 {args : List AV} {r : AV} (h : aw Tryz.prog c_q30 (env0 args) (endQ v_q30 r)) (hargs : args.length ≤ 29:= by decide) (hok : resOK r = true:= by rfl) : AC Tryz.prog f_q30 args r :=
  AC_mk (by kernel_rfl) Tryz.func33 k_q30 hargs hok (by decide) h
def c_q31 : ACode :=
 (.seq
 (.region false [
 oo 4 (.mov (.const (.int .i64 0))),
 oo 5 (.mov (.const (.bool false)))] [4,5])
 (.seq
 (.region false [
 om 9 0,
 oo 10 (.nilchk (.tmp 9)),
 oo 11 (.faddr 9 1 (.tmp 10)),
 oo 12 (.load false 1 (.tmp 11)),
 om 13 1,
 oo 14 (.lkp false (ofVal (.int .i64 0)) true (.tmp 12) (.tmp 13)),
 om 8 14,
 oo 15 (.ext (.tmp 8) 0),
 oo 16 (.ext (.tmp 8) 1),
 om 6 15,
 om 7 16] [0,1,8,9,10,11,12,13,14,15,16])
 (.seq
 (.region false [
 om 17 6,
 om 18 7,
 om 4 17,
 om 5 18] [6,7,17,18])
 .ret)))
abbrev v_q31 : List RV:= [.tmp 4,.tmp 5]
abbrev f_q31 : FuncId:= 34
theorem k_q31 : closedOf Tryz.prog Tryz.f34 = (false,some true,some v_q31,some c_q31.plain,19):= by kernel_rfl
theorem ac_q31 {args : List AV} {r : AV} (h : aw Tryz.prog c_q31 (env0 args) (endQ v_q31 r)) (hargs : args.length ≤ 19:= by decide) (hok : resOK r = true:= by rfl) : AC Tryz.prog f_q31 args r :=
  AC_mk (by kernel_rfl) Tryz.func34 k_q31 hargs hok (by decide) h
def c_q32 : ACode :=
 (.seq
 (.region false [
 oo 2 (.box (.tmp 0)),
 oo 4 (.mov (.const (.slice none 0 0)))] [0,4])
 (.seq
 (.seq
 (.region false [
 om 6 1,
 oo 7 (.bin .lss 3 (.tmp 6) (.const (.int .i64 0))),
 om 8 7,
 og 9 (.mov (.tmp 1)) 8 false,
 og 10 (.load false 1 (.tmp 2)) 8 false,
 og 11 (.nilchk (.tmp 10)) 8 false,
 og 12 (.faddr 0 7 (.tmp 11)) 8 false,
 og 13 (.faddr 2 1 (.tmp 12)) 8 false,
 og 14 (.load false 1 (.tmp 13)) 8 false,
 og 15 (.lenl (.tmp 14)) 8 false,
 og 16 (.bin .geq 3 (.tmp 9) (.tmp 15)) 8 false,
 oo 17 (.pick (.tmp 8) (.const (.bool true)) (.tmp 16))] [6,7,8,9,10,11,12,13,14,15,16])
 (.cond (.tmp 17)
 (.seq
 (.region false [
 oo 4 (.mov (.const (.slice none 0 0)))] [1,2,17])
 .ret)
 .skip))
 (.seq
 (.region false [
 oo 18 (.load false 1 (.tmp 2)),
 oo 19 (.nilchk (.tmp 18)),
 oo 20 (.faddr 0 7 (.tmp 19)),
 oo 21 (.faddr 2 1 (.tmp 20)),
 oo 22 (.load false 1 (.tmp 21)),
 om 23 1,
 oo 24 (.iaddr 3 (.tmp 22) (.tmp 23)),
 oo 25 (.load true 3 (.tmp 24)),
 oo 5 (.alloc [.lit (.int .i64 0),.lit (.int .i64 0),.lit (.int .u32 0)]),
 ⟨none,.store 3 (.tmp 5) (.tmp 25),none⟩] [1,17,18,19,20,21,22,23,24,25])
 (.seq
 (.split [
 oo 26 (.load false 1 (.tmp 2)),
 oo 27 (.faddr 1 1 (.tmp 5)),
 oo 28 (.load false 1 (.tmp 27)),
 oo 29 (.callm 61 [.tmp 26,.tmp 28])] [
 oo 30 (.mkfn (.func 62) [] [.tmp 2,.tmp 5]),
 oo 31 (.callm 60 [.tmp 29,.tmp 30]),
 om 4 31] [2,5,26,27,28,29,30,31])
 .ret))))
abbrev v_q32 : List RV:= [.tmp 4]
abbrev f_q32 : FuncId:= 35
theorem k_q32 : closedOf Tryz.prog Tryz.f35 = (false,some true,some v_q32,some c_q32.plain,32):= by kernel_rfl
theorem ac_q32 {args : List AV} {r : AV} (h : aw Tryz.prog c_q32 (env0 args) (endQ v_q32 r)) (hargs : args.length ≤ 32:= by decide) (hok : resOK r = true:= by rfl) : AC Tryz.prog f_q32 args r :=
  AC_mk (by kernel_rfl) Tryz.func35 k_q32 hargs hok (by decide) h
def c_q33 : ACode :=
 (.seq
 (.region false [
 oo 0 (.alloc [.lit (.int .u32 0),.lit (.int .i64 0)])] [])
 (.seq
 (.region false [
 oo 1 (.build [.lit (.int .u32 0),.lit (.int .i64 0)] [(0,1,.const (.int .u32 3758096384)),(1,1,.const (.int .i64 4))]),
 ⟨none,.store 2 (.tmp 0) (.tmp 1),none⟩] [1])
 .ret))
abbrev v_q33 : List RV:= [.cell true 2 0]
abbrev f_q33 : FuncId:= 36
theorem k_q33 : closedOf Tryz.prog Tryz.f36 = (false,some true,some v_q33,some c_q33.plain,2):= by kernel_rfl
theorem ac_q33 {args : List AV} {r : AV} (h : aw Tryz.prog c_q33 (env0 args) (endQ v_q33 r)) (hargs : args.length ≤ 2:= by decide) (hok : resOK r = true:= by rfl) : AC Tryz.prog f_q33 args r :=
  AC_mk (by kernel_rfl) Tryz.func36 k_q33 hargs hok (by decide) h
def c_q34 : ACode :=
 (.seq
 (.region false [
 oo 2 (.mov (.const (.string ⟨#[]⟩)))] [2])
 (.seq
 (.region false [
 om 3 0,
 oo 4 (.callm 63 [.tmp 3,.const (.int .i64 10)]),
 om 2 4] [0,3,4])
 .ret))
abbrev v_q34 : List RV:= [.tmp 2]
abbrev f_q34 : FuncId:= 37
theorem k_q34 : closedOf Tryz.prog Tryz.f37 = (false,some true,some v_q34,some c_q34.plain,5):= by kernel_rfl
theorem ac_q34 {args : List AV} {r : AV} (h : aw Tryz.prog c_q34 (env0 args) (endQ v_q34 r)) (hargs : args.length ≤ 5:= by decide) (hok : resOK r = true:= by rfl) : AC Tryz.prog f_q34 args r :=
  AC_mk (by kernel_rfl) Tryz.func37 k_q34 hargs hok (by decide) h
def c_q35 : ACode :=
 (.seq
 (.region false [
 oo 2 (.box (.tmp 0)),
 oo 4 (.mov (.const (.nilIface)))] [0,4])
 (.seq
 (.region false [
 oo 7 (.faddr 0 7 (.tmp 2)),
 oo 8 (.faddr 0 1 (.tmp 7)),
 oo 9 (.load false 1 (.tmp 8)),
 om 10 1,
 oo 11 (.iaddr 2 (.tmp 9) (.tmp 10)),
 oo 12 (.load true 2 (.tmp 11)),
 oo 5 (.alloc [.lit (.string ⟨#[]⟩),.lit (.int .i64 0)]),
 ⟨none,.store 2 (.tmp 5) (.tmp 12),none⟩] [7,8,9,10,11,12])
 (.seq
 (.seq
 (.region false [
 oo 13 (.faddr 0 1 (.tmp 5)),
 oo 14 (.load false 1 (.tmp 13)),
 oo 15 (.callm 64 [.tmp 14]),
 om 6 15] [13,14,15])
 (.seq
 (.region false [
 om 16 6,
 oo 17 (.eqn true (.tmp 16))] [16])
 (.cond (.tmp 17)
 (.seq
 (.region false [
 om 18 6,
 om 4 18] [1,2,5,6,17,18])
 .ret)
 .skip)))
 (.seq
 (.block 0
 (.seq
 (.region false [
 oo 20 (.faddr 0 7 (.tmp 2)),
 oo 21 (.faddr 0 1 (.tmp 20)),
 oo 22 (.load false 1 (.tmp 21)),
 om 23 1,
 oo 24 (.slc 2 (.tmp 22) none (some (.tmp 23))),
 oo 25 (.mkfn (.func 66) [] [.tmp 5]),
 oo 26 (.callm 65 [.tmp 24,.tmp 25]),
 om 19 26] [1,2,6,17,20,21,22,23,24,25,26])
 (.cond (.tmp 19)
 (.seq
 (.region false [
 oo 27 (.load false 1 (.global 1)),
 om 4 27] [5,19,27])
 .ret)
 (.seq
 (.region false [
 oo 29 (.faddr 1 1 (.tmp 5)),
 oo 30 (.load false 1 (.tmp 29)),
 oo 31 (.callm 67 [.tmp 30]),
 oo 32 (.un .not (.tmp 31)),
 om 28 32] [5,19,29,30,31,32])
 (.cond (.tmp 28)
 (.seq
 (.region false [
 oo 33 (.load false 1 (.global 2)),
 om 4 33] [28,33])
 .ret)
 .skip)))) [28])
 (.seq
 (.region false [
 oo 4 (.mov (.const (.nilIface)))] [])
 .ret)))))
abbrev v_q35 : List RV:= [.tmp 4]
abbrev f_q35 : FuncId:= 38
theorem k_q35 : closedOf Tryz.prog Tryz.f38 = (false,some true,some v_q35,some c_q35.plain,34):= by kernel_rfl
theorem ac_q35 {args : List AV} {r : AV} (h : aw Tryz.prog c_q35 (env0 args) (endQ v_q35 r)) (hargs : args.length ≤ 34:= by decide) (hok : resOK r = true:= by rfl) : AC Tryz.prog f_q35 args r :=
  AC_mk (by kernel_rfl) Tryz.func38 k_q35 hargs hok (by decide) h
def c_q36 : ACode :=
 (.seq
 (.region false [
 oo 2 (.box (.tmp 0)),
 oo 4 (.mov (.const (.nilIface)))] [0,4])
 (.seq
 (.region false [
 oo 7 (.faddr 0 7 (.tmp 2)),
 oo 8 (.faddr 1 1 (.tmp 7)),
 oo 9 (.load false 1 (.tmp 8)),
 om 10 1,
 oo 11 (.iaddr 3 (.tmp 9) (.tmp 10)),
 oo 12 (.load true 3 (.tmp 11)),
 oo 5 (.alloc [.lit (.string ⟨#[]⟩),.lit (.int .u32 0),.lit (.int .i64 0)]),
 ⟨none,.store 3 (.tmp 5) (.tmp 12),none⟩] [7,8,9,10,11,12])
 (.seq
 (.seq
 (.region false [
 oo 13 (.faddr 0 1 (.tmp 5)),
 oo 14 (.load false 1 (.tmp 13)),
 oo 15 (.callm 64 [.tmp 14]),
 om 6 15] [13,14,15])
 (.seq
 (.region false [
 om 16 6,
 oo 17 (.eqn true (.tmp 16))] [16])
 (.cond (.tmp 17)
 (.seq
 (.region false [
 om 18 6,
 om 4 18] [1,2,5,6,17,18])
 .ret)
 .skip)))
 (.seq
 (.block 0
 (.seq
 (.region false [
 oo 20 (.faddr 0 7 (.tmp 2)),
 oo 21 (.faddr 1 1 (.tmp 20)),
 oo 22 (.load false 1 (.tmp 21)),
 om 23 1,
 oo 24 (.slc 3 (.tmp 22) none (some (.tmp 23))),
 oo 25 (.mkfn (.func 69) [] [.tmp 5]),
 oo 26 (.callm 68 [.tmp 24,.tmp 25]),
 om 19 26] [1,2,6,17,20,21,22,23,24,25,26])
 (.cond (.tmp 19)
 (.seq
 (.region false [
 oo 27 (.load false 1 (.global 1)),
 om 4 27] [5,19,27])
 .ret)
 (.seq
 (.region false [
 oo 29 (.faddr 1 2 (.tmp 5)),
 oo 30 (.load true 2 (.tmp 29)),
 oo 31 (.callm 56 [.tmp 30]),
 oo 32 (.un .not (.tmp 31)),
 om 28 32] [19,29,30,31,32])
 (.cond (.tmp 28)
 (.seq
 (.region false [
 oo 33 (.load false 1 (.global 2)),
 om 4 33] [5,28,33])
 .ret)
 (.seq
 (.region true [
 oo 35 (.faddr 1 2 (.tmp 5)),
 oo 36 (.load true 2 (.tmp 35)),
 oo 37 (.call 71 []),
 oo 38 (.call 70 [.tmp 36,.tmp 37]),
 om 39 38,
 og 40 (.call 71 []) 39 false,
 og 41 (.faddr 1 2 (.tmp 5)) 39 false,
 og 42 (.load true 2 (.tmp 41)) 39 false,
 og 43 (.call 70 [.tmp 40,.tmp 42]) 39 false,
 oo 44 (.pick (.tmp 39) (.const (.bool true)) (.tmp 43)),
 om 34 44] [5,28,35,36,37,38,39,40,41,42,43,44])
 (.cond (.tmp 34)
 (.seq
 (.region false [
 oo 45 (.load false 1 (.global 3)),
 om 4 45] [34,45])
 .ret)
 .skip)))))) [34])
 (.seq
 (.region false [
 oo 4 (.mov (.const (.nilIface)))] [])
 .ret)))))
abbrev v_q36 : List RV:= [.tmp 4]
abbrev f_q36 : FuncId:= 39
theorem k_q36 : closedOf Tryz.prog Tryz.f39 = (false,some true,some v_q36,some c_q36.plain,46):= by kernel_rfl
theorem ac_q36 {args : List AV} {r : AV} (h : aw Tryz.prog c_q36 (env0 args) (endQ v_q36 r)) (hargs : args.length ≤ 46:= by decide) (hok : resOK r = true:= by rfl) : AC Tryz.prog f_q36 args r :=
  AC_mk (by kernel_rfl) Tryz.func39 k_q36 hargs hok (by decide) h
def c_q37 : ACode :=
 (.seq
 (.region false [
 oo 2 (.box (.tmp 0)),
 oo 4 (.mov (.const (.nilIface)))] [0,4])
 (.seq
 (.region false [
 oo 6 (.faddr 0 7 (.tmp 2)),
 oo 7 (.faddr 2 1 (.tmp 6)),
 oo 8 (.load false 1 (.tmp 7)),
 om 9 1,
 oo 10 (.iaddr 3 (.tmp 8) (.tmp 9)),
 oo 11 (.load true 3 (.tmp 10)),
 oo 5 (.alloc [.lit (.int .i64 0),.lit (.int .i64 0),.lit (.int .u32 0)]),
 ⟨none,.store 3 (.tmp 5) (.tmp 11),none⟩] [6,7,8,9,10,11])
 (.seq
 (.block 0
 (.seq
 (.region false [
 oo 13 (.faddr 0 1 (.tmp 5)),
 oo 14 (.load false 1 (.tmp 13)),
 oo 15 (.faddr 0 7 (.tmp 2)),
 oo 16 (.faddr 0 1 (.tmp 15)),
 oo 17 (.load false 1 (.tmp 16)),
 oo 18 (.lenl (.tmp 17)),
 oo 19 (.callm 72 [.tmp 14,.tmp 18]),
 oo 20 (.un .not (.tmp 19)),
 om 21 20,
 og 22 (.faddr 1 1 (.tmp 5)) 21 false,
 og 23 (.load false 1 (.tmp 22)) 21 false,
 og 24 (.faddr 0 7 (.tmp 2)) 21 false,
 og 25 (.faddr 1 1 (.tmp 24)) 21 false,
 og 26 (.load false 1 (.tmp 25)) 21 false,
 og 27 (.lenl (.tmp 26)) 21 false,
 og 28 (.callm 72 [.tmp 23,.tmp 27]) 21 false,
 og 29 (.un .not (.tmp 28)) 21 false,
 oo 30 (.pick (.tmp 21) (.const (.bool true)) (.tmp 29)),
 om 12 30] [13,14,15,16,17,18,19,20,21,22,23,24,25,26,27,28,29,30])
 (.cond (.tmp 12)
 (.seq
 (.region false [
 oo 31 (.load false 1 (.global 4)),
 om 4 31] [1,2,5,12,31])
 .ret)
 (.seq
 (.region false [
 oo 33 (.load true 7 (.tmp 2)),
 oo 34 (.faddr 1 1 (.tmp 5)),
 oo 35 (.load false 1 (.tmp 34)),
 oo 36 (.faddr 2 1 (.tmp 5)),
 oo 37 (.load false 1 (.tmp 36)),
 oo 38 (.callm 73 [.tmp 33,.tmp 35,.tmp 37]),
 oo 39 (.un .not (.tmp 38)),
 om 32 39] [12,33,34,35,36,37,38,39])
 (.cond (.tmp 32)
 (.seq
 (.region false [
 oo 40 (.load false 1 (.global 5)),
 om 4 40] [1,2,5,32,40])
 .ret)
 (.seq
 (.region false [
 oo 42 (.faddr 0 7 (.tmp 2)),
 oo 43 (.faddr 2 1 (.tmp 42)),
 oo 44 (.load false 1 (.tmp 43)),
 om 45 1,
 oo 46 (.slc 3 (.tmp 44) none (some (.tmp 45))),
 oo 47 (.mkfn (.func 75) [] [.tmp 5]),
 oo 48 (.callm 74 [.tmp 46,.tmp 47]),
 om 41 48] [1,2,5,32,42,43,44,45,46,47,48])
 (.cond (.tmp 41)
 (.seq
 (.region false [
 oo 49 (.load false 1 (.global 1)),
 om 4 49] [41,49])
 .ret)
 .skip)))))) [41])
 (.seq
 (.region false [
 oo 4 (.mov (.const (.nilIface)))] [])
 .ret))))
abbrev v_q37 : List RV:= [.tmp 4]
abbrev f_q37 : FuncId:= 40
theorem k_q37 : closedOf Tryz.prog Tryz.f40 = (false,some true,some v_q37,some c_q37.plain,50):= by kernel_rfl
theorem ac_q37 {args : List AV} {r : AV} (h : aw Tryz.prog c_q37 (env0 args) (endQ v_q37 r)) (hargs : args.length ≤ 50:= by decide) (hok : resOK r = true:= by rfl) : AC Tryz.prog f_q37 args r :=
  AC_mk (by kernel_rfl) Tryz.func40 k_q37 hargs hok (by decide) h
def c_q38 : ACode :=
 (.seq
 (.region false [
 oo 2 (.box (.tmp 0)),
 oo 4 (.mov (.const (.nilIface)))] [0,4])
 (.seq
 (.region false [
 oo 6 (.faddr 0 7 (.tmp 2)),
 oo 7 (.faddr 3 1 (.tmp 6)),
 oo 8 (.load false 1 (.tmp 7)),
 om 9 1,
 oo 10 (.iaddr 5 (.tmp 8) (.tmp 9)),
 oo 11 (.load true 5 (.tmp 10)),
 oo 5 (.alloc [.lit (.int .i64 0),.lit (.int .u32 0),.lit (.int .i64 0),.lit (.int .u32 0),.lit (.int .i64 0)]),
 ⟨none,.store 5 (.tmp 5) (.tmp 11),none⟩] [1,6,7,8,9,10,11])
 (.seq
 (.block 0
 (.seq
 (.region false [
 oo 13 (.faddr 0 1 (.tmp 5)),
 oo 14 (.load false 1 (.tmp 13)),
 oo 15 (.faddr 0 7 (.tmp 2)),
 oo 16 (.faddr 0 1 (.tmp 15)),
 oo 17 (.load false 1 (.tmp 16)),
 oo 18 (.lenl (.tmp 17)),
 oo 19 (.callm 72 [.tmp 14,.tmp 18]),
 oo 20 (.un .not (.tmp 19)),
 om 12 20] [2,13,14,15,16,17,18,19,20])
 (.cond (.tmp 12)
 (.seq
 (.region false [
 oo 21 (.load false 1 (.global 4)),
 om 4 21] [5,12,21])
 .ret)
 (.seq
 (.region false [
 oo 23 (.faddr 1 2 (.tmp 5)),
 oo 24 (.load true 2 (.tmp 23)),
 oo 25 (.callm 56 [.tmp 24]),
 oo 26 (.un .not (.tmp 25)),
 om 27 26,
 og 28 (.faddr 4 1 (.tmp 5)) 27 false,
 og 29 (.load false 1 (.tmp 28)) 27 false,
 og 30 (.callm 67 [.tmp 29]) 27 false,
 og 31 (.un .not (.tmp 30)) 27 false,
 oo 32 (.pick (.tmp 27) (.const (.bool true)) (.tmp 31)),
 om 22 32] [12,23,24,25,26,27,28,29,30,31,32])
 (.cond (.tmp 22)
 (.seq
 (.region false [
 oo 33 (.load false 1 (.global 2)),
 om 4 33] [5,22,33])
 .ret)
 (.seq
 (.region false [
 oo 35 (.faddr 3 1 (.tmp 5)),
 oo 36 (.load false 1 (.tmp 35)),
 oo 37 (.callm 76 [.tmp 36]),
 oo 38 (.un .not (.tmp 37)),
 om 34 38] [5,22,35,36,37,38])
 (.cond (.tmp 34)
 (.seq
 (.region false [
 oo 39 (.load false 1 (.global 3)),
 om 4 39] [34,39])
 .ret)
 .skip)))))) [34])
 (.seq
 (.region false [
 oo 4 (.mov (.const (.nilIface)))] [])
 .ret))))
abbrev v_q38 : List RV:= [.tmp 4]
abbrev f_q38 : FuncId:= 41
theorem k_q38 : closedOf Tryz.prog Tryz.f41 = (false,some true,some v_q38,some c_q38.plain,40):= by kernel_rfl
theorem ac_q38 {args : List AV} {r : AV} (h : aw Tryz.prog c_q38 (env0 args) (endQ v_q38 r)) (hargs : args.length ≤ 40:= by decide) (hok : resOK r = true:= by rfl) : AC Tryz.prog f_q38 args r :=
  AC_mk (by kernel_rfl) Tryz.func41 k_q38 hargs hok (by decide) h
def c_q39 : ACode :=
 (.seq
 (.region false [
 oo 2 (.box (.tmp 0)),
 oo 4 (.mov (.const (.nilIface)))] [0,4])
 (.seq
 (.region false [
 oo 6 (.faddr 0 7 (.tmp 2)),
 oo 7 (.faddr 4 1 (.tmp 6)),
 oo 8 (.load false 1 (.tmp 7)),
 om 9 1,
 oo 10 (.iaddr 3 (.tmp 8) (.tmp 9)),
 oo 11 (.load true 3 (.tmp 10)),
 oo 5 (.alloc [.lit (.int .u32 0),.lit (.int .i64 0),.lit (.int .u32 0)]),
 ⟨none,.store 3 (.tmp 5) (.tmp 11),none⟩] [6,7,8,9,10,11])
 (.seq
 (.block 0
 (.seq
 (.region false [
 oo 13 (.faddr 0 2 (.tmp 5)),
 oo 14 (.load true 2 (.tmp 13)),
 oo 15 (.callm 56 [.tmp 14]),
 oo 16 (.un .not (.tmp 15)),
 om 12 16] [13,14,15,16])
 (.cond (.tmp 12)
 (.seq
 (.region false [
 oo 17 (.load false 1 (.global 2)),
 om 4 17] [1,2,5,12,17])
 .ret)
 (.seq
 (.region true [
 oo 19 (.faddr 0 2 (.tmp 5)),
 oo 20 (.load true 2 (.tmp 19)),
 oo 21 (.call 71 []),
 oo 22 (.call 70 [.tmp 20,.tmp 21]),
 oo 23 (.un .not (.tmp 22)),
 om 24 23,
 og 25 (.faddr 2 1 (.tmp 5)) 24 false,
 og 26 (.load false 1 (.tmp 25)) 24 false,
 og 27 (.call 76 [.tmp 26]) 24 false,
 og 28 (.un .not (.tmp 27)) 24 false,
 oo 29 (.pick (.tmp 24) (.const (.bool true)) (.tmp 28)),
 om 18 29] [12,19,20,21,22,23,24,25,26,27,28,29])
 (.cond (.tmp 18)
 (.seq
 (.region false [
 oo 30 (.load false 1 (.global 3)),
 om 4 30] [1,2,5,18,30])
 .ret)
 (.seq
 (.region false [
 oo 32 (.faddr 0 7 (.tmp 2)),
 oo 33 (.faddr 4 1 (.tmp 32)),
 oo 34 (.load false 1 (.tmp 33)),
 om 35 1,
 oo 36 (.slc 3 (.tmp 34) none (some (.tmp 35))),
 oo 37 (.mkfn (.func 78) [] [.tmp 5]),
 oo 38 (.callm 77 [.tmp 36,.tmp 37]),
 om 31 38] [1,2,5,18,32,33,34,35,36,37,38])
 (.cond (.tmp 31)
 (.seq
 (.region false [
 oo 39 (.load false 1 (.global 1)),
 om 4 39] [31,39])
 .ret)
 .skip)))))) [31])
 (.seq
 (.region false [
 oo 4 (.mov (.const (.nilIface)))] [])
 .ret))))
abbrev v_q39 : List RV:= [.tmp 4]
abbrev f_q39 : FuncId:= 42
theorem k_q39 : closedOf Tryz.prog Tryz.f42 = (false,some true,some v_q39,some c_q39.plain,40):= by kernel_rfl
theorem ac_q39 {args : List AV} {r : AV} (h : aw Tryz.prog c_q39 (env0 args) (endQ v_q39 r)) (hargs : args.length ≤ 40:= by decide) (hok : resOK r = true:= by rfl) : AC Tryz.prog f_q39 args r :=
  AC_mk (by kernel_rfl) Tryz.func42 k_q39 hargs hok (by decide) h
def c_q40 : ACode :=
 (.seq
 (.region false [
 oo 2 (.box (.tmp 0)),
 oo 4 (.mov (.const (.nilIface)))] [0,4])
 (.seq
 (.region false [
 oo 6 (.faddr 0 7 (.tmp 2)),
 oo 7 (.faddr 5 1 (.tmp 6)),
 oo 8 (.load false 1 (.tmp 7)),
 om 9 1,
 oo 10 (.iaddr 3 (.tmp 8) (.tmp 9)),
 oo 11 (.load true 3 (.tmp 10)),
 oo 5 (.alloc [.lit (.int .i64 0),.lit (.int .u32 0),.lit (.int .u32 0)]),
 ⟨none,.store 3 (.tmp 5) (.tmp 11),none⟩] [6,7,8,9,10,11])
 (.seq
 (.block 0
 (.seq
 (.region false [
 oo 13 (.faddr 0 1 (.tmp 5)),
 oo 14 (.load false 1 (.tmp 13)),
 oo 15 (.faddr 0 7 (.tmp 2)),
 oo 16 (.faddr 1 1 (.tmp 15)),
 oo 17 (.load false 1 (.tmp 16)),
 oo 18 (.lenl (.tmp 17)),
 oo 19 (.callm 72 [.tmp 14,.tmp 18]),
 oo 20 (.un .not (.tmp 19)),
 om 12 20] [13,14,15,16,17,18,19,20])
 (.cond (.tmp 12)
 (.seq
 (.region false [
 oo 21 (.load false 1 (.global 4)),
 om 4 21] [1,2,5,12,21])
 .ret)
 (.seq
 (.region false [
 oo 23 (.load true 7 (.tmp 2)),
 oo 24 (.faddr 0 1 (.tmp 5)),
 oo 25 (.load false 1 (.tmp 24)),
 oo 26 (.faddr 1 2 (.tmp 5)),
 oo 27 (.faddr 0 1 (.tmp 26)),
 oo 28 (.load false 1 (.tmp 27)),
 oo 29 (.callm 73 [.tmp 23,.tmp 25,.tmp 28]),
 oo 30 (.un .not (.tmp 29)),
 om 22 30] [12,23,24,25,26,27,28,29,30])
 (.cond (.tmp 22)
 (.seq
 (.region false [
 oo 31 (.load false 1 (.global 5)),
 om 4 31] [1,2,5,22,31])
 .ret)
 (.seq
 (.region false [
 oo 33 (.faddr 1 2 (.tmp 5)),
 oo 34 (.faddr 1 1 (.tmp 33)),
 oo 35 (.load false 1 (.tmp 34)),
 oo 36 (.callm 79 [.tmp 35]),
 oo 37 (.un .not (.tmp 36)),
 om 32 37] [22,33,34,35,36,37])
 (.cond (.tmp 32)
 (.seq
 (.region false [
 oo 38 (.load false 1 (.global 3)),
 om 4 38] [1,2,5,32,38])
 .ret)
 (.seq
 (.seq
 (.region false [
 oo 40 (.faddr 0 7 (.tmp 2)),
 oo 41 (.faddr 5 1 (.tmp 40)),
 oo 42 (.load false 1 (.tmp 41)),
 om 43 1,
 oo 44 (.slc 3 (.tmp 42) none (some (.tmp 43))),
 oo 45 (.mkfn (.func 81) [] [.tmp 5]),
 oo 46 (.callm 80 [.tmp 44,.tmp 45]),
 om 39 46] [1,32,40,41,42,43,44,45,46])
 (.cond (.tmp 39)
 .skip
 (.region false [
 oo 47 (.faddr 0 7 (.tmp 2)),
 oo 48 (.faddr 2 1 (.tmp 47)),
 oo 49 (.load false 1 (.tmp 48)),
 oo 50 (.mkfn (.func 82) [] [.tmp 5]),
 oo 51 (.callm 74 [.tmp 49,.tmp 50]),
 om 39 51] [2,5,47,48,49,50,51])))
 (.cond (.tmp 39)
 (.seq
 (.region false [
 oo 52 (.load false 1 (.global 1)),
 om 4 52] [2,5,39,52])
 .ret)
 .skip)))))))) [2,5,39])
 (.seq
 (.region false [
 oo 4 (.mov (.const (.nilIface)))] [])
 .ret))))
abbrev v_q40 : List RV:= [.tmp 4]
abbrev f_q40 : FuncId:= 43
theorem k_q40 : closedOf Tryz.prog Tryz.f43 = (false,some true,some v_q40,some c_q40.plain,53):= by kernel_rfl
theorem ac_q40 {args : List AV} {r : AV} (h : aw Tryz.prog c_q40 (env0 args) (endQ v_q40 r)) (hargs : args.length ≤ 53:= by decide) (hok : resOK r = true:= by rfl) : AC Tryz.prog f_q40 args r :=
  AC_mk (by kernel_rfl) Tryz.func43 k_q40 hargs hok (by decide) h
def c_q41 : ACode :=
 (.seq
 (.region false [
 oo 2 (.box (.tmp 0)),
 oo 4 (.mov (.const (.nilIface)))] [0,4])
 (.seq
 (.region false [
 oo 7 (.faddr 0 7 (.tmp 2)),
 oo 8 (.faddr 6 1 (.tmp 7)),
 oo 9 (.load false 1 (.tmp 8)),
 om 10 1,
 oo 11 (.iaddr 4 (.tmp 9) (.tmp 10)),
 oo 12 (.load true 4 (.tmp 11)),
 oo 5 (.alloc [.lit (.int .i64 0),.lit (.int .u32 0),.lit (.bool false),.sl .nil 0 []]),
 ⟨none,.store 4 (.tmp 5) (.tmp 12),none⟩] [1,7,8,9,10,11,12])
 (.seq
 (.block 0
 (.seq
 (.region false [
 oo 14 (.faddr 0 1 (.tmp 5)),
 oo 15 (.load false 1 (.tmp 14)),
 oo 16 (.faddr 0 7 (.tmp 2)),
 oo 17 (.faddr 1 1 (.tmp 16)),
 oo 18 (.load false 1 (.tmp 17)),
 oo 19 (.lenl (.tmp 18)),
 oo 20 (.callm 72 [.tmp 15,.tmp 19]),
 oo 21 (.un .not (.tmp 20)),
 om 13 21] [2,14,15,16,17,18,19,20,21])
 (.cond (.tmp 13)
 (.seq
 (.region false [
 oo 22 (.load false 1 (.global 4)),
 om 4 22] [5,13,22])
 .ret)
 (.seq
 (.region false [
 oo 24 (.faddr 1 1 (.tmp 5)),
 oo 25 (.load false 1 (.tmp 24)),
 oo 26 (.callm 79 [.tmp 25]),
 oo 27 (.un .not (.tmp 26)),
 om 28 27,
 og 29 (.faddr 3 1 (.tmp 5)) 28 false,
 og 30 (.load false 1 (.tmp 29)) 28 false,
 og 31 (.callm 83 [.tmp 30,.func 84]) 28 false,
 oo 32 (.pick (.tmp 28) (.const (.bool true)) (.tmp 31)),
 om 23 32] [13,24,25,26,27,28,29,30,31,32])
 (.cond (.tmp 23)
 (.seq
 (.region false [
 oo 33 (.load false 1 (.global 3)),
 om 4 33] [5,23,33])
 .ret)
 (.seq
 (.region false [
 oo 35 (.faddr 3 1 (.tmp 5)),
 oo 36 (.load false 1 (.tmp 35)),
 oo 37 (.lenl (.tmp 36)),
 oo 38 (.bin .gtr 3 (.tmp 37) (.const (.int .i64 4))),
 om 34 38] [23,35,36,37,38])
 (.cond (.tmp 34)
 (.seq
 (.region false [
 oo 39 (.load false 1 (.global 0)),
 om 4 39] [5,34,39])
 .ret)
 .skip)))))) [34])
 (.seq
 (.region false [
 oo 40 (.faddr 3 1 (.tmp 5)),
 oo 41 (.load false 1 (.tmp 40)),
 oo 42 (.callm 86 [.tmp 41]),
 oo 43 (.callm 85 [.tmp 42]),
 om 6 43] [40,41,42,43])
 (.seq
 (.seq
 (.shift
 (.region true [
 om 44 6,
 oo 45 (.call 24 [.tmp 44]),
 oo 46 (.lenl (.tmp 45)),
 oo 47 (.faddr 3 1 (.tmp 5)),
 oo 48 (.load false 1 (.tmp 47)),
 oo 49 (.lenl (.tmp 48)),
 oo 50 (.bin .lss 3 (.tmp 46) (.tmp 49))] [5,6,44,45,46,47,48,49]))
 (.cond (.tmp 50)
 (.seq
 (.region false [
 oo 51 (.load false 1 (.global 1)),
 om 4 51] [50,51])
 .ret)
 .skip))
 (.seq
 (.region false [
 oo 4 (.mov (.const (.nilIface)))] [50])
 .ret))))))
abbrev v_q41 : List RV:= [.tmp 4]
abbrev f_q41 : FuncId:= 44
theorem k_q41 : closedOf Tryz.prog Tryz.f44 = (false,some true,some v_q41,some c_q41.plain,52):= by kernel_rfl
theorem ac_q41 {args : List AV} {r : AV} (h : aw Tryz.prog c_q41 (env0 args) (endQ v_q41 r)) (hargs : args.length ≤ 52:= by decide) (hok : resOK r = true:= by rfl) : AC Tryz.prog f_q41 args r :=
  AC_mk (by kernel_rfl) Tryz.func44 k_q41 hargs hok (by decide) h
def c_q42 : ACode :=
 (.seq
 (.region false [
 oo 2 (.mov (.const (.slice none 0 0)))] [2])
 (.seq
 (.seq
 (.region false [
 om 3 0,
 oo 4 (.eqs false (.tmp 3))] [3])
 (.cond (.tmp 4)
 (.seq
 (.region false [
 oo 2 (.mov (.const (.slice none 0 0)))] [0,4])
 .ret)
 .skip))
 (.seq
 (.shift
 (.region false [
 oo 5 (.bsl0 2),
 om 6 0,
 oo 7 (.app 2 24 [] (.tmp 5) (.tmp 6)),
 om 2 7] [0,4,5,6,7]))
 .ret)))
abbrev v_q42 : List RV:= [.tmp 2]
abbrev f_q42 : FuncId:= 45
theorem k_q42 : closedOf Tryz.prog Tryz.f45 = (false,some true,some v_q42,some c_q42.plain,8):= by kernel_rfl
theorem ac_q42 {args : List AV} {r : AV} (h : aw Tryz.prog c_q42 (env0 args) (endQ v_q42 r)) (hargs : args.length ≤ 8:= by decide) (hok : resOK r = true:= by rfl) : AC Tryz.prog f_q42 args r :=
  AC_mk (by kernel_rfl) Tryz.func45 k_q42 hargs hok (by decide) h
def c_q43 : ACode :=
 (.seq
 (.region false [
 oo 2 (.mov (.const (.slice none 0 0)))] [2])
 (.seq
 (.seq
 (.region false [
 om 3 0,
 oo 4 (.eqs false (.tmp 3))] [3])
 (.cond (.tmp 4)
 (.seq
 (.region false [
 oo 2 (.mov (.const (.slice none 0 0)))] [0,4])
 .ret)
 .skip))
 (.seq
 (.shift
 (.region false [
 oo 5 (.bsl0 3),
 om 6 0,
 oo 7 (.app 3 32 [] (.tmp 5) (.tmp 6)),
 om 2 7] [0,4,5,6,7]))
 .ret)))
abbrev v_q43 : List RV:= [.tmp 2]
abbrev f_q43 : FuncId:= 46
theorem k_q43 : closedOf Tryz.prog Tryz.f46 = (false,some true,some v_q43,some c_q43.plain,8):= by kernel_rfl
theorem ac_q43 {args : List AV} {r : AV} (h : aw Tryz.prog c_q43 (env0 args) (endQ v_q43 r)) (hargs : args.length ≤ 8:= by decide) (hok : resOK r = true:= by rfl) : AC Tryz.prog f_q43 args r :=
  AC_mk (by kernel_rfl) Tryz.func46 k_q43 hargs hok (by decide) h
def c_q44 : ACode :=
 (.seq
 (.region false [
 oo 2 (.mov (.const (.slice none 0 0)))] [2])
 (.seq
 (.seq
 (.region false [
 om 3 0,
 oo 4 (.eqs false (.tmp 3))] [3])
 (.cond (.tmp 4)
 (.seq
 (.region false [
 oo 2 (.mov (.const (.slice none 0 0)))] [0,4])
 .ret)
 .skip))
 (.seq
 (.shift
 (.region false [
 oo 5 (.bsl0 3),
 om 6 0,
 oo 7 (.app 3 24 [] (.tmp 5) (.tmp 6)),
 om 2 7] [0,4,5,6,7]))
 .ret)))
abbrev v_q44 : List RV:= [.tmp 2]
abbrev f_q44 : FuncId:= 47
theorem k_q44 : closedOf Tryz.prog Tryz.f47 = (false,some true,some v_q44,some c_q44.plain,8):= by kernel_rfl
theorem ac_q44 {args : List AV} {r : AV} (h : aw Tryz.prog c_q44 (env0 args) (endQ v_q44 r)) (hargs : args.length ≤ 8:= by decide) (hok : resOK r = true:= by rfl) : AC Tryz.prog f_q44 args r :=
  AC_mk (by kernel_rfl) Tryz.func47 k_q44 hargs hok (by decide) h
def c_q45 : ACode :=
 (.seq
 (.region false [
 oo 2 (.mov (.const (.slice none 0 0)))] [2])
 (.seq
 (.seq
 (.region false [
 om 3 0,
 oo 4 (.eqs false (.tmp 3))] [3])
 (.cond (.tmp 4)
 (.seq
 (.region false [
 oo 2 (.mov (.const (.slice none 0 0)))] [0,4])
 .ret)
 .skip))
 (.seq
 (.shift
 (.region false [
 oo 5 (.bsl0 5),
 om 6 0,
 oo 7 (.app 5 40 [] (.tmp 5) (.tmp 6)),
 om 2 7] [0,4,5,6,7]))
 .ret)))
abbrev v_q45 : List RV:= [.tmp 2]
abbrev f_q45 : FuncId:= 48
theorem k_q45 : closedOf Tryz.prog Tryz.f48 = (false,some true,some v_q45,some c_q45.plain,8):= by kernel_rfl
theorem ac_q45 {args : List AV} {r : AV} (h : aw Tryz.prog c_q45 (env0 args) (endQ v_q45 r)) (hargs : args.length ≤ 8:= by decide) (hok : resOK r = true:= by rfl) : AC Tryz.prog f_q45 args r :=
  AC_mk (by kernel_rfl) Tryz.func48 k_q45 hargs hok (by decide) h
def c_q46 : ACode :=
 (.seq
 (.region false [
 oo 2 (.mov (.const (.slice none 0 0)))] [2])
 (.seq
 (.seq
 (.region false [
 om 3 0,
 oo 4 (.eqs false (.tmp 3))] [3])
 (.cond (.tmp 4)
 (.seq
 (.region false [
 oo 2 (.mov (.const (.slice none 0 0)))] [0,4])
 .ret)
 .skip))
 (.seq
 (.shift
 (.region false [
 oo 5 (.bsl0 3),
 om 6 0,
 oo 7 (.app 3 24 [] (.tmp 5) (.tmp 6)),
 om 2 7] [0,4,5,6,7]))
 .ret)))
abbrev v_q46 : List RV:= [.tmp 2]
abbrev f_q46 : FuncId:= 49
theorem k_q46 : closedOf Tryz.prog Tryz.f49 = (false,some true,some v_q46,some c_q46.plain,8):= by kernel_rfl
theorem ac_q46 {args : List AV} {r : AV} (h : aw Tryz.prog c_q46 (env0 args) (endQ v_q46 r)) (hargs : args.length ≤ 8:= by decide) (hok : resOK r = true:= by rfl) : AC Tryz.prog f_q46 args r :=
  AC_mk (by kernel_rfl) Tryz.func49 k_q46 hargs hok (by decide) h
def c_q47 : ACode :=
 (.seq
 (.region false [
 oo 2 (.mov (.const (.slice none 0 0)))] [2])
 (.seq
 (.seq
 (.region false [
 om 3 0,
 oo 4 (.eqs false (.tmp 3))] [3])
 (.cond (.tmp 4)
 (.seq
 (.region false [
 oo 2 (.mov (.const (.slice none 0 0)))] [0,4])
 .ret)
 .skip))
 (.seq
 (.shift
 (.region false [
 oo 5 (.bsl0 3),
 om 6 0,
 oo 7 (.app 3 16 [] (.tmp 5) (.tmp 6)),
 om 2 7] [0,4,5,6,7]))
 .ret)))
abbrev v_q47 : List RV:= [.tmp 2]
abbrev f_q47 : FuncId:= 50
theorem k_q47 : closedOf Tryz.prog Tryz.f50 = (false,some true,some v_q47,some c_q47.plain,8):= by kernel_rfl
theorem ac_q47 {args : List AV} {r : AV} (h : aw Tryz.prog c_q47 (env0 args) (endQ v_q47 r)) (hargs : args.length ≤ 8:= by decide) (hok : resOK r = true:= by rfl) : AC Tryz.prog f_q47 args r :=
  AC_mk (by kernel_rfl) Tryz.func50 k_q47 hargs hok (by decide) h
def c_q48 : ACode :=
 (.seq
 (.region false [
 oo 2 (.mov (.const (.slice none 0 0)))] [2])
 (.seq
 (.seq
 (.region false [
 om 3 0,
 oo 4 (.eqs false (.tmp 3))] [3])
 (.cond (.tmp 4)
 (.seq
 (.region false [
 oo 2 (.mov (.const (.slice none 0 0)))] [0,4])
 .ret)
 .skip))
 (.seq
 (.shift
 (.region false [
 oo 5 (.bsl0 4),
 om 6 0,
 oo 7 (.app 4 40 [] (.tmp 5) (.tmp 6)),
 om 2 7] [0,4,5,6,7]))
 .ret)))
abbrev v_q48 : List RV:= [.tmp 2]
abbrev f_q48 : FuncId:= 51
theorem k_q48 : closedOf Tryz.prog Tryz.f51 = (false,some true,some v_q48,some c_q48.plain,8):= by kernel_rfl
theorem ac_q48 {args : List AV} {r : AV} (h : aw Tryz.prog c_q48 (env0 args) (endQ v_q48 r)) (hargs : args.length ≤ 8:= by decide) (hok : resOK r = true:= by rfl) : AC Tryz.prog f_q48 args r :=
  AC_mk (by kernel_rfl) Tryz.func51 k_q48 hargs hok (by decide) h
def c_q49 : ACode :=
 (.seq
 (.region false [
 oo 2 (.mov (.const (.slice none 0 0)))] [2])
 (.seq
 (.seq
 (.region false [
 om 3 0,
 oo 4 (.eqs false (.tmp 3))] [3])
 (.cond (.tmp 4)
 (.seq
 (.region false [
 oo 2 (.mov (.const (.slice none 0 0)))] [0,4])
 .ret)
 .skip))
 (.seq
 (.shift
 (.region false [
 oo 5 (.bsl0 1),
 om 6 0,
 oo 7 (.app 1 4 [] (.tmp 5) (.tmp 6)),
 om 2 7] [0,4,5,6,7]))
 .ret)))
abbrev v_q49 : List RV:= [.tmp 2]
abbrev f_q49 : FuncId:= 52
theorem k_q49 : closedOf Tryz.prog Tryz.f52 = (false,some true,some v_q49,some c_q49.plain,8):= by kernel_rfl
theorem ac_q49 {args : List AV} {r : AV} (h : aw Tryz.prog c_q49 (env0 args) (endQ v_q49 r)) (hargs : args.length ≤ 8:= by decide) (hok : resOK r = true:= by rfl) : AC Tryz.prog f_q49 args r :=
  AC_mk (by kernel_rfl) Tryz.func52 k_q49 hargs hok (by decide) h
def c_q50 : ACode :=
 (.seq
 (.region false [
 oo 8 (.mov (.const (.bool true)))] [])
 (.seq
 (.region false [
 oo 9 (.mov (.const (.bool true)))] [])
 (.block 0
 (.loop
 (.block 1
 (.seq
 (.region false [
 om 19 2,
 om 20 1,
 oo 21 (.bin .sub 3 (.tmp 19) (.tmp 20)),
 om 10 21] [19,20,21])
 (.seq
 (.seq
 (.region false [
 om 22 10,
 oo 23 (.bin .leq 3 (.tmp 22) (.const (.int .i64 12)))] [22])
 (.cond (.tmp 23)
 (.seq
 (.region false [
 om 24 0,
 om 25 1,
 om 26 2,
 oo 27 (.callm 87 [.tmp 24,.tmp 25,.tmp 26])] [0,1,2,3,8,9,10,23,24,25,26,27])
 .ret)
 .skip))
 (.seq
 (.seq
 (.region false [
 om 28 3,
 oo 29 (.bin .eql 3 (.tmp 28) (.const (.int .i64 0)))] [23,28])
 (.cond (.tmp 29)
 (.seq
 (.region false [
 om 30 0,
 om 31 1,
 om 32 2,
 oo 33 (.callm 88 [.tmp 30,.tmp 31,.tmp 32])] [0,1,2,3,8,9,10,29,30,31,32,33])
 .ret)
 .skip))
 (.seq
 (.seq
 (.region false [
 om 34 8,
 oo 35 (.un .not (.tmp 34))] [29,34])
 (.cond (.tmp 35)
 (.seq
 (.region false [
 om 36 0,
 om 37 1,
 om 38 2,
 oo 39 (.callm 89 [.tmp 36,.tmp 37,.tmp 38])] [35,36,37,38,39])
 (.region false [
 om 40 3,
 oo 41 (.bin .sub 3 (.tmp 40) (.const (.int .i64 1))),
 om 3 41] [40,41]))
 .skip))
 (.seq
 (.region false [
 om 43 0,
 om 44 1,
 om 45 2,
 oo 46 (.callm 90 [.tmp 43,.tmp 44,.tmp 45]),
 om 42 46,
 oo 47 (.ext (.tmp 42) 0),
 oo 48 (.ext (.tmp 42) 1),
 om 11 47,
 om 12 48] [35,42,43,44,45,46,47,48])
 (.seq
 (.seq
 (.region false [
 om 49 12,
 oo 50 (.bin .eql 142 (.tmp 49) (.const (.int .i64 2)))] [49])
 (.cond (.tmp 50)
 (.seq
 (.region false [
 om 51 0,
 om 52 1,
 om 53 2,
 oo 54 (.callm 91 [.tmp 51,.tmp 52,.tmp 53])] [12,50,51,52,53,54])
 (.seq
 (.region false [
 om 55 2,
 oo 56 (.bin .sub 3 (.tmp 55) (.const (.int .i64 1))),
 om 57 11,
 om 58 1,
 oo 59 (.bin .sub 3 (.tmp 57) (.tmp 58)),
 oo 60 (.bin .sub 3 (.tmp 56) (.tmp 59)),
 om 11 60] [55,56,57,58,59,60])
 (.region false [
 oo 12 (.mov (.const (.int .i64 1)))] [])))
 .skip))
 (.seq
 (.seq
 (.region false [
 om 61 8,
 om 62 61,
 og 63 (.mov (.tmp 9)) 62 true,
 oo 64 (.pick (.tmp 62) (.tmp 63) (.const (.bool false))),
 om 65 64,
 og 66 (.mov (.tmp 12)) 65 true,
 og 67 (.bin .eql 142 (.tmp 66) (.const (.int .i64 1))) 65 true,
 oo 68 (.pick (.tmp 65) (.tmp 67) (.const (.bool false)))] [12,50,61,62,63,64,65,66,67])
 (.cond (.tmp 68)
 (.seq
 (.region false [
 om 69 0,
 om 70 1,
 om 71 2,
 oo 72 (.callm 92 [.tmp 69,.tmp 70,.tmp 71])] [68,69,70,71])
 (.cond (.tmp 72)
 .ret
 .skip))
 .skip))
 (.seq
 (.seq
 (.region true [
 om 73 1,
 oo 74 (.bin .gtr 3 (.tmp 73) (.const (.int .i64 0))),
 om 75 74,
 og 76 (.mov (.tmp 0)) 75 true,
 og 77 (.mov (.tmp 1)) 75 true,
 og 78 (.bin .sub 3 (.tmp 77) (.const (.int .i64 1))) 75 true,
 og 79 (.iaddr 1 (.tmp 76) (.tmp 78)) 75 true,
 og 80 (.load false 1 (.tmp 79)) 75 true,
 og 81 (.mov (.tmp 0)) 75 true,
 og 82 (.mov (.tmp 11)) 75 true,
 og 83 (.iaddr 1 (.tmp 81) (.tmp 82)) 75 true,
 og 84 (.load false 1 (.tmp 83)) 75 true,
 og 85 (.call 93 [.tmp 80,.tmp 84]) 75 true,
 og 86 (.un .not (.tmp 85)) 75 true,
 oo 87 (.pick (.tmp 75) (.tmp 86) (.const (.bool false)))] [68,72,73,74,75,76,77,78,79,80,81,82,83,84,85,86])
 (.cond (.tmp 87)
 (.seq
 (.region false [
 om 88 0,
 om 89 1,
 om 90 2,
 om 91 11,
 oo 92 (.callm 94 [.tmp 88,.tmp 89,.tmp 90,.tmp 91]),
 om 13 92] [1,10,11,87,88,89,90,91,92])
 (.seq
 (.region false [
 om 93 13,
 om 1 93] [13,93])
 (.exit 1)))
 .skip))
 (.seq
 (.region false [
 om 95 0,
 om 96 1,
 om 97 2,
 om 98 11,
 oo 99 (.callm 95 [.tmp 95,.tmp 96,.tmp 97,.tmp 98]),
 om 94 99,
 oo 100 (.ext (.tmp 94) 0),
 oo 101 (.ext (.tmp 94) 1),
 om 14 100,
 om 15 101] [8,9,11,87,94,95,96,97,98,99,100,101])
 (.seq
 (.region false [
 om 102 15,
 om 9 102] [15,102])
 (.seq
 (.region false [
 om 103 14,
 om 104 1,
 oo 105 (.bin .sub 3 (.tmp 103) (.tmp 104)),
 om 106 2,
 om 107 14,
 oo 108 (.bin .sub 3 (.tmp 106) (.tmp 107)),
 om 16 105,
 om 17 108] [103,104,105,106,107,108])
 (.seq
 (.region false [
 om 109 10,
 oo 110 (.bin .quo 3 (.tmp 109) (.const (.int .i64 8))),
 om 18 110] [10,109,110])
 (.seq
 (.region false [
 om 111 16,
 om 112 17,
 oo 113 (.bin .lss 3 (.tmp 111) (.tmp 112))] [111,112])
 (.cond (.tmp 113)
 (.seq
 (.region false [
 om 114 16,
 om 115 18,
 oo 116 (.bin .geq 3 (.tmp 114) (.tmp 115)),
 om 8 116] [16,17,18,113,114,115,116])
 (.seq
 (.region false [
 om 117 0,
 om 118 1,
 om 119 14,
 om 120 3,
 oo 121 (.callm 53 [.tmp 117,.tmp 118,.tmp 119,.tmp 120])] [1,117,118,119,120,121])
 (.region false [
 om 122 14,
 oo 123 (.bin .add 3 (.tmp 122) (.const (.int .i64 1))),
 om 1 123] [14,122,123])))
 (.seq
 (.region false [
 om 124 17,
 om 125 18,
 oo 126 (.bin .geq 3 (.tmp 124) (.tmp 125)),
 om 8 126] [16,17,18,113,124,125,126])
 (.seq
 (.region false [
 om 127 0,
 om 128 14,
 oo 129 (.bin .add 3 (.tmp 128) (.const (.int .i64 1))),
 om 130 2,
 om 131 3,
 oo 132 (.callm 53 [.tmp 127,.tmp 129,.tmp 130,.tmp 131])] [2,127,128,129,130,131,132])
 (.region false [
 om 133 14,
 om 2 133] [14,133]))))))))))))))))) []) [] []) [])))
abbrev v_q50 : List RV:= []
abbrev f_q50 : FuncId:= 53
theorem k_q50 : closedOf Tryz.prog Tryz.f53 = (false,some true,some v_q50,some c_q50.plain,134):= by kernel_rfl
theorem ac_q50 {args : List AV} {r : AV} (h : aw Tryz.prog c_q50 (env0 args) (endQ v_q50 r)) (hargs : args.length ≤ 134:= by decide) (hok : resOK r = true:= by rfl) : AC Tryz.prog f_q50 args r :=
  AC_mk (by kernel_rfl) Tryz.func53 k_q50 hargs hok (by decide) h
theorem am_q50 {args : List AV} {c0 c1 : List (Nat × List AV)} {r : AV} (h : aw Tryz.prog c_q50 (env0M args c0) (endM v_q50 r (c0.map (·.1)) c1)) (hc0 : ∀ q ∈ c0,100000 ≤ q.1) (hargs : args.length ≤ 134:= by decide) (hok : resOK r = true:= by rfl) : AM Tryz.prog f_q50 args c0 r c1 :=
  AM_mk (by kernel_rfl) Tryz.func53 k_q50 hargs hok (by decide) hc0 h
def c_q51 : ACode :=
 (.seq
 (.region false [
 oo 2 (.mov (.const (.int .i64 0)))] [2])
 (.seq
 (.cond (.const (.bool false))
 (.seq
 (.region false [
 om 3 0,
 oo 4 (.cint .u32 (.tmp 3)),
 oo 5 (.callm 96 [.tmp 4]),
 om 2 5] [0,3,4,5])
 .ret)
 .skip)
 (.seq
 (.region false [
 om 6 0,
 oo 7 (.callm 97 [.tmp 6]),
 om 2 7] [0,6,7])
 .ret)))
abbrev v_q51 : List RV:= [.tmp 2]
abbrev f_q51 : FuncId:= 54
theorem k_q51 : closedOf Tryz.prog Tryz.f54 = (false,some true,some v_q51,some c_q51.plain,8):= by kernel_rfl
theorem ac_q51 {args : List AV} {r : AV} (h : aw Tryz.prog c_q51 (env0 args) (endQ v_q51 r)) (hargs : args.length ≤ 8:= by decide) (hok : resOK r = true:= by rfl) : AC Tryz.prog f_q51 args r :=
  AC_mk (by kernel_rfl) Tryz.func54 k_q51 hargs hok (by decide) h
def c_q52 : ACode :=
 (.seq
 (.region false [
 oo 4 (.mov (.const (.slice none 0 0)))] [4])
 (.seq
 (.seq
 (.region false [
 om 5 1,
 oo 6 (.bin .lss 3 (.tmp 5) (.const (.int .i64 0))),
 om 7 6,
 og 8 (.mov (.tmp 1)) 7 false,
 og 9 (.mov (.tmp 0)) 7 false,
 og 10 (.lenl (.tmp 9)) 7 false,
 og 11 (.bin .geq 3 (.tmp 8) (.tmp 10)) 7 false,
 oo 12 (.pick (.tmp 7) (.const (.bool true)) (.tmp 11))] [5,6,7,8,9,10,11])
 (.cond (.tmp 12)
 (.seq
 (.region false [
 oo 4 (.mov (.const (.slice none 0 0)))] [0,1,12])
 .ret)
 .skip))
 (.seq
 (.region false [
 om 13 0,
 om 14 1,
 oo 15 (.iaddr 1 (.tmp 13) (.tmp 14)),
 oo 16 (.load false 1 (.tmp 15)),
 oo 17 (.callm 98 [.tmp 16]),
 om 4 17] [0,1,12,13,14,15,16,17])
 .ret)))
abbrev v_q52 : List RV:= [.tmp 4]
abbrev f_q52 : FuncId:= 55
theorem k_q52 : closedOf Tryz.prog Tryz.f55 = (false,some true,some v_q52,some c_q52.plain,18):= by kernel_rfl
theorem ac_q52 {args : List AV} {r : AV} (h : aw Tryz.prog c_q52 (env0 args) (endQ v_q52 r)) (hargs : args.length ≤ 18:= by decide) (hok : resOK r = true:= by rfl) : AC Tryz.prog f_q52 args r :=
  AC_mk (by kernel_rfl) Tryz.func55 k_q52 hargs hok (by decide) h
def c_q53 : ACode :=
 (.seq
 (.region false [
 oo 1 (.box (.tmp 0)),
 oo 2 (.mov (.const (.bool false)))] [0,2])
 (.seq
 (.region true [
 oo 3 (.faddr 1 1 (.tmp 1)),
 oo 4 (.load false 1 (.tmp 3)),
 oo 5 (.bin .geq 3 (.tmp 4) (.const (.int .i64 0))),
 om 6 5,
 og 7 (.faddr 1 1 (.tmp 1)) 6 true,
 og 8 (.load false 1 (.tmp 7)) 6 true,
 og 9 (.bin .leq 3 (.tmp 8) (.const (.int .i64 32))) 6 true,
 oo 10 (.pick (.tmp 6) (.tmp 9) (.const (.bool false))),
 om 11 10,
 og 12 (.faddr 0 1 (.tmp 1)) 11 true,
 og 13 (.load false 1 (.tmp 12)) 11 true,
 og 14 (.faddr 1 1 (.tmp 1)) 11 true,
 og 15 (.load false 1 (.tmp 14)) 11 true,
 og 16 (.call 57 [.tmp 15]) 11 true,
 og 17 (.bin .andNot 37 (.tmp 13) (.tmp 16)) 11 true,
 og 18 (.bin .eql 37 (.tmp 17) (.const (.int .u32 0))) 11 true,
 oo 19 (.pick (.tmp 11) (.tmp 18) (.const (.bool false))),
 om 2 19] [1,3,4,5,6,7,8,9,10,11,12,13,14,15,16,17,18,19])
 .ret))
abbrev v_q53 : List RV:= [.tmp 2]
abbrev f_q53 : FuncId:= 56
theorem k_q53 : closedOf Tryz.prog Tryz.f56 = (false,some true,some v_q53,some c_q53.plain,20):= by kernel_rfl
theorem ac_q53 {args : List AV} {r : AV} (h : aw Tryz.prog c_q53 (env0 args) (endQ v_q53 r)) (hargs : args.length ≤ 20:= by decide) (hok : resOK r = true:= by rfl) : AC Tryz.prog f_q53 args r :=
  AC_mk (by kernel_rfl) Tryz.func56 k_q53 hargs hok (by decide) h
def c_q54 : ACode :=
 (.seq
 (.region false [
 oo 2 (.mov (.const (.int .u32 0)))] [2])
 (.seq
 (.region false [
 om 4 0,
 oo 5 (.mnmx true [.tmp 4,.const (.int .i64 0)]),
 oo 6 (.mnmx false [.tmp 5,.const (.int .i64 32)]),
 om 3 6] [0,4,5,6])
 (.seq
 (.region false [
 om 7 3,
 oo 8 (.bin .shr 37 (.const (.int .u32 4294967295)) (.tmp 7)),
 oo 9 (.un .xor (.tmp 8)),
 om 2 9] [3,7,8,9])
 .ret)))
abbrev v_q54 : List RV:= [.tmp 2]
abbrev f_q54 : FuncId:= 57
theorem k_q54 : closedOf Tryz.prog Tryz.f57 = (false,some true,some v_q54,some c_q54.plain,10):= by kernel_rfl
theorem ac_q54 {args : List AV} {r : AV} (h : aw Tryz.prog c_q54 (env0 args) (endQ v_q54 r)) (hargs : args.length ≤ 10:= by decide) (hok : resOK r = true:= by rfl) : AC Tryz.prog f_q54 args r :=
  AC_mk (by kernel_rfl) Tryz.func57 k_q54 hargs hok (by decide) h
def c_q55 : ACode :=
 (.seq
 (.region false [
 oo 6 (.mov (.const (.slice none 0 0)))] [6])
 (.seq
 (.region false [
 oo 7 (.mov (.const (.int .i64 (-1))))] [])
 (.seq
 (.region false [
 oo 8 (.mov (.const (.slice none 0 0)))] [])
 (.seq
 (.seq
 (.region false [
 om 11 0,
 oo 12 (.callm 25 [.tmp 11]),
 oo 13 (.nilchk (.tmp 12)),
 oo 14 (.faddr 3 1 (.tmp 13)),
 oo 15 (.load false 1 (.tmp 14)),
 oo 16 (.lenl (.tmp 15)),
 oo 17 (.mov (.const (.int .i64 0)))] [0,11,12,13,14])
 (.block 0
 (.loop
 (.seq
 (.region false [
 oo 18 (.bin .lss 3 (.tmp 17) (.tmp 16))] [])
 (.seq
 (.cond (.tmp 18)
 .skip
 (.exit 0))
 (.seq
 (.block 1
 (.seq
 (.region false [
 om 19 17,
 oo 20 (.iaddr 5 (.tmp 15) (.tmp 17)),
 oo 21 (.load true 5 (.tmp 20)),
 oo 10 (.alloc [.lit (.int .i64 0),.lit (.int .u32 0),.lit (.int .i64 0),.lit (.int .u32 0),.lit (.int .i64 0)]),
 om 9 19,
 ⟨none,.store 5 (.tmp 10) (.tmp 21),none⟩] [18,19,20,21])
 (.block 2
 (.seq
 (.region false [
 oo 27 (.faddr 0 1 (.tmp 10)),
 oo 28 (.load false 1 (.tmp 27)),
 om 29 1,
 oo 30 (.bin .neq 3 (.tmp 28) (.tmp 29)),
 om 31 30,
 og 32 (.faddr 1 2 (.tmp 10)) 31 false,
 og 33 (.faddr 1 1 (.tmp 32)) 31 false,
 og 34 (.load false 1 (.tmp 33)) 31 false,
 og 35 (.mov (.tmp 7)) 31 false,
 og 36 (.bin .lss 3 (.tmp 34) (.tmp 35)) 31 false,
 oo 37 (.pick (.tmp 31) (.const (.bool true)) (.tmp 36)),
 om 38 37,
 og 39 (.faddr 1 2 (.tmp 10)) 38 false,
 og 40 (.load true 2 (.tmp 39)) 38 false,
 og 41 (.mov (.tmp 2)) 38 false,
 og 42 (.callm 27 [.tmp 40,.tmp 41]) 38 false,
 og 43 (.un .not (.tmp 42)) 38 false,
 oo 44 (.pick (.tmp 38) (.const (.bool true)) (.tmp 43)),
 om 26 44] [27,28,29,30,31,32,33,34,35,36,37,38,39,40,41,42,43,44])
 (.cond (.tmp 26)
 .skip
 (.seq
 (.region false [
 oo 46 (.faddr 1 2 (.tmp 10)),
 oo 47 (.faddr 1 1 (.tmp 46)),
 oo 48 (.load false 1 (.tmp 47)),
 om 49 7,
 oo 50 (.bin .gtr 3 (.tmp 48) (.tmp 49)),
 om 45 50] [26,46,47,48,49,50])
 (.cond (.tmp 45)
 (.region false [
 oo 51 (.faddr 1 2 (.tmp 10)),
 oo 52 (.faddr 1 1 (.tmp 51)),
 oo 53 (.load false 1 (.tmp 52)),
 om 54 9,
 oo 55 (.bslice 1 1 [.tmp 54]),
 om 7 53,
 om 8 55] [9,10,45,51,52,53,54,55])
 (.region false [
 om 22 8,
 om 23 9,
 oo 24 (.bslice 1 1 [.tmp 23]),
 oo 25 (.app 1 8 [] (.tmp 22) (.tmp 24)),
 om 8 25] [9,10,22,23,24,25,45]))))) [9,10,26])) [])
 (.region false [
 oo 56 (.bin .add 3 (.tmp 17) (.const (.int .i64 1))),
 om 17 56] [56])))) [] [10]) [1,2,7,15,16,17,18]))
 (.seq
 (.shift
 (.region false [
 om 57 8,
 om 6 57] [8,57]))
 .ret)))))
abbrev v_q55 : List RV:= [.tmp 6]
abbrev f_q55 : FuncId:= 58
theorem k_q55 : closedOf Tryz.prog Tryz.f58 = (false,some true,some v_q55,some c_q55.plain,58):= by kernel_rfl
theorem ac_q55 {args : List AV} {r : AV} (h : aw Tryz.prog c_q55 (env0 args) (endQ v_q55 r)) (hargs : args.length ≤ 58:= by decide) (hok : resOK r = true:= by rfl) : AC Tryz.prog f_q55 args r :=
  AC_mk (by kernel_rfl) Tryz.func58 k_q55 hargs hok (by decide) h
def c_q56 : ACode :=
 (.seq
 (.region false [
 oo 4 (.mov (.const (.int .i64 0)))] [4])
 (.seq
 (.seq
 (.region false [
 om 6 0,
 oo 7 (.lenl (.tmp 6)),
 oo 8 (.mov (.const (.int .i64 0)))] [6])
 (.block 0
 (.loop
 (.seq
 (.region false [
 oo 9 (.bin .lss 3 (.tmp 8) (.tmp 7))] [])
 (.seq
 (.cond (.tmp 9)
 .skip
 (.exit 0))
 (.seq
 (.block 1
 (.seq
 (.region false [
 om 10 8,
 om 5 10] [9,10])
 (.seq
 (.region false [
 om 11 1,
 om 12 0,
 om 13 5,
 oo 14 (.iaddr 1 (.tmp 12) (.tmp 13)),
 oo 15 (.load false 1 (.tmp 14)),
 oo 16 (.bin .eql 3 (.tmp 11) (.tmp 15))] [11,12,13,14,15])
 (.cond (.tmp 16)
 (.seq
 (.region false [
 om 17 5,
 om 4 17] [0,1,5,7,8,16,17])
 .ret)
 .skip))) [5,16])
 (.region false [
 oo 18 (.bin .add 3 (.tmp 8) (.const (.int .i64 1))),
 om 8 18] [18])))) [] []) [0,1,7,8,9]))
 (.seq
 (.region false [
 oo 4 (.mov (.const (.int .i64 (-1))))] [])
 .ret)))
abbrev v_q56 : List RV:= [.tmp 4]
abbrev f_q56 : FuncId:= 59
theorem k_q56 : closedOf Tryz.prog Tryz.f59 = (false,some true,some v_q56,some c_q56.plain,19):= by kernel_rfl
theorem ac_q56 {args : List AV} {r : AV} (h : aw Tryz.prog c_q56 (env0 args) (endQ v_q56 r)) (hargs : args.length ≤ 19:= by decide) (hok : resOK r = true:= by rfl) : AC Tryz.prog f_q56 args r :=
  AC_mk (by kernel_rfl) Tryz.func59 k_q56 hargs hok (by decide) h
def c_q57 : ACode :=
 (.seq
 (.region false [
 oo 4 (.mov (.const (.slice none 0 0)))] [4])
 (.seq
 (.region false [
 om 8 0,
 om 9 1,
 oo 10 (.callm 99 [.tmp 8,.tmp 9]),
 om 5 10] [8,9,10])
 (.seq
 (.seq
 (.shift
 (.region false [
 om 11 5,
 oo 12 (.bin .eql 3 (.tmp 11) (.const (.int .i64 (-1))))] [11]))
 (.cond (.tmp 12)
 (.seq
 (.region false [
 om 13 0,
 om 4 13] [0,1,5,12,13])
 .ret)
 .skip))
 (.seq
 (.seq
 (.region false [
 om 14 5,
 oo 15 (.bin .add 3 (.tmp 14) (.const (.int .i64 1))),
 om 6 15] [12,14,15])
 (.block 0
 (.loop
 (.seq
 (.seq
 (.region false [
 om 16 6,
 om 17 0,
 oo 18 (.lenl (.tmp 17)),
 oo 19 (.bin .lss 3 (.tmp 16) (.tmp 18))] [16,17,18])
 (.cond (.tmp 19)
 .skip
 (.exit 0)))
 (.seq
 (.block 1
 (.seq
 (.region false [
 om 22 0,
 om 23 6,
 oo 24 (.iaddr 1 (.tmp 22) (.tmp 23)),
 oo 25 (.load false 1 (.tmp 24)),
 om 7 25] [19,22,23,24,25])
 (.seq
 (.region false [
 om 26 1,
 om 27 7,
 oo 28 (.callvm (.tmp 26) [.tmp 27]),
 oo 29 (.un .not (.tmp 28))] [26,27,28])
 (.cond (.tmp 29)
 (.seq
 (.region false [
 om 30 0,
 om 31 5,
 om 32 7,
 oo 33 (.iaddr 1 (.tmp 30) (.tmp 31)),
 ⟨none,.store 1 (.tmp 33) (.tmp 32),none⟩] [7,29,30,31,32,33])
 (.region false [
 om 34 5,
 oo 35 (.bin .add 3 (.tmp 34) (.const (.int .i64 1))),
 om 5 35] [34,35]))
 .skip))) [7,29])
 (.region false [
 om 20 6,
 oo 21 (.bin .add 3 (.tmp 20) (.const (.int .i64 1))),
 om 6 21] [20,21]))) [] []) [1,6,19]))
 (.seq
 (.region false [
 om 36 0,
 om 37 5,
 oo 38 (.slc 1 (.tmp 36) (some (.tmp 37)) none),
 ⟨none,.clr [.lit (.int .i64 0)] (.tmp 38),none⟩] [36,37,38])
 (.seq
 (.region false [
 om 39 0,
 om 40 5,
 oo 41 (.slc 1 (.tmp 39) none (some (.tmp 40))),
 om 4 41] [0,5,39,40,41])
 .ret))))))
abbrev v_q57 : List RV:= [.tmp 4]
abbrev f_q57 : FuncId:= 60
theorem k_q57 : closedOf Tryz.prog Tryz.f60 = (false,some true,some v_q57,some c_q57.plain,42):= by kernel_rfl
theorem am_q57 {args : List AV} {c0 c1 : List (Nat × List AV)} {r : AV} (h : aw Tryz.prog c_q57 (env0M args c0) (endM v_q57 r (c0.map (·.1)) c1)) (hc0 : ∀ q ∈ c0,100000 ≤ q.1) (hargs : args.length ≤ 42:= by decide) (hok : resOK r = true:= by rfl) : AM Tryz.prog f_q57 args c0 r c1 :=
  AM_mk (by kernel_rfl) Tryz.func60 k_q57 hargs hok (by decide) hc0 h
def c_q58 : ACode :=
 (.seq
 (.region false [
 oo 4 (.mov (.const (.slice none 0 0)))] [4])
 (.seq
 (.region false [
 om 5 0,
 oo 6 (.nilchk (.tmp 5)),
 oo 7 (.faddr 7 1 (.tmp 6)),
 oo 8 (.load false 1 (.tmp 7)),
 om 9 1,
 oo 10 (.callm 55 [.tmp 8,.tmp 9]),
 om 4 10] [0,1,5,6,7,8,9,10])
 .ret))
abbrev v_q58 : List RV:= [.tmp 4]
abbrev f_q58 : FuncId:= 61
theorem k_q58 : closedOf Tryz.prog Tryz.f61 = (false,some true,some v_q58,some c_q58.plain,11):= by kernel_rfl
theorem ac_q58 {args : List AV} {r : AV} (h : aw Tryz.prog c_q58 (env0 args) (endQ v_q58 r)) (hargs : args.length ≤ 11:= by decide) (hok : resOK r = true:= by rfl) : AC Tryz.prog f_q58 args r :=
  AC_mk (by kernel_rfl) Tryz.func61 k_q58 hargs hok (by decide) h
def c_q59 : ACode :=
 (.seq
 (.region false [
 oo 4 (.mov (.const (.bool false)))] [4])
 (.seq
 (.region true [
 oo 5 (.load false 1 (.tmp 1)),
 oo 6 (.nilchk (.tmp 5)),
 oo 7 (.faddr 0 7 (.tmp 6)),
 oo 8 (.faddr 2 1 (.tmp 7)),
 oo 9 (.load false 1 (.tmp 8)),
 om 10 0,
 oo 11 (.iaddr 3 (.tmp 9) (.tmp 10)),
 oo 12 (.faddr 0 1 (.tmp 11)),
 oo 13 (.load false 1 (.tmp 12)),
 oo 14 (.faddr 0 1 (.tmp 2)),
 oo 15 (.load false 1 (.tmp 14)),
 oo 16 (.bin .eql 3 (.tmp 13) (.tmp 15)),
 om 4 16] [0,1,2,5,6,7,8,9,10,11,12,13,14,15,16])
 .ret))
abbrev v_q59 : List RV:= [.tmp 4]
abbrev f_q59 : FuncId:= 62
theorem k_q59 : closedOf Tryz.prog Tryz.f62 = (false,some true,some v_q59,some c_q59.plain,17):= by kernel_rfl
theorem ac_q59 {args : List AV} {r : AV} (h : aw Tryz.prog c_q59 (env0 args) (endQ v_q59 r)) (hargs : args.length ≤ 17:= by decide) (hok : resOK r = true:= by rfl) : AC Tryz.prog f_q59 args r :=
  AC_mk (by kernel_rfl) Tryz.func62 k_q59 hargs hok (by decide) h
def c_q60 : ACode :=
 (.seq
 (.region false [
 oo 4 (.mov (.const (.string ⟨#[]⟩)))] [4])
 (.seq
 (.seq
 (.region false [
 om 10 1,
 oo 11 (.bin .eql 3 (.tmp 10) (.const (.int .i64 10)))] [10])
 (.cond (.tmp 11)
 (.seq
 (.seq
 (.region false [
 om 12 0,
 oo 13 (.bin .leq 2 (.const (.int .i64 0)) (.tmp 12)),
 om 14 13,
 og 15 (.mov (.tmp 0)) 14 true,
 og 16 (.bin .lss 2 (.tmp 15) (.const (.int .i64 100))) 14 true,
 oo 17 (.pick (.tmp 14) (.tmp 16) (.const (.bool false)))] [1,11,12,13,14,15,16])
 (.cond (.tmp 17)
 (.seq
 (.region false [
 om 18 0,
 oo 19 (.callm 100 [.tmp 18]),
 om 4 19] [0,17,18,19])
 .ret)
 .skip))
 (.seq
 (.region false [
 oo 5 (.alloc [.lit (.int .u8 0),.lit (.int .u8 0),.lit (.int .u8 0),.lit (.int .u8 0),.lit (.int .u8 0),.lit (.int .u8 0),.lit (.int .u8 0),.lit (.int .u8 0),.lit (.int .u8 0),.lit (.int .u8 0),.lit (.int .u8 0),.lit (.int .u8 0),.lit (.int .u8 0),.lit (.int .u8 0),.lit (.int .u8 0),.lit (.int .u8 0),.lit (.int .u8 0),.lit (.int .u8 0),.lit (.int .u8 0),.lit (.int .u8 0),.lit (.int .u8 0),.lit (.int .u8 0),.lit (.int .u8 0),.lit (.int .u8 0)])] [17])
 (.seq
 (.region false [
 om 20 0,
 oo 21 (.cint .u64 (.tmp 20)),
 om 6 21] [20,21])
 (.seq
 (.seq
 (.region false [
 om 22 0,
 oo 23 (.bin .lss 2 (.tmp 22) (.const (.int .i64 0)))] [22])
 (.cond (.tmp 23)
 (.region false [
 om 24 6,
 oo 25 (.un .neg (.tmp 24)),
 om 6 25] [23,24,25])
 .skip))
 (.seq
 (.region false [
 om 26 6,
 oo 27 (.callm 101 [.tmp 26]),
 om 7 27] [23,26,27])
 (.seq
 (.region false [
 om 28 7,
 oo 29 (.bin .add 3 (.const (.int .i64 1)) (.tmp 28)),
 oo 30 (.bad),
 om 31 6,
 oo 32 (.callm 102 [.tmp 30,.tmp 31])] [6,28,29,30,31,32])
 (.seq
 (.seq
 (.region false [
 om 33 0,
 oo 34 (.bin .lss 2 (.tmp 33) (.const (.int .i64 0)))] [0,33])
 (.cond (.tmp 34)
 (.seq
 (.region false [
 oo 35 (.iadra 24 1 (.tmp 5) (.const (.int .i64 0))),
 ⟨none,.store 1 (.tmp 35) (.const (.int .u8 45)),none⟩] [34,35])
 (.seq
 (.region false [
 om 36 7,
 oo 37 (.bin .add 3 (.const (.int .i64 1)) (.tmp 36)),
 oo 38 (.bad),
 oo 39 (.b2s (.tmp 38)),
 om 4 39] [5,7,36,37,38,39])
 .ret))
 .skip))
 (.seq
 (.region false [
 om 40 7,
 oo 41 (.bin .add 3 (.const (.int .i64 1)) (.tmp 40)),
 oo 42 (.bad),
 oo 43 (.b2s (.tmp 42)),
 om 4 43] [5,7,34,40,41,42,43])
 .ret))))))))
 .skip))
 (.seq
 (.region false [
 om 45 0,
 oo 46 (.cint .u64 (.tmp 45)),
 om 47 1,
 om 48 0,
 oo 49 (.bin .lss 2 (.tmp 48) (.const (.int .i64 0))),
 oo 50 (.callm 103 [.const (.slice none 0 0),.tmp 46,.tmp 47,.tmp 49,.const (.bool false)]),
 om 44 50,
 oo 51 (.ext (.tmp 44) 0),
 oo 52 (.ext (.tmp 44) 1),
 om 8 51,
 om 9 52] [0,1,8,11,44,45,46,47,48,49,50,51,52])
 (.seq
 (.region false [
 om 53 9,
 om 4 53] [9,53])
 .ret))))
abbrev v_q60 : List RV:= [.tmp 4]
abbrev f_q60 : FuncId:= 63
theorem k_q60 : closedOf Tryz.prog Tryz.f63 = (false,some true,some v_q60,some c_q60.plain,54):= by kernel_rfl
theorem ac_q60 {args : List AV} {r : AV} (h : aw Tryz.prog c_q60 (env0 args) (endQ v_q60 r)) (hargs : args.length ≤ 54:= by decide) (hok : resOK r = true:= by rfl) : AC Tryz.prog f_q60 args r :=
  AC_mk (by kernel_rfl) Tryz.func63 k_q60 hargs hok (by decide) h
def c_q61 : ACode :=
 (.seq
 (.region false [
 oo 2 (.mov (.const (.nilIface)))] [2])
 (.seq
 (.seq
 (.region false [
 om 5 0,
 oo 6 (.lens (.tmp 5)),
 oo 7 (.bin .lss 3 (.tmp 6) (.const (.int .i64 1))),
 om 8 7,
 og 9 (.mov (.tmp 0)) 8 false,
 og 10 (.lens (.tmp 9)) 8 false,
 og 11 (.bin .gtr 3 (.tmp 10) (.const (.int .i64 12))) 8 false,
 oo 12 (.pick (.tmp 8) (.const (.bool true)) (.tmp 11)),
 om 13 12,
 og 14 (.mov (.tmp 0)) 13 false,
 og 15 (.idxs (.tmp 14) (.const (.int .i64 0))) 13 false,
 og 16 (.callm 104 [.tmp 15]) 13 false,
 og 17 (.un .not (.tmp 16)) 13 false,
 oo 18 (.pick (.tmp 13) (.const (.bool true)) (.tmp 17))] [5,6,7,8,9,10,11,12,13,14,15,16,17])
 (.cond (.tmp 18)
 (.seq
 (.region false [
 oo 19 (.load false 1 (.global 6)),
 om 2 19] [0,18,19])
 .ret)
 .skip))
 (.seq
 (.seq
 (.region false [
 om 20 0,
 oo 21 (.lens (.tmp 20)),
 oo 22 (.mov (.const (.int .i64 0)))] [18,20])
 (.block 0
 (.loop
 (.seq
 (.region false [
 oo 23 (.bin .lss 3 (.tmp 22) (.tmp 21))] [])
 (.seq
 (.cond (.tmp 23)
 .skip
 (.exit 0))
 (.seq
 (.block 1
 (.seq
 (.region false [
 om 24 22,
 om 3 24] [23,24])
 (.seq
 (.region false [
 om 25 0,
 om 26 3,
 oo 27 (.idxs (.tmp 25) (.tmp 26)),
 om 4 27] [3,25,26,27])
 (.seq
 (.region false [
 om 28 4,
 oo 29 (.callm 104 [.tmp 28]),
 oo 30 (.un .not (.tmp 29)),
 om 31 30,
 og 32 (.mov (.tmp 4)) 31 true,
 og 33 (.bin .neq 5 (.tmp 32) (.const (.int .u8 45))) 31 true,
 oo 34 (.pick (.tmp 31) (.tmp 33) (.const (.bool false))),
 om 35 34,
 og 36 (.mov (.tmp 4)) 35 true,
 og 37 (.bin .lss 5 (.tmp 36) (.const (.int .u8 48))) 35 true,
 og 38 (.mov (.tmp 37)) 35 true,
 og 39 (.mov (.tmp 4)) 38 false,
 og 40 (.bin .gtr 5 (.tmp 39) (.const (.int .u8 57))) 38 false,
 og 41 (.pick (.tmp 38) (.const (.bool true)) (.tmp 40)) 35 true,
 oo 42 (.pick (.tmp 35) (.tmp 41) (.const (.bool false)))] [4,28,29,30,31,32,33,34,35,36,37,38,39,40,41])
 (.cond (.tmp 42)
 (.seq
 (.region false [
 oo 43 (.load false 1 (.global 6)),
 om 2 43] [0,21,22,42,43])
 .ret)
 .skip)))) [42])
 (.region false [
 oo 44 (.bin .add 3 (.tmp 22) (.const (.int .i64 1))),
 om 22 44] [44])))) [] []) [0,21,22,23]))
 (.seq
 (.region false [
 oo 2 (.mov (.const (.nilIface)))] [])
 .ret))))
abbrev v_q61 : List RV:= [.tmp 2]
abbrev f_q61 : FuncId:= 64
theorem k_q61 : closedOf Tryz.prog Tryz.f64 = (false,some true,some v_q61,some c_q61.plain,45):= by kernel_rfl
theorem ac_q61 {args : List AV} {r : AV} (h : aw Tryz.prog c_q61 (env0 args) (endQ v_q61 r)) (hargs : args.length ≤ 45:= by decide) (hok : resOK r = true:= by rfl) : AC Tryz.prog f_q61 args r :=
  AC_mk (by kernel_rfl) Tryz.func64 k_q61 hargs hok (by decide) h
def c_q62 : ACode :=
 (.seq
 (.region false [
 oo 4 (.mov (.const (.bool false)))] [4])
 (.seq
 (.region false [
 om 5 0,
 om 6 1,
 oo 7 (.callm 105 [.tmp 5,.tmp 6]),
 oo 8 (.bin .geq 3 (.tmp 7) (.const (.int .i64 0))),
 om 4 8] [0,1,5,6,7,8])
 .ret))
abbrev v_q62 : List RV:= [.tmp 4]
abbrev f_q62 : FuncId:= 65
theorem k_q62 : closedOf Tryz.prog Tryz.f65 = (false,some true,some v_q62,some c_q62.plain,9):= by kernel_rfl
theorem ac_q62 {args : List AV} {r : AV} (h : aw Tryz.prog c_q62 (env0 args) (endQ v_q62 r)) (hargs : args.length ≤ 9:= by decide) (hok : resOK r = true:= by rfl) : AC Tryz.prog f_q62 args r :=
  AC_mk (by kernel_rfl) Tryz.func65 k_q62 hargs hok (by decide) h
def c_q63 : ACode :=
 (.seq
 (.region false [
 oo 2 (.box (.tmp 0)),
 oo 3 (.mov (.const (.bool false)))] [0,3])
 (.seq
 (.region false [
 oo 4 (.faddr 0 1 (.tmp 2)),
 oo 5 (.load false 1 (.tmp 4)),
 oo 6 (.faddr 0 1 (.tmp 1)),
 oo 7 (.load false 1 (.tmp 6)),
 oo 8 (.bin .eql 9 (.tmp 5) (.tmp 7)),
 om 3 8] [1,2,4,5,6,7,8])
 .ret))
abbrev v_q63 : List RV:= [.tmp 3]
abbrev f_q63 : FuncId:= 66
theorem k_q63 : closedOf Tryz.prog Tryz.f66 = (false,some true,some v_q63,some c_q63.plain,9):= by kernel_rfl
theorem ac_q63 {args : List AV} {r : AV} (h : aw Tryz.prog c_q63 (env0 args) (endQ v_q63 r)) (hargs : args.length ≤ 9:= by decide) (hok : resOK r = true:= by rfl) : AC Tryz.prog f_q63 args r :=
  AC_mk (by kernel_rfl) Tryz.func66 k_q63 hargs hok (by decide) h
def c_q64 : ACode :=
 (.seq
 (.region false [
 oo 2 (.mov (.const (.bool false)))] [2])
 (.seq
 (.region false [
 om 3 0,
 oo 4 (.bin .geq 3 (.tmp 3) (.const (.int .i64 0))),
 om 5 4,
 og 6 (.mov (.tmp 0)) 5 true,
 og 7 (.bin .leq 3 (.tmp 6) (.const (.int .i64 65535))) 5 true,
 oo 8 (.pick (.tmp 5) (.tmp 7) (.const (.bool false))),
 om 2 8] [0,3,4,5,6,7,8])
 .ret))
abbrev v_q64 : List RV:= [.tmp 2]
abbrev f_q64 : FuncId:= 67
theorem k_q64 : closedOf Tryz.prog Tryz.f67 = (false,some true,some v_q64,some c_q64.plain,9):= by kernel_rfl
theorem ac_q64 {args : List AV} {r : AV} (h : aw Tryz.prog c_q64 (env0 args) (endQ v_q64 r)) (hargs : args.length ≤ 9:= by decide) (hok : resOK r = true:= by rfl) : AC Tryz.prog f_q64 args r :=
  AC_mk (by kernel_rfl) Tryz.func67 k_q64 hargs hok (by decide) h
def c_q65 : ACode :=
 (.seq
 (.region false [
 oo 4 (.mov (.const (.bool false)))] [4])
 (.seq
 (.region false [
 om 5 0,
 om 6 1,
 oo 7 (.callm 106 [.tmp 5,.tmp 6]),
 oo 8 (.bin .geq 3 (.tmp 7) (.const (.int .i64 0))),
 om 4 8] [0,1,5,6,7,8])
 .ret))
abbrev v_q65 : List RV:= [.tmp 4]
abbrev f_q65 : FuncId:= 68
theorem k_q65 : closedOf Tryz.prog Tryz.f68 = (false,some true,some v_q65,some c_q65.plain,9):= by kernel_rfl
theorem ac_q65 {args : List AV} {r : AV} (h : aw Tryz.prog c_q65 (env0 args) (endQ v_q65 r)) (hargs : args.length ≤ 9:= by decide) (hok : resOK r = true:= by rfl) : AC Tryz.prog f_q65 args r :=
  AC_mk (by kernel_rfl) Tryz.func68 k_q65 hargs hok (by decide) h
def c_q66 : ACode :=
 (.seq
 (.region false [
 oo 2 (.box (.tmp 0)),
 oo 3 (.mov (.const (.bool false)))] [0,3])
 (.seq
 (.region false [
 oo 4 (.faddr 0 1 (.tmp 2)),
 oo 5 (.load false 1 (.tmp 4)),
 oo 6 (.faddr 0 1 (.tmp 1)),
 oo 7 (.load false 1 (.tmp 6)),
 oo 8 (.bin .eql 9 (.tmp 5) (.tmp 7)),
 om 3 8] [1,2,4,5,6,7,8])
 .ret))
abbrev v_q66 : List RV:= [.tmp 3]
abbrev f_q66 : FuncId:= 69
theorem k_q66 : closedOf Tryz.prog Tryz.f69 = (false,some true,some v_q66,some c_q66.plain,9):= by kernel_rfl
theorem ac_q66 {args : List AV} {r : AV} (h : aw Tryz.prog c_q66 (env0 args) (endQ v_q66 r)) (hargs : args.length ≤ 9:= by decide) (hok : resOK r = true:= by rfl) : AC Tryz.prog f_q66 args r :=
  AC_mk (by kernel_rfl) Tryz.func69 k_q66 hargs hok (by decide) h
def c_q67 : ACode :=
 (.seq
 (.region false [
 oo 2 (.box (.tmp 0)),
 oo 3 (.box (.tmp 1)),
 oo 4 (.mov (.const (.bool false)))] [0,1,4])
 (.seq
 (.region false [
 oo 5 (.load true 2 (.tmp 2)),
 oo 6 (.callm 56 [.tmp 5]),
 om 7 6,
 og 8 (.faddr 1 1 (.tmp 2)) 7 true,
 og 9 (.load false 1 (.tmp 8)) 7 true,
 og 10 (.faddr 1 1 (.tmp 3)) 7 true,
 og 11 (.load false 1 (.tmp 10)) 7 true,
 og 12 (.bin .geq 3 (.tmp 9) (.tmp 11)) 7 true,
 oo 13 (.pick (.tmp 7) (.tmp 12) (.const (.bool false))),
 om 14 13,
 og 15 (.load true 2 (.tmp 3)) 14 true,
 og 16 (.faddr 0 1 (.tmp 2)) 14 true,
 og 17 (.load false 1 (.tmp 16)) 14 true,
 og 18 (.callm 27 [.tmp 15,.tmp 17]) 14 true,
 oo 19 (.pick (.tmp 14) (.tmp 18) (.const (.bool false))),
 om 4 19] [2,3,5,6,7,8,9,10,11,12,13,14,15,16,17,18,19])
 .ret))
abbrev v_q67 : List RV:= [.tmp 4]
abbrev f_q67 : FuncId:= 70
theorem k_q67 : closedOf Tryz.prog Tryz.f70 = (false,some true,some v_q67,some c_q67.plain,20):= by kernel_rfl
theorem ac_q67 {args : List AV} {r : AV} (h : aw Tryz.prog c_q67 (env0 args) (endQ v_q67 r)) (hargs : args.length ≤ 20:= by decide) (hok : resOK r = true:= by rfl) : AC Tryz.prog f_q67 args r :=
  AC_mk (by kernel_rfl) Tryz.func70 k_q67 hargs hok (by decide) h
def c_q68 : ACode :=
 (.seq
 (.region false [
 oo 0 (.alloc [.lit (.int .u32 0),.lit (.int .i64 0)])] [])
 (.seq
 (.region false [
 oo 1 (.build [.lit (.int .u8 0),.lit (.int .u8 0),.lit (.int .u8 0),.lit (.int .u8 0)] [(0,1,.const (.int .u8 224)),(1,1,.const (.int .u8 0)),(2,1,.const (.int .u8 0)),(3,1,.const (.int .u8 0))]),
 oo 2 (.callm 107 [.tmp 1]),
 oo 3 (.build [.lit (.int .u32 0),.lit (.int .i64 0)] [(0,1,.tmp 2),(1,1,.const (.int .i64 4))]),
 ⟨none,.store 2 (.tmp 0) (.tmp 3),none⟩] [1,2,3])
 .ret))
abbrev v_q68 : List RV:= [.cell true 2 0]
abbrev f_q68 : FuncId:= 71
theorem k_q68 : closedOf Tryz.prog Tryz.f71 = (false,some true,some v_q68,some c_q68.plain,4):= by kernel_rfl
theorem ac_q68 {args : List AV} {r : AV} (h : aw Tryz.prog c_q68 (env0 args) (endQ v_q68 r)) (hargs : args.length ≤ 4:= by decide) (hok : resOK r = true:= by rfl) : AC Tryz.prog f_q68 args r :=
  AC_mk (by kernel_rfl) Tryz.func71 k_q68 hargs hok (by decide) h
def c_q69 : ACode :=
 (.seq
 (.region false [
 oo 4 (.mov (.const (.bool false)))] [4])
 (.seq
 (.region false [
 om 5 0,
 oo 6 (.bin .geq 3 (.tmp 5) (.const (.int .i64 0))),
 om 7 6,
 og 8 (.mov (.tmp 0)) 7 true,
 og 9 (.mov (.tmp 1)) 7 true,
 og 10 (.bin .lss 3 (.tmp 8) (.tmp 9)) 7 true,
 oo 11 (.pick (.tmp 7) (.tmp 10) (.const (.bool false))),
 om 4 11] [0,1,5,6,7,8,9,10,11])
 .ret))
abbrev v_q69 : List RV:= [.tmp 4]
abbrev f_q69 : FuncId:= 72
theorem k_q69 : closedOf Tryz.prog Tryz.f72 = (false,some true,some v_q69,some c_q69.plain,12):= by kernel_rfl
theorem ac_q69 {args : List AV} {r : AV} (h : aw Tryz.prog c_q69 (env0 args) (endQ v_q69 r)) (hargs : args.length ≤ 12:= by decide) (hok : resOK r = true:= by rfl) : AC Tryz.prog f_q69 args r :=
  AC_mk (by kernel_rfl) Tryz.func72 k_q69 hargs hok (by decide) h
def c_q70 : ACode :=
 (.seq
 (.region false [
 oo 3 (.box (.tmp 0)),
 oo 6 (.mov (.const (.bool false)))] [0,6])
 (.seq
 (.region false [
 om 7 2,
 oo 8 (.bin .neq 37 (.tmp 7) (.const (.int .u32 0))),
 om 9 8,
 og 10 (.faddr 0 7 (.tmp 3)) 9 true,
 og 11 (.faddr 1 1 (.tmp 10)) 9 true,
 og 12 (.load false 1 (.tmp 11)) 9 true,
 og 13 (.mov (.tmp 1)) 9 true,
 og 14 (.iaddr 3 (.tmp 12) (.tmp 13)) 9 true,
 og 15 (.faddr 1 2 (.tmp 14)) 9 true,
 og 16 (.load true 2 (.tmp 15)) 9 true,
 og 17 (.mov (.tmp 2)) 9 true,
 og 18 (.callm 27 [.tmp 16,.tmp 17]) 9 true,
 oo 19 (.pick (.tmp 9) (.tmp 18) (.const (.bool false))),
 om 6 19] [1,2,3,7,8,9,10,11,12,13,14,15,16,17,18,19])
 .ret))
abbrev v_q70 : List RV:= [.tmp 6]
abbrev f_q70 : FuncId:= 73
theorem k_q70 : closedOf Tryz.prog Tryz.f73 = (false,some true,some v_q70,some c_q70.plain,20):= by kernel_rfl
theorem ac_q70 {args : List AV} {r : AV} (h : aw Tryz.prog c_q70 (env0 args) (endQ v_q70 r)) (hargs : args.length ≤ 20:= by decide) (hok : resOK r = true:= by rfl) : AC Tryz.prog f_q70 args r :=
  AC_mk (by kernel_rfl) Tryz.func73 k_q70 hargs hok (by decide) h
def c_q71 : ACode :=
 (.seq
 (.region false [
 oo 4 (.mov (.const (.bool false)))] [4])
 (.seq
 (.region false [
 om 5 0,
 om 6 1,
 oo 7 (.callm 108 [.tmp 5,.tmp 6]),
 oo 8 (.bin .geq 3 (.tmp 7) (.const (.int .i64 0))),
 om 4 8] [0,1,5,6,7,8])
 .ret))
abbrev v_q71 : List RV:= [.tmp 4]
abbrev f_q71 : FuncId:= 74
theorem k_q71 : closedOf Tryz.prog Tryz.f74 = (false,some true,some v_q71,some c_q71.plain,9):= by kernel_rfl
theorem ac_q71 {args : List AV} {r : AV} (h : aw Tryz.prog c_q71 (env0 args) (endQ v_q71 r)) (hargs : args.length ≤ 9:= by decide) (hok : resOK r = true:= by rfl) : AC Tryz.prog f_q71 args r :=
  AC_mk (by kernel_rfl) Tryz.func74 k_q71 hargs hok (by decide) h
def c_q72 : ACode :=
 (.seq
 (.region false [
 oo 2 (.box (.tmp 0)),
 oo 3 (.mov (.const (.bool false)))] [0,3])
 (.seq
 (.region false [
 oo 4 (.faddr 2 1 (.tmp 2)),
 oo 5 (.load false 1 (.tmp 4)),
 oo 6 (.faddr 2 1 (.tmp 1)),
 oo 7 (.load false 1 (.tmp 6)),
 oo 8 (.bin .eql 37 (.tmp 5) (.tmp 7)),
 om 9 8,
 og 10 (.faddr 0 1 (.tmp 2)) 9 false,
 og 11 (.load false 1 (.tmp 10)) 9 false,
 og 12 (.faddr 0 1 (.tmp 1)) 9 false,
 og 13 (.load false 1 (.tmp 12)) 9 false,
 og 14 (.bin .eql 3 (.tmp 11) (.tmp 13)) 9 false,
 og 15 (.mov (.tmp 14)) 9 false,
 og 16 (.faddr 1 1 (.tmp 2)) 15 true,
 og 17 (.load false 1 (.tmp 16)) 15 true,
 og 18 (.faddr 1 1 (.tmp 1)) 15 true,
 og 19 (.load false 1 (.tmp 18)) 15 true,
 og 20 (.bin .eql 3 (.tmp 17) (.tmp 19)) 15 true,
 og 21 (.pick (.tmp 15) (.tmp 20) (.const (.bool false))) 9 false,
 oo 22 (.pick (.tmp 9) (.const (.bool true)) (.tmp 21)),
 om 3 22] [1,2,4,5,6,7,8,9,10,11,12,13,14,15,16,17,18,19,20,21,22])
 .ret))
abbrev v_q72 : List RV:= [.tmp 3]
abbrev f_q72 : FuncId:= 75
theorem k_q72 : closedOf Tryz.prog Tryz.f75 = (false,some true,some v_q72,some c_q72.plain,23):= by kernel_rfl
theorem ac_q72 {args : List AV} {r : AV} (h : aw Tryz.prog c_q72 (env0 args) (endQ v_q72 r)) (hargs : args.length ≤ 23:= by decide) (hok : resOK r = true:= by rfl) : AC Tryz.prog f_q72 args r :=
  AC_mk (by kernel_rfl) Tryz.func75 k_q72 hargs hok (by decide) h
def c_q73 : ACode :=
 (.seq
 (.region false [
 oo 2 (.mov (.const (.bool false)))] [2])
 (.seq
 (.region false [
 om 3 0,
 oo 4 (.bin .neq 37 (.tmp 3) (.const (.int .u32 0))),
 om 5 4,
 og 6 (.mov (.tmp 0)) 5 true,
 og 7 (.callm 79 [.tmp 6]) 5 true,
 og 8 (.un .not (.tmp 7)) 5 true,
 oo 9 (.pick (.tmp 5) (.tmp 8) (.const (.bool false))),
 om 2 9] [0,3,4,5,6,7,8,9])
 .ret))
abbrev v_q73 : List RV:= [.tmp 2]
abbrev f_q73 : FuncId:= 76
theorem k_q73 : closedOf Tryz.prog Tryz.f76 = (false,some true,some v_q73,some c_q73.plain,10):= by kernel_rfl
theorem ac_q73 {args : List AV} {r : AV} (h : aw Tryz.prog c_q73 (env0 args) (endQ v_q73 r)) (hargs : args.length ≤ 10:= by decide) (hok : resOK r = true:= by rfl) : AC Tryz.prog f_q73 args r :=
  AC_mk (by kernel_rfl) Tryz.func76 k_q73 hargs hok (by decide) h
def c_q74 : ACode :=
 (.seq
 (.region false [
 oo 4 (.mov (.const (.bool false)))] [4])
 (.seq
 (.region false [
 om 5 0,
 om 6 1,
 oo 7 (.callm 109 [.tmp 5,.tmp 6]),
 oo 8 (.bin .geq 3 (.tmp 7) (.const (.int .i64 0))),
 om 4 8] [0,1,5,6,7,8])
 .ret))
abbrev v_q74 : List RV:= [.tmp 4]
abbrev f_q74 : FuncId:= 77
theorem k_q74 : closedOf Tryz.prog Tryz.f77 = (false,some true,some v_q74,some c_q74.plain,9):= by kernel_rfl
theorem ac_q74 {args : List AV} {r : AV} (h : aw Tryz.prog c_q74 (env0 args) (endQ v_q74 r)) (hargs : args.length ≤ 9:= by decide) (hok : resOK r = true:= by rfl) : AC Tryz.prog f_q74 args r :=
  AC_mk (by kernel_rfl) Tryz.func77 k_q74 hargs hok (by decide) h
def c_q75 : ACode :=
 (.seq
 (.region false [
 oo 2 (.box (.tmp 0)),
 oo 3 (.mov (.const (.bool false)))] [0,3])
 (.seq
 (.region false [
 oo 4 (.faddr 0 2 (.tmp 2)),
 oo 5 (.load true 2 (.tmp 4)),
 oo 6 (.faddr 0 2 (.tmp 1)),
 oo 7 (.load true 2 (.tmp 6)),
 oo 8 (.eqa false [.int,.int] (.tmp 5) (.tmp 7)),
 om 3 8] [1,2,4,5,6,7,8])
 .ret))
abbrev v_q75 : List RV:= [.tmp 3]
abbrev f_q75 : FuncId:= 78
theorem k_q75 : closedOf Tryz.prog Tryz.f78 = (false,some true,some v_q75,some c_q75.plain,9):= by kernel_rfl
theorem ac_q75 {args : List AV} {r : AV} (h : aw Tryz.prog c_q75 (env0 args) (endQ v_q75 r)) (hargs : args.length ≤ 9:= by decide) (hok : resOK r = true:= by rfl) : AC Tryz.prog f_q75 args r :=
  AC_mk (by kernel_rfl) Tryz.func78 k_q75 hargs hok (by decide) h
def c_q76 : ACode :=
 (.seq
 (.region false [
 oo 2 (.mov (.const (.bool false)))] [2])
 (.seq
 (.region false [
 om 4 0,
 oo 5 (.callm 110 [.tmp 4]),
 oo 3 (.alloc [.lit (.int .u8 0),.lit (.int .u8 0),.lit (.int .u8 0),.lit (.int .u8 0)]),
 ⟨none,.store 4 (.tmp 3) (.tmp 5),none⟩] [0,4,5])
 (.seq
 (.region false [
 oo 6 (.iadra 4 1 (.tmp 3) (.const (.int .i64 0))),
 oo 7 (.load false 1 (.tmp 6)),
 oo 8 (.bin .geq 5 (.tmp 7) (.const (.int .u8 224))),
 om 9 8,
 og 10 (.iadra 4 1 (.tmp 3) (.const (.int .i64 0))) 9 true,
 og 11 (.load false 1 (.tmp 10)) 9 true,
 og 12 (.bin .leq 5 (.tmp 11) (.const (.int .u8 239))) 9 true,
 oo 13 (.pick (.tmp 9) (.tmp 12) (.const (.bool false))),
 om 2 13] [3,6,7,8,9,10,11,12,13])
 .ret)))
abbrev v_q76 : List RV:= [.tmp 2]
abbrev f_q76 : FuncId:= 79
theorem k_q76 : closedOf Tryz.prog Tryz.f79 = (false,some true,some v_q76,some c_q76.plain,14):= by kernel_rfl
theorem ac_q76 {args : List AV} {r : AV} (h : aw Tryz.prog c_q76 (env0 args) (endQ v_q76 r)) (hargs : args.length ≤ 14:= by decide) (hok : resOK r = true:= by rfl) : AC Tryz.prog f_q76 args r :=
  AC_mk (by kernel_rfl) Tryz.func79 k_q76 hargs hok (by decide) h
def c_q77 : ACode :=
 (.seq
 (.region false [
 oo 4 (.mov (.const (.bool false)))] [4])
 (.seq
 (.region false [
 om 5 0,
 om 6 1,
 oo 7 (.callm 111 [.tmp 5,.tmp 6]),
 oo 8 (.bin .geq 3 (.tmp 7) (.const (.int .i64 0))),
 om 4 8] [0,1,5,6,7,8])
 .ret))
abbrev v_q77 : List RV:= [.tmp 4]
abbrev f_q77 : FuncId:= 80
theorem k_q77 : closedOf Tryz.prog Tryz.f80 = (false,some true,some v_q77,some c_q77.plain,9):= by kernel_rfl
theorem ac_q77 {args : List AV} {r : AV} (h : aw Tryz.prog c_q77 (env0 args) (endQ v_q77 r)) (hargs : args.length ≤ 9:= by decide) (hok : resOK r = true:= by rfl) : AC Tryz.prog f_q77 args r :=
  AC_mk (by kernel_rfl) Tryz.func80 k_q77 hargs hok (by decide) h
def c_q78 : ACode :=
 (.seq
 (.region false [
 oo 2 (.box (.tmp 0)),
 oo 3 (.mov (.const (.bool false)))] [0,3])
 (.seq
 (.region false [
 oo 4 (.faddr 1 2 (.tmp 2)),
 oo 5 (.load true 2 (.tmp 4)),
 oo 6 (.faddr 1 2 (.tmp 1)),
 oo 7 (.load true 2 (.tmp 6)),
 oo 8 (.eqa false [.int,.int] (.tmp 5) (.tmp 7)),
 om 9 8,
 og 10 (.faddr 1 2 (.tmp 2)) 9 false,
 og 11 (.faddr 0 1 (.tmp 10)) 9 false,
 og 12 (.load false 1 (.tmp 11)) 9 false,
 og 13 (.faddr 1 2 (.tmp 1)) 9 false,
 og 14 (.faddr 0 1 (.tmp 13)) 9 false,
 og 15 (.load false 1 (.tmp 14)) 9 false,
 og 16 (.bin .eql 37 (.tmp 12) (.tmp 15)) 9 false,
 og 17 (.mov (.tmp 16)) 9 false,
 og 18 (.faddr 0 1 (.tmp 2)) 17 true,
 og 19 (.load false 1 (.tmp 18)) 17 true,
 og 20 (.faddr 0 1 (.tmp 1)) 17 true,
 og 21 (.load false 1 (.tmp 20)) 17 true,
 og 22 (.bin .neq 3 (.tmp 19) (.tmp 21)) 17 true,
 og 23 (.pick (.tmp 17) (.tmp 22) (.const (.bool false))) 9 false,
 oo 24 (.pick (.tmp 9) (.const (.bool true)) (.tmp 23)),
 om 3 24] [1,2,4,5,6,7,8,9,10,11,12,13,14,15,16,17,18,19,20,21,22,23,24])
 .ret))
abbrev v_q78 : List RV:= [.tmp 3]
abbrev f_q78 : FuncId:= 81
theorem k_q78 : closedOf Tryz.prog Tryz.f81 = (false,some true,some v_q78,some c_q78.plain,25):= by kernel_rfl
theorem ac_q78 {args : List AV} {r : AV} (h : aw Tryz.prog c_q78 (env0 args) (endQ v_q78 r)) (hargs : args.length ≤ 25:= by decide) (hok : resOK r = true:= by rfl) : AC Tryz.prog f_q78 args r :=
  AC_mk (by kernel_rfl) Tryz.func81 k_q78 hargs hok (by decide) h
def c_q79 : ACode :=
 (.seq
 (.region false [
 oo 2 (.box (.tmp 0)),
 oo 3 (.mov (.const (.bool false)))] [0,3])
 (.seq
 (.region false [
 oo 4 (.faddr 2 1 (.tmp 2)),
 oo 5 (.load false 1 (.tmp 4)),
 oo 6 (.faddr 1 2 (.tmp 1)),
 oo 7 (.faddr 0 1 (.tmp 6)),
 oo 8 (.load false 1 (.tmp 7)),
 oo 9 (.bin .eql 37 (.tmp 5) (.tmp 8)),
 om 3 9] [1,2,4,5,6,7,8,9])
 .ret))
abbrev v_q79 : List RV:= [.tmp 3]
abbrev f_q79 : FuncId:= 82
theorem k_q79 : closedOf Tryz.prog Tryz.f82 = (false,some true,some v_q79,some c_q79.plain,10):= by kernel_rfl
theorem ac_q79 {args : List AV} {r : AV} (h : aw Tryz.prog c_q79 (env0 args) (endQ v_q79 r)) (hargs : args.length ≤ 10:= by decide) (hok : resOK r = true:= by rfl) : AC Tryz.prog f_q79 args r :=
  AC_mk (by kernel_rfl) Tryz.func82 k_q79 hargs hok (by decide) h
def c_q80 : ACode :=
 (.seq
 (.region false [
 oo 4 (.mov (.const (.bool false)))] [4])
 (.seq
 (.region false [
 om 5 0,
 om 6 1,
 oo 7 (.callm 112 [.tmp 5,.tmp 6]),
 oo 8 (.bin .geq 3 (.tmp 7) (.const (.int .i64 0))),
 om 4 8] [0,1,5,6,7,8])
 .ret))
abbrev v_q80 : List RV:= [.tmp 4]
abbrev f_q80 : FuncId:= 83
theorem k_q80 : closedOf Tryz.prog Tryz.f83 = (false,some true,some v_q80,some c_q80.plain,9):= by kernel_rfl
theorem ac_q80 {args : List AV} {r : AV} (h : aw Tryz.prog c_q80 (env0 args) (endQ v_q80 r)) (hargs : args.length ≤ 9:= by decide) (hok : resOK r = true:= by rfl) : AC Tryz.prog f_q80 args r :=
  AC_mk (by kernel_rfl) Tryz.func83 k_q80 hargs hok (by decide) h
def c_q81 : ACode :=
 (.seq
 (.region false [
 oo 2 (.mov (.const (.bool false)))] [2])
 (.seq
 (.region false [
 om 3 0,
 oo 4 (.callm 76 [.tmp 3]),
 oo 5 (.un .not (.tmp 4)),
 om 2 5] [0,3,4,5])
 .ret))
abbrev v_q81 : List RV:= [.tmp 2]
abbrev f_q81 : FuncId:= 84
theorem k_q81 : closedOf Tryz.prog Tryz.f84 = (false,some true,some v_q81,some c_q81.plain,6):= by kernel_rfl
theorem ac_q81 {args : List AV} {r : AV} (h : aw Tryz.prog c_q81 (env0 args) (endQ v_q81 r)) (hargs : args.length ≤ 6:= by decide) (hok : resOK r = true:= by rfl) : AC Tryz.prog f_q81 args r :=
  AC_mk (by kernel_rfl) Tryz.func84 k_q81 hargs hok (by decide) h
def c_q82 : ACode :=
 (.seq
 (.region false [
 oo 2 (.mov (.const (.slice none 0 0)))] [2])
 (.seq
 (.region false [
 om 4 0,
 oo 5 (.callm 113 [.tmp 4]),
 om 3 5] [0,4,5])
 (.seq
 (.shift
 (.region false [
 om 6 3,
 oo 7 (.callm 23 [.tmp 6])] [6,7]))
 (.seq
 (.region false [
 om 8 3,
 om 2 8] [3,8])
 .ret))))
abbrev v_q82 : List RV:= [.tmp 2]
abbrev f_q82 : FuncId:= 85
theorem k_q82 : closedOf Tryz.prog Tryz.f85 = (false,some true,some v_q82,some c_q82.plain,9):= by kernel_rfl
theorem ac_q82 {args : List AV} {r : AV} (h : aw Tryz.prog c_q82 (env0 args) (endQ v_q82 r)) (hargs : args.length ≤ 9:= by decide) (hok : resOK r = true:= by rfl) : AC Tryz.prog f_q82 args r :=
  AC_mk (by kernel_rfl) Tryz.func85 k_q82 hargs hok (by decide) h
def c_q83 : ACode :=
 (.seq
 (.region false [
 oo 1 (.box (.tmp 0)),
 oo 2 (.mov (.const (.nilFunc)))] [0,2])
 (.seq
 (.region false [
 oo 3 (.mkfn (.func 114) [] [.tmp 1]),
 om 2 3] [1,3])
 .ret))
abbrev v_q83 : List RV:= [.tmp 2]
abbrev f_q83 : FuncId:= 86
theorem k_q83 : closedOf Tryz.prog Tryz.f86 = (false,some true,some v_q83,some c_q83.plain,4):= by kernel_rfl
theorem ac_q83 {args : List AV} {r : AV} (h : aw Tryz.prog c_q83 (env0 args) (endQ v_q83 r)) (hargs : args.length ≤ 4:= by decide) (hok : resOK r = true:= by rfl) : AC Tryz.prog f_q83 args r :=
  AC_mk (by kernel_rfl) Tryz.func86 k_q83 hargs hok (by decide) h
def c_q84 : ACode :=
 (.seq
 (.region false [
 om 8 1,
 oo 9 (.bin .add 3 (.tmp 8) (.const (.int .i64 1))),
 om 6 9] [8,9])
 (.block 0
 (.loop
 (.seq
 (.seq
 (.region false [
 om 10 6,
 om 11 2,
 oo 12 (.bin .lss 3 (.tmp 10) (.tmp 11))] [10,11])
 (.cond (.tmp 12)
 .skip
 (.exit 0)))
 (.seq
 (.block 1
 (.seq
 (.region false [
 om 15 6,
 om 7 15] [12,15])
 (.block 2
 (.loop
 (.seq
 (.seq
 (.region true [
 om 16 7,
 om 17 1,
 oo 18 (.bin .gtr 3 (.tmp 16) (.tmp 17)),
 om 19 18,
 og 20 (.mov (.tmp 0)) 19 true,
 og 21 (.mov (.tmp 7)) 19 true,
 og 22 (.iaddr 1 (.tmp 20) (.tmp 21)) 19 true,
 og 23 (.load false 1 (.tmp 22)) 19 true,
 og 24 (.mov (.tmp 0)) 19 true,
 og 25 (.mov (.tmp 7)) 19 true,
 og 26 (.bin .sub 3 (.tmp 25) (.const (.int .i64 1))) 19 true,
 og 27 (.iaddr 1 (.tmp 24) (.tmp 26)) 19 true,
 og 28 (.load false 1 (.tmp 27)) 19 true,
 og 29 (.call 93 [.tmp 23,.tmp 28]) 19 true,
 oo 30 (.pick (.tmp 19) (.tmp 29) (.const (.bool false)))] [16,17,18,19,20,21,22,23,24,25,26,27,28,29])
 (.cond (.tmp 30)
 .skip
 (.exit 2)))
 (.seq
 (.block 3
 (.region true [
 om 33 0,
 om 34 7,
 om 35 0,
 om 36 7,
 oo 37 (.bin .sub 3 (.tmp 36) (.const (.int .i64 1))),
 om 38 0,
 om 39 7,
 oo 40 (.bin .sub 3 (.tmp 39) (.const (.int .i64 1))),
 oo 41 (.iaddr 1 (.tmp 38) (.tmp 40)),
 oo 42 (.load false 1 (.tmp 41)),
 om 43 0,
 om 44 7,
 oo 45 (.iaddr 1 (.tmp 43) (.tmp 44)),
 oo 46 (.load false 1 (.tmp 45)),
 oo 47 (.iaddr 1 (.tmp 33) (.tmp 34)),
 ⟨none,.store 1 (.tmp 47) (.tmp 42),none⟩,
 oo 48 (.iaddr 1 (.tmp 35) (.tmp 37)),
 ⟨none,.store 1 (.tmp 48) (.tmp 46),none⟩] [30,33,34,35,36,37,38,39,40,41,42,43,44,45,46,47,48]) [])
 (.region false [
 om 31 7,
 oo 32 (.bin .sub 3 (.tmp 31) (.const (.int .i64 1))),
 om 7 32] [31,32]))) [] []) [7,30])) [])
 (.region false [
 om 13 6,
 oo 14 (.bin .add 3 (.tmp 13) (.const (.int .i64 1))),
 om 6 14] [13,14]))) [] []) [0,1,2,6,12]))
abbrev v_q84 : List RV:= []
abbrev f_q84 : FuncId:= 87
theorem k_q84 : closedOf Tryz.prog Tryz.f87 = (false,some true,some v_q84,some c_q84.plain,49):= by kernel_rfl
theorem ac_q84 {args : List AV} {r : AV} (h : aw Tryz.prog c_q84 (env0 args) (endQ v_q84 r)) (hargs : args.length ≤ 49:= by decide) (hok : resOK r = true:= by rfl) : AC Tryz.prog f_q84 args r :=
  AC_mk (by kernel_rfl) Tryz.func87 k_q84 hargs hok (by decide) h
theorem am_q84 {args : List AV} {c0 c1 : List (Nat × List AV)} {r : AV} (h : aw Tryz.prog c_q84 (env0M args c0) (endM v_q84 r (c0.map (·.1)) c1)) (hc0 : ∀ q ∈ c0,100000 ≤ q.1) (hargs : args.length ≤ 49:= by decide) (hok : resOK r = true:= by rfl) : AM Tryz.prog f_q84 args c0 r c1 :=
  AM_mk (by kernel_rfl) Tryz.func87 k_q84 hargs hok (by decide) hc0 h
end Go.Proofs.YtjceingdmfogeaaGreatDoor.VL
end

