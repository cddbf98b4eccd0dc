import Derived.Test.YtnndbbmidoidpaaGreatDoorProg
import Derived.Test.YtnndbbmidoidpaaGreatDoorGa7
set_option linter.unusedVariables false
set_option linter.unusedSimpArgs false
section
set_option maxRecDepth 100000
namespace Go.Proofs.YtnndbbmidoidpaaGreatDoor.VL
open Go.Proofs
def om (d s : Nat) : AOper:= ⟨some d,.mov (.tmp s),none⟩
def oo (d : Nat) (x : AOp) : AOper:= ⟨some d,x,none⟩
def og (d : Nat) (x : AOp) (g : Nat) (b : Bool) : AOper:= ⟨some d,x,some (g,b)⟩
@[go_sem] theorem x_om {P : Program} {D : Bool} {d s : Nat} {os : List AOper} {E : Env} {K : Env → Prop} : awX D P (om d s :: os) E K = awX D P (⟨some d,.mov (.tmp s),none⟩ :: os) E K:= rfl
@[go_sem] theorem x_oo {P : Program} {D : Bool} {d : Nat} {x : AOp} {os : List AOper} {E : Env} {K : Env → Prop} : awX D P (oo d x :: os) E K = awX D P (⟨some d,x,none⟩ :: os) E K:= rfl
@[go_sem] theorem x_og {P : Program} {D : Bool} {d g : Nat} {b : Bool} {x : AOp} {os : List AOper} {E : Env} {K : Env → Prop} : awX D P (og d x g b :: os) E K = awX D P (⟨some d,x,some (g,b)⟩ :: os) E K:= rfl
@[go_sem] theorem l_om {d s : Nat} {os : List AOper} : allocs (om d s :: os) = allocs os:= rfl
@[go_sem] theorem l_oo {d : Nat} {x : AOp} {os : List AOper} : allocs (oo d x :: os) = allocs (⟨some d,x,none⟩ :: os):= rfl
@[go_sem] theorem l_og {d g : Nat} {x : AOp} {b : Bool} {os : List AOper} : allocs (og d x g b :: os) = allocs (⟨some d,x,some (g,b)⟩ :: os):= rfl
def c_q0 : ACode :=
 (.seq
 (.region false [
 oo 3 (.box (.tmp 0)),
 oo 6 (.mov (.const (.bool false)))] [0,6])
 (.seq
 (.region false [
 oo 17 (.callm 9 []),
 om 7 17] [17])
 (.seq
 (.seq
 (.region false [
 om 18 7,
 oo 19 (.un .not (.tmp 18))] [7,18])
 (.cond (.tmp 19)
 (.seq
 (.region false [
 oo 6 (.mov (.const (.bool false)))] [1,2,3,19])
 .ret)
 .skip))
 (.seq
 (.seq
 (.region false [
 oo 20 (.load true 7 (.tmp 3)),
 oo 21 (.callm 10 [.tmp 20]),
 oo 22 (.un .not (.tmp 21))] [19,20,21])
 (.cond (.tmp 22)
 (.seq
 (.region false [
 oo 6 (.mov (.const (.bool true)))] [1,2,3,22])
 .ret)
 .skip))
 (.seq
 (.region false [
 oo 24 (.load true 7 (.tmp 3)),
 oo 25 (.callm 11 [.tmp 24]),
 om 23 25,
 oo 26 (.ext (.tmp 23) 0),
 oo 27 (.ext (.tmp 23) 1),
 om 8 26,
 om 9 27] [22,23,24,25,26,27])
 (.seq
 (.region false [
 oo 28 (.load true 7 (.tmp 3)),
 oo 29 (.callm 12 [.tmp 28]),
 om 10 29] [28,29])
 (.seq
 (.seq
 (.region false [
 om 30 9,
 om 31 10,
 oo 32 (.callm 13 [.tmp 30,.tmp 31]),
 oo 33 (.un .not (.tmp 32)),
 om 34 33,
 og 35 (.mov (.tmp 9)) 34 false,
 og 36 (.eqn true (.tmp 35)) 34 false,
 oo 37 (.pick (.tmp 34) (.const (.bool true)) (.tmp 36))] [30,31,32,33,34,35,36])
 (.cond (.tmp 37)
 (.seq
 (.region false [
 om 38 8,
 oo 39 (.eqp false (.tmp 38)),
 om 40 39,
 og 41 (.mov (.tmp 9)) 40 true,
 og 42 (.mov (.tmp 10)) 40 true,
 og 43 (.callm 13 [.tmp 41,.tmp 42]) 40 true,
 oo 44 (.pick (.tmp 40) (.tmp 43) (.const (.bool false))),
 om 6 44] [1,2,3,8,9,10,37,38,39,40,41,42,43,44])
 .ret)
 .skip))
 (.seq
 (.region false [
 om 46 8,
 om 47 2,
 oo 48 (.callm 14 [.tmp 46,.tmp 47]),
 om 45 48,
 oo 49 (.ext (.tmp 45) 0),
 oo 50 (.ext (.tmp 45) 1),
 om 11 49,
 om 12 50] [9,10,37,45,46,47,48,49,50])
 (.seq
 (.region false [
 oo 51 (.load true 7 (.tmp 3)),
 om 52 2,
 oo 53 (.callm 15 [.tmp 51,.tmp 52]),
 om 13 53] [2,51,52,53])
 (.seq
 (.region false [
 oo 14 (.mov (.const (.slice none 0 0)))] [])
 (.seq
 (.seq
 (.region false [
 om 54 1,
 oo 55 (.bin .geq 3 (.tmp 54) (.const (.int .i64 0))),
 om 56 55,
 og 57 (.mov (.tmp 1)) 56 true,
 og 58 (.faddr 2 1 (.tmp 3)) 56 true,
 og 59 (.load false 1 (.tmp 58)) 56 true,
 og 60 (.lenl (.tmp 59)) 56 true,
 og 61 (.bin .lss 3 (.tmp 57) (.tmp 60)) 56 true,
 oo 62 (.pick (.tmp 56) (.tmp 61) (.const (.bool false)))] [54,55,56,57,58,59,60,61])
 (.cond (.tmp 62)
 (.seq
 (.region true [
 oo 63 (.load true 7 (.tmp 3)),
 oo 64 (.faddr 2 1 (.tmp 3)),
 oo 65 (.load false 1 (.tmp 64)),
 om 66 1,
 oo 67 (.iaddr 3 (.tmp 65) (.tmp 66)),
 oo 68 (.faddr 1 1 (.tmp 67)),
 oo 69 (.load false 1 (.tmp 68)),
 oo 70 (.call 16 [.tmp 63,.tmp 69]),
 om 15 70] [62,63,64,65,66,67,68,69,70])
 (.seq
 (.region false [
 oo 16 (.mov (.const (.int .i64 0)))] [])
 (.block 0
 (.loop
 (.seq
 (.seq
 (.region false [
 om 71 16,
 om 72 15,
 oo 73 (.lenl (.tmp 72)),
 oo 74 (.bin .lss 3 (.tmp 71) (.tmp 73))] [71,72,73])
 (.cond (.tmp 74)
 .skip
 (.exit 0)))
 (.seq
 (.block 1
 (.seq
 (.region true [
 oo 77 (.faddr 2 1 (.tmp 3)),
 oo 78 (.load false 1 (.tmp 77)),
 om 79 15,
 om 80 16,
 oo 81 (.iaddr 1 (.tmp 79) (.tmp 80)),
 oo 82 (.load false 1 (.tmp 81)),
 oo 83 (.iaddr 3 (.tmp 78) (.tmp 82)),
 oo 84 (.faddr 0 1 (.tmp 83)),
 oo 85 (.load false 1 (.tmp 84)),
 oo 86 (.faddr 2 1 (.tmp 3)),
 oo 87 (.load false 1 (.tmp 86)),
 om 88 1,
 oo 89 (.iaddr 3 (.tmp 87) (.tmp 88)),
 oo 90 (.faddr 0 1 (.tmp 89)),
 oo 91 (.load false 1 (.tmp 90)),
 oo 92 (.bin .neq 3 (.tmp 85) (.tmp 91))] [74,77,78,79,80,81,82,83,84,85,86,87,88,89,90,91])
 (.cond (.tmp 92)
 (.region false [
 om 93 14,
 om 94 15,
 om 95 16,
 oo 96 (.iaddr 1 (.tmp 94) (.tmp 95)),
 oo 97 (.load false 1 (.tmp 96)),
 oo 98 (.bslice 1 1 [.tmp 97]),
 oo 99 (.app 1 8 [] (.tmp 93) (.tmp 98)),
 om 14 99] [92,93,94,95,96,97,98,99])
 .skip)) [92])
 (.region false [
 om 75 16,
 oo 76 (.bin .add 3 (.tmp 75) (.const (.int .i64 1))),
 om 16 76] [75,76]))) [] []) [15,16,74])))
 .skip))
 (.seq
 (.region true [
 om 100 12,
 om 101 13,
 oo 102 (.bin .geq 3 (.tmp 101) (.const (.int .i64 0))),
 oo 103 (.eqb false 4 (.tmp 100) (.tmp 102)),
 om 104 103,
 og 105 (.mov (.tmp 12)) 104 true,
 og 106 (.un .not (.tmp 105)) 104 true,
 og 107 (.mov (.tmp 106)) 104 true,
 og 108 (.mov (.tmp 11)) 107 false,
 og 109 (.mov (.tmp 13)) 107 false,
 og 110 (.bin .eql 3 (.tmp 108) (.tmp 109)) 107 false,
 og 111 (.pick (.tmp 107) (.const (.bool true)) (.tmp 110)) 104 true,
 oo 112 (.pick (.tmp 104) (.tmp 111) (.const (.bool false))),
 om 113 112,
 og 114 (.mov (.tmp 8)) 113 true,
 og 115 (.mov (.tmp 1)) 113 true,
 og 116 (.call 18 [.tmp 114,.tmp 115]) 113 true,
 og 117 (.load true 7 (.tmp 3)) 113 true,
 og 118 (.mov (.tmp 1)) 113 true,
 og 119 (.call 16 [.tmp 117,.tmp 118]) 113 true,
 og 120 (.call 17 [.tmp 116,.tmp 119]) 113 true,
 oo 121 (.pick (.tmp 113) (.tmp 120) (.const (.bool false))),
 om 122 121,
 og 123 (.mov (.tmp 8)) 122 true,
 og 124 (.mov (.tmp 1)) 122 true,
 og 125 (.call 19 [.tmp 123,.tmp 124]) 122 true,
 og 126 (.load true 7 (.tmp 3)) 122 true,
 og 127 (.mov (.tmp 1)) 122 true,
 og 128 (.call 20 [.tmp 126,.tmp 127]) 122 true,
 og 129 (.call 17 [.tmp 125,.tmp 128]) 122 true,
 oo 130 (.pick (.tmp 122) (.tmp 129) (.const (.bool false))),
 om 131 130,
 og 132 (.mov (.tmp 8)) 131 true,
 og 133 (.mov (.tmp 1)) 131 true,
 og 134 (.call 21 [.tmp 132,.tmp 133]) 131 true,
 og 135 (.mov (.tmp 14)) 131 true,
 og 136 (.call 17 [.tmp 134,.tmp 135]) 131 true,
 oo 137 (.pick (.tmp 131) (.tmp 136) (.const (.bool false))),
 om 138 137,
 og 139 (.mov (.tmp 8)) 138 true,
 og 140 (.mov (.tmp 1)) 138 true,
 og 141 (.call 22 [.tmp 139,.tmp 140]) 138 true,
 og 142 (.load true 7 (.tmp 3)) 138 true,
 og 143 (.mov (.tmp 1)) 138 true,
 og 144 (.call 23 [.tmp 142,.tmp 143]) 138 true,
 og 145 (.call 17 [.tmp 141,.tmp 144]) 138 true,
 oo 146 (.pick (.tmp 138) (.tmp 145) (.const (.bool false))),
 om 147 146,
 og 148 (.mov (.tmp 8)) 147 true,
 og 149 (.call 25 [.tmp 148]) 147 true,
 og 150 (.load true 7 (.tmp 3)) 147 true,
 og 151 (.call 26 [.tmp 150]) 147 true,
 og 152 (.call 24 [.tmp 149,.tmp 151]) 147 true,
 oo 153 (.pick (.tmp 147) (.tmp 152) (.const (.bool false))),
 om 154 153,
 og 155 (.mov (.tmp 8)) 154 true,
 og 156 (.call 28 [.tmp 155]) 154 true,
 og 157 (.load true 7 (.tmp 3)) 154 true,
 og 158 (.call 27 [.tmp 156,.tmp 157]) 154 true,
 oo 159 (.pick (.tmp 154) (.tmp 158) (.const (.bool false))),
 om 6 159] [1,3,8,11,12,13,14,62,100,101,102,103,104,105,106,107,108,109,110,111,112,113,114,115,116,117,118,119,120,121,122,123,124,125,126,127,128,129,130,131,132,133,134,135,136,137,138,139,140,141,142,143,144,145,146,147,148,149,150,151,152,153,154,155,156,157,158,159])
 .ret))))))))))))
abbrev v_q0 : List RV:= [.tmp 6]
abbrev f_q0 : FuncId:= 3
theorem k_q0 : closedOf Tryz.prog Tryz.f3 = (false,some true,some v_q0,some c_q0.plain,160):= by kernel_rfl
theorem ac_q0 {args : List AV} {r : AV} (h : aw Tryz.prog c_q0 (env0 args) (endQ v_q0 r)) (hargs : args.length ≤ 160:= by decide) (hok : resOK r = true:= by rfl) : AC Tryz.prog f_q0 args r :=
  AC_mk (by kernel_rfl) Tryz.func3 k_q0 hargs hok (by decide) h
def c_q6 : ACode :=
 (.seq
 (.region false [
 oo 0 (.mov (.const (.bool false)))] [0])
 (.seq
 (.region false [
 oo 4 (.build [.sl .nil 0 [],.sl .nil 0 [],.sl .nil 0 [],.sl .nil 0 [],.sl .nil 0 [],.sl .nil 0 [],.sl .nil 0 []] []),
 oo 5 (.callm 11 [.tmp 4]),
 om 3 5,
 oo 6 (.ext (.tmp 3) 0),
 oo 7 (.ext (.tmp 3) 1),
 om 1 6,
 om 2 7] [3,4,5,6,7])
 (.seq
 (.region false [
 om 8 1,
 oo 9 (.eqp true (.tmp 8)),
 om 10 9,
 og 11 (.mov (.tmp 2)) 10 true,
 og 12 (.eqn false (.tmp 11)) 10 true,
 oo 13 (.pick (.tmp 10) (.tmp 12) (.const (.bool false))),
 om 14 13,
 og 15 (.mov (.tmp 1)) 14 true,
 og 16 (.callm 25 [.tmp 15]) 14 true,
 og 17 (.lenl (.tmp 16)) 14 true,
 og 18 (.bin .eql 3 (.tmp 17) (.const (.int .i64 0))) 14 true,
 oo 19 (.pick (.tmp 14) (.tmp 18) (.const (.bool false))),
 om 0 19] [1,2,8,9,10,11,12,13,14,15,16,17,18,19])
 .ret)))
abbrev v_q6 : List RV:= [.tmp 0]
abbrev f_q6 : FuncId:= 9
theorem k_q6 : closedOf Tryz.prog Tryz.f9 = (false,some true,some v_q6,some c_q6.plain,20):= by kernel_rfl
theorem ac_q6 {args : List AV} {r : AV} (h : aw Tryz.prog c_q6 (env0 args) (endQ v_q6 r)) (hargs : args.length ≤ 20:= by decide) (hok : resOK r = true:= by rfl) : AC Tryz.prog f_q6 args r :=
  AC_mk (by kernel_rfl) Tryz.func9 k_q6 hargs hok (by decide) h
def c_q7 : ACode :=
 (.seq
 (.region false [
 oo 1 (.box (.tmp 0)),
 oo 2 (.mov (.const (.bool false)))] [0,2])
 (.seq
 (.region false [
 oo 3 (.faddr 0 1 (.tmp 1)),
 oo 4 (.load false 1 (.tmp 3)),
 oo 5 (.lenl (.tmp 4)),
 oo 6 (.bin .leq 3 (.tmp 5) (.const (.int .i64 20))),
 om 7 6,
 og 8 (.faddr 1 1 (.tmp 1)) 7 true,
 og 9 (.load false 1 (.tmp 8)) 7 true,
 og 10 (.lenl (.tmp 9)) 7 true,
 og 11 (.bin .leq 3 (.tmp 10) (.const (.int .i64 30))) 7 true,
 oo 12 (.pick (.tmp 7) (.tmp 11) (.const (.bool false))),
 om 13 12,
 og 14 (.faddr 2 1 (.tmp 1)) 13 true,
 og 15 (.load false 1 (.tmp 14)) 13 true,
 og 16 (.lenl (.tmp 15)) 13 true,
 og 17 (.bin .leq 3 (.tmp 16) (.const (.int .i64 70))) 13 true,
 oo 18 (.pick (.tmp 13) (.tmp 17) (.const (.bool false))),
 om 19 18,
 og 20 (.faddr 3 1 (.tmp 1)) 19 true,
 og 21 (.load false 1 (.tmp 20)) 19 true,
 og 22 (.lenl (.tmp 21)) 19 true,
 og 23 (.bin .leq 3 (.tmp 22) (.const (.int .i64 100))) 19 true,
 oo 24 (.pick (.tmp 19) (.tmp 23) (.const (.bool false))),
 om 25 24,
 og 26 (.faddr 4 1 (.tmp 1)) 25 true,
 og 27 (.load false 1 (.tmp 26)) 25 true,
 og 28 (.lenl (.tmp 27)) 25 true,
 og 29 (.bin .leq 3 (.tmp 28) (.const (.int .i64 10))) 25 true,
 oo 30 (.pick (.tmp 25) (.tmp 29) (.const (.bool false))),
 om 31 30,
 og 32 (.faddr 5 1 (.tmp 1)) 31 true,
 og 33 (.load false 1 (.tmp 32)) 31 true,
 og 34 (.lenl (.tmp 33)) 31 true,
 og 35 (.bin .leq 3 (.tmp 34) (.const (.int .i64 10))) 31 true,
 oo 36 (.pick (.tmp 31) (.tmp 35) (.const (.bool false))),
 om 37 36,
 og 38 (.faddr 6 1 (.tmp 1)) 37 true,
 og 39 (.load false 1 (.tmp 38)) 37 true,
 og 40 (.lenl (.tmp 39)) 37 true,
 og 41 (.bin .leq 3 (.tmp 40) (.const (.int .i64 26))) 37 true,
 oo 42 (.pick (.tmp 37) (.tmp 41) (.const (.bool false))),
 om 2 42] [1,3,4,5,6,7,8,9,10,11,12,13,14,15,16,17,18,19,20,21,22,23,24,25,26,27,28,29,30,31,32,33,34,35,36,37,38,39,40,41,42])
 .ret))
abbrev v_q7 : List RV:= [.tmp 2]
abbrev f_q7 : FuncId:= 10
theorem k_q7 : closedOf Tryz.prog Tryz.f10 = (false,some true,some v_q7,some c_q7.plain,43):= by kernel_rfl
theorem ac_q7 {args : List AV} {r : AV} (h : aw Tryz.prog c_q7 (env0 args) (endQ v_q7 r)) (hargs : args.length ≤ 43:= by decide) (hok : resOK r = true:= by rfl) : AC Tryz.prog f_q7 args r :=
  AC_mk (by kernel_rfl) Tryz.func10 k_q7 hargs hok (by decide) h
def c_q8 : ACode :=
 (.seq
 (.region false [
 oo 1 (.box (.tmp 0)),
 oo 2 (.mov (.const (.pointer none))),
 oo 3 (.mov (.const (.nilIface)))] [0,2,3])
 (.seq
 (.seq
 (.region false [
 oo 12 (.load true 7 (.tmp 1)),
 oo 13 (.callm 38 [.tmp 12]),
 om 4 13] [12,13])
 (.seq
 (.region false [
 om 14 4,
 oo 15 (.eqn true (.tmp 14))] [14])
 (.cond (.tmp 15)
 (.seq
 (.region false [
 om 16 4,
 oo 2 (.mov (.const (.pointer none))),
 om 3 16] [1,4,15,16])
 .ret)
 .skip)))
 (.seq
 (.region true [
 oo 17 (.load true 7 (.tmp 1)),
 oo 18 (.call 44 [.tmp 17]),
 oo 19 (.faddr 1 1 (.tmp 1)),
 oo 20 (.load false 1 (.tmp 19)),
 oo 21 (.lenl (.tmp 20)),
 oo 22 (.mkf false 1 24 [.sl .nil 0 []] (.tmp 21) (.tmp 21)),
 oo 23 (.faddr 0 1 (.tmp 1)),
 oo 24 (.load false 1 (.tmp 23)),
 oo 25 (.lenl (.tmp 24)),
 oo 26 (.mkf false 1 24 [.sl .nil 0 []] (.tmp 25) (.tmp 25)),
 oo 27 (.mkm),
 oo 28 (.faddr 1 1 (.tmp 1)),
 oo 29 (.load false 1 (.tmp 28)),
 oo 30 (.lenl (.tmp 29)),
 oo 31 (.mkf false 1 24 [.sl .nil 0 []] (.tmp 30) (.tmp 30)),
 oo 32 (.build [.sl .nil 0 [],.sl .nil 0 [],.sl .nil 0 [],.sl .nil 0 [],.sl .nil 0 [],.sl .nil 0 [],.sl .nil 0 [],.sl .nil 0 [],.sl .nil 0 [],.lit (.map none),.sl .nil 0 [],.sl .nil 0 []] [(0,7,.tmp 18),(7,1,.tmp 22),(8,1,.tmp 26),(9,1,.tmp 27),(10,1,.tmp 31)]),
 oo 33 (.box (.tmp 32)),
 om 5 33] [4,15,17,18,19,20,21,22,23,24,25,26,27,28,29,30,31,32,33])
 (.seq
 (.seq
 (.shift
 (.region false [
 oo 34 (.faddr 2 1 (.tmp 1)),
 oo 35 (.load false 1 (.tmp 34)),
 oo 36 (.lenl (.tmp 35)),
 oo 37 (.mov (.const (.int .i64 0)))] [34]))
 (.block 0
 (.loop
 (.seq
 (.region false [
 oo 38 (.bin .lss 3 (.tmp 37) (.tmp 36))] [])
 (.seq
 (.cond (.tmp 38)
 .skip
 (.exit 0))
 (.seq
 (.block 1
 (.seq
 (.region false [
 om 39 37,
 oo 40 (.iaddr 3 (.tmp 35) (.tmp 37)),
 oo 41 (.load true 3 (.tmp 40)),
 oo 7 (.alloc [.lit (.int .i64 0),.lit (.int .i64 0),.lit (.int .u32 0)]),
 om 6 39,
 ⟨none,.store 3 (.tmp 7) (.tmp 41),none⟩] [38,39,40,41])
 (.seq
 (.region true [
 om 42 5,
 oo 43 (.nilchk (.tmp 42)),
 oo 44 (.faddr 7 1 (.tmp 43)),
 oo 45 (.loadc false 1 (.tmp 44)),
 oo 46 (.faddr 1 1 (.tmp 7)),
 oo 47 (.loadc false 1 (.tmp 46)),
 om 48 5,
 oo 49 (.nilchk (.tmp 48)),
 oo 50 (.faddr 7 1 (.tmp 49)),
 oo 51 (.loadc false 1 (.tmp 50)),
 oo 52 (.faddr 1 1 (.tmp 7)),
 oo 53 (.loadc false 1 (.tmp 52)),
 oo 54 (.iaddr 1 (.tmp 51) (.tmp 53)),
 oo 55 (.loadc false 1 (.tmp 54)),
 om 56 6,
 oo 57 (.bslice 1 1 [.tmp 56]),
 oo 58 (.app 1 8 [] (.tmp 55) (.tmp 57)),
 oo 59 (.iaddr 1 (.tmp 45) (.tmp 47)),
 ⟨none,.store 1 (.tmp 59) (.tmp 58),none⟩] [42,43,44,45,46,47,48,49,50,51,52,53,54,55,56,57,58,59])
 (.seq
 (.region true [
 om 60 5,
 oo 61 (.nilchk (.tmp 60)),
 oo 62 (.faddr 8 1 (.tmp 61)),
 oo 63 (.loadc false 1 (.tmp 62)),
 oo 64 (.faddr 0 1 (.tmp 7)),
 oo 65 (.loadc false 1 (.tmp 64)),
 om 66 5,
 oo 67 (.nilchk (.tmp 66)),
 oo 68 (.faddr 8 1 (.tmp 67)),
 oo 69 (.loadc false 1 (.tmp 68)),
 oo 70 (.faddr 0 1 (.tmp 7)),
 oo 71 (.loadc false 1 (.tmp 70)),
 oo 72 (.iaddr 1 (.tmp 69) (.tmp 71)),
 oo 73 (.loadc false 1 (.tmp 72)),
 om 74 6,
 oo 75 (.bslice 1 1 [.tmp 74]),
 oo 76 (.app 1 8 [] (.tmp 73) (.tmp 75)),
 oo 77 (.iaddr 1 (.tmp 63) (.tmp 65)),
 ⟨none,.store 1 (.tmp 77) (.tmp 76),none⟩] [60,61,62,63,64,65,66,67,68,69,70,71,72,73,74,75,76,77])
 (.region true [
 om 78 5,
 oo 79 (.nilchk (.tmp 78)),
 oo 80 (.faddr 9 1 (.tmp 79)),
 oo 81 (.load false 1 (.tmp 80)),
 oo 82 (.faddr 2 1 (.tmp 7)),
 oo 83 (.load false 1 (.tmp 82)),
 om 84 6,
 ⟨none,.mup false (.tmp 81) (.tmp 83) (.tmp 84),none⟩] [6,7,78,79,80,81,82,83,84])))) [])
 (.shift
 (.region false [
 oo 85 (.bin .add 3 (.tmp 37) (.const (.int .i64 1))),
 om 37 85] [85]))))) [] [7]) [35,36,37,38]))
 (.seq
 (.seq
 (.shift
 (.region false [
 oo 86 (.faddr 6 1 (.tmp 1)),
 oo 87 (.load false 1 (.tmp 86)),
 oo 88 (.lenl (.tmp 87)),
 oo 89 (.mov (.const (.int .i64 0)))] [86]))
 (.block 2
 (.loop
 (.seq
 (.region false [
 oo 90 (.bin .lss 3 (.tmp 89) (.tmp 88))] [])
 (.seq
 (.cond (.tmp 90)
 .skip
 (.exit 2))
 (.seq
 (.block 3
 (.seq
 (.region false [
 om 91 89,
 oo 92 (.iaddr 4 (.tmp 87) (.tmp 89)),
 oo 93 (.load true 4 (.tmp 92)),
 oo 9 (.alloc [.lit (.int .i64 0),.lit (.int .u32 0),.lit (.bool false),.sl .nil 0 []]),
 om 8 91,
 ⟨none,.store 4 (.tmp 9) (.tmp 93),none⟩] [90,91,92,93])
 (.seq
 (.region true [
 om 94 5,
 oo 95 (.nilchk (.tmp 94)),
 oo 96 (.faddr 10 1 (.tmp 95)),
 oo 97 (.loadc false 1 (.tmp 96)),
 oo 98 (.faddr 0 1 (.tmp 9)),
 oo 99 (.loadc false 1 (.tmp 98)),
 om 100 5,
 oo 101 (.nilchk (.tmp 100)),
 oo 102 (.faddr 10 1 (.tmp 101)),
 oo 103 (.loadc false 1 (.tmp 102)),
 oo 104 (.faddr 0 1 (.tmp 9)),
 oo 105 (.loadc false 1 (.tmp 104)),
 oo 106 (.iaddr 1 (.tmp 103) (.tmp 105)),
 oo 107 (.loadc false 1 (.tmp 106)),
 om 108 8,
 oo 109 (.bslice 1 1 [.tmp 108]),
 oo 110 (.app 1 8 [] (.tmp 107) (.tmp 109)),
 oo 111 (.iaddr 1 (.tmp 97) (.tmp 99)),
 ⟨none,.store 1 (.tmp 111) (.tmp 110),none⟩] [8,94,95,96,97,98,99,100,101,102,103,104,105,106,107,108,109,110,111])
 (.region true [
 om 112 5,
 om 113 5,
 oo 114 (.nilchk (.tmp 113)),
 oo 115 (.faddr 11 1 (.tmp 114)),
 oo 116 (.loadc false 1 (.tmp 115)),
 oo 117 (.faddr 1 1 (.tmp 9)),
 oo 118 (.loadc false 1 (.tmp 117)),
 oo 119 (.bslice 1 1 [.tmp 118]),
 oo 120 (.app 1 4 [] (.tmp 116) (.tmp 119)),
 oo 121 (.nilchk (.tmp 112)),
 oo 122 (.faddr 11 1 (.tmp 121)),
 ⟨none,.store 1 (.tmp 122) (.tmp 120),none⟩] [9,112,113,114,115,116,117,118,119,120,121,122]))) [])
 (.shift
 (.region false [
 oo 123 (.bin .add 3 (.tmp 89) (.const (.int .i64 1))),
 om 89 123] [123]))))) [] [9]) [87,88,89,90]))
 (.seq
 (.seq
 (.shift
 (.region false [
 oo 124 (.faddr 5 1 (.tmp 1)),
 oo 125 (.load false 1 (.tmp 124)),
 oo 126 (.lenl (.tmp 125)),
 oo 127 (.mov (.const (.int .i64 0)))] [1,124]))
 (.block 4
 (.loop
 (.seq
 (.region false [
 oo 128 (.bin .lss 3 (.tmp 127) (.tmp 126))] [])
 (.seq
 (.cond (.tmp 128)
 .skip
 (.exit 4))
 (.seq
 (.block 5
 (.seq
 (.region false [
 oo 129 (.iaddr 3 (.tmp 125) (.tmp 127)),
 oo 130 (.load true 3 (.tmp 129)),
 oo 11 (.alloc [.lit (.int .i64 0),.lit (.int .u32 0),.lit (.int .u32 0)]),
 ⟨none,.store 3 (.tmp 11) (.tmp 130),none⟩] [128,129,130])
 (.region true [
 om 131 5,
 om 132 5,
 oo 133 (.nilchk (.tmp 132)),
 oo 134 (.faddr 11 1 (.tmp 133)),
 oo 135 (.loadc false 1 (.tmp 134)),
 oo 136 (.faddr 1 2 (.tmp 11)),
 oo 137 (.faddr 1 1 (.tmp 136)),
 oo 138 (.loadc false 1 (.tmp 137)),
 oo 139 (.bslice 1 1 [.tmp 138]),
 oo 140 (.app 1 4 [] (.tmp 135) (.tmp 139)),
 oo 141 (.nilchk (.tmp 131)),
 oo 142 (.faddr 11 1 (.tmp 141)),
 ⟨none,.store 1 (.tmp 142) (.tmp 140),none⟩] [11,131,132,133,134,135,136,137,138,139,140,141,142])) [])
 (.region false [
 oo 143 (.bin .add 3 (.tmp 127) (.const (.int .i64 1))),
 om 127 143] [143])))) [] [11]) [125,126,127,128]))
 (.seq
 (.shift
 (.region false [
 om 144 5,
 oo 145 (.nilchk (.tmp 144)),
 oo 146 (.faddr 11 1 (.tmp 145)),
 oo 147 (.load false 1 (.tmp 146)),
 oo 148 (.callm 46 [.tmp 147])] [144,145,146,147,148]))
 (.seq
 (.region false [
 om 149 5,
 om 150 5,
 oo 151 (.nilchk (.tmp 150)),
 oo 152 (.faddr 11 1 (.tmp 151)),
 oo 153 (.load false 1 (.tmp 152)),
 oo 154 (.callm 47 [.tmp 153]),
 oo 155 (.nilchk (.tmp 149)),
 oo 156 (.faddr 11 1 (.tmp 155)),
 ⟨none,.store 1 (.tmp 156) (.tmp 154),none⟩] [149,150,151,152,153,154,155,156])
 (.seq
 (.region false [
 om 157 5,
 om 2 157,
 oo 3 (.mov (.const (.nilIface)))] [5,157])
 .ret)))))))))
abbrev v_q8 : List RV:= [.tmp 2,.tmp 3]
abbrev f_q8 : FuncId:= 11
theorem k_q8 : closedOf Tryz.prog Tryz.f11 = (false,some true,some v_q8,some c_q8.plain,158):= by kernel_rfl
theorem ac_q8 {args : List AV} {r : AV} (h : aw Tryz.prog c_q8 (env0 args) (endQ v_q8 r)) (hargs : args.length ≤ 158:= by decide) (hok : resOK r = true:= by rfl) : AC Tryz.prog f_q8 args r :=
  AC_mk (by kernel_rfl) Tryz.func11 k_q8 hargs hok (by decide) h
def c_q9 : ACode :=
 (.seq
 (.region false [
 oo 1 (.box (.tmp 0)),
 oo 2 (.mov (.const (.int .i64 0)))] [0,2])
 (.seq
 (.region false [
 oo 9 (.load true 7 (.tmp 1)),
 oo 10 (.callm 48 [.tmp 9]),
 om 8 10,
 oo 11 (.ext (.tmp 8) 0),
 oo 12 (.ext (.tmp 8) 1),
 oo 3 (.alloc [.lit (.int .i64 0),.lit (.int .i64 0),.lit (.int .i64 0),.lit (.int .i64 0),.lit (.int .i64 0),.lit (.int .i64 0),.lit (.int .i64 0)]),
 oo 4 (.alloc [.lit (.int .i64 0),.lit (.int .i64 0),.lit (.int .i64 0),.lit (.int .i64 0),.lit (.int .i64 0),.lit (.int .i64 0),.lit (.int .i64 0)]),
 ⟨none,.store 7 (.tmp 3) (.tmp 11),none⟩,
 ⟨none,.store 7 (.tmp 4) (.tmp 12),none⟩] [8,9,10,11,12])
 (.seq
 (.seq
 (.region false [
 oo 5 (.mov (.const (.int .i64 0)))] [])
 (.block 0
 (.loop
 (.seq
 (.seq
 (.region false [
 om 13 5,
 oo 14 (.bin .lss 3 (.tmp 13) (.const (.int .i64 7)))] [13])
 (.cond (.tmp 14)
 .skip
 (.exit 0)))
 (.seq
 (.block 1
 (.seq
 (.region false [
 oo 6 (.mov (.const (.int .i64 0)))] [14])
 (.block 2
 (.loop
 (.seq
 (.seq
 (.region false [
 om 17 6,
 om 18 5,
 oo 19 (.iadra 7 1 (.tmp 3) (.tmp 18)),
 oo 20 (.load false 1 (.tmp 19)),
 oo 21 (.bin .lss 3 (.tmp 17) (.tmp 20))] [17,18,19,20])
 (.cond (.tmp 21)
 .skip
 (.exit 2)))
 (.seq
 (.block 3
 (.seq
 (.seq
 (.region false [
 om 24 6,
 om 25 5,
 oo 26 (.iadra 7 1 (.tmp 4) (.tmp 25)),
 oo 27 (.load false 1 (.tmp 26)),
 oo 28 (.bin .geq 3 (.tmp 24) (.tmp 27))] [21,24,25,26,27])
 (.cond (.tmp 28)
 (.seq
 (.region false [
 oo 2 (.mov (.const (.int .i64 104)))] [1,3,4,5,6,28])
 .ret)
 .skip))
 (.seq
 (.region false [
 oo 29 (.load true 7 (.tmp 1)),
 om 30 5,
 om 31 6,
 oo 32 (.callm 49 [.tmp 29,.tmp 30,.tmp 31]),
 om 7 32] [28,29,30,31,32])
 (.seq
 (.region false [
 om 33 7,
 oo 34 (.bin .neq 3 (.tmp 33) (.const (.int .i64 0)))] [33])
 (.cond (.tmp 34)
 (.seq
 (.region false [
 om 35 7,
 om 2 35] [1,3,4,5,6,7,34,35])
 .ret)
 .skip)))) [7,34])
 (.region false [
 om 22 6,
 oo 23 (.bin .add 3 (.tmp 22) (.const (.int .i64 1))),
 om 6 23] [22,23]))) [] []) [6,21])) [])
 (.region false [
 om 15 5,
 oo 16 (.bin .add 3 (.tmp 15) (.const (.int .i64 1))),
 om 5 16] [15,16]))) [] []) [1,3,4,5,14]))
 (.seq
 (.region false [
 oo 2 (.mov (.const (.int .i64 0)))] [])
 .ret))))
abbrev v_q9 : List RV:= [.tmp 2]
abbrev f_q9 : FuncId:= 12
theorem k_q9 : closedOf Tryz.prog Tryz.f12 = (false,some true,some v_q9,some c_q9.plain,36):= by kernel_rfl
theorem ac_q9 {args : List AV} {r : AV} (h : aw Tryz.prog c_q9 (env0 args) (endQ v_q9 r)) (hargs : args.length ≤ 36:= by decide) (hok : resOK r = true:= by rfl) : AC Tryz.prog f_q9 args r :=
  AC_mk (by kernel_rfl) Tryz.func12 k_q9 hargs hok (by decide) h
def c_q10 : ACode :=
 (.seq
 (.region false [
 oo 4 (.mov (.const (.bool false)))] [4])
 (.seq
 (.region false [
 om 5 0,
 om 6 1,
 oo 7 (.callm 50 [.tmp 6]),
 oo 8 (.callm 32 [.tmp 5,.tmp 7]),
 om 4 8] [0,1,5,6,7,8])
 .ret))
abbrev v_q10 : List RV:= [.tmp 4]
abbrev f_q10 : FuncId:= 13
theorem k_q10 : closedOf Tryz.prog Tryz.f13 = (false,some true,some v_q10,some c_q10.plain,9):= by kernel_rfl
theorem ac_q10 {args : List AV} {r : AV} (h : aw Tryz.prog c_q10 (env0 args) (endQ v_q10 r)) (hargs : args.length ≤ 9:= by decide) (hok : resOK r = true:= by rfl) : AC Tryz.prog f_q10 args r :=
  AC_mk (by kernel_rfl) Tryz.func13 k_q10 hargs hok (by decide) h
def c_q11 : ACode :=
 (.seq
 (.region false [
 oo 4 (.mov (.const (.int .i64 0))),
 oo 5 (.mov (.const (.bool false)))] [4,5])
 (.seq
 (.region false [
 om 9 0,
 oo 10 (.nilchk (.tmp 9)),
 oo 11 (.faddr 9 1 (.tmp 10)),
 oo 12 (.load false 1 (.tmp 11)),
 om 13 1,
 oo 14 (.lkp false (ofVal (.int .i64 0)) true (.tmp 12) (.tmp 13)),
 om 8 14,
 oo 15 (.ext (.tmp 8) 0),
 oo 16 (.ext (.tmp 8) 1),
 om 6 15,
 om 7 16] [0,1,8,9,10,11,12,13,14,15,16])
 (.seq
 (.region false [
 om 17 6,
 om 18 7,
 om 4 17,
 om 5 18] [6,7,17,18])
 .ret)))
abbrev v_q11 : List RV:= [.tmp 4,.tmp 5]
abbrev f_q11 : FuncId:= 14
theorem k_q11 : closedOf Tryz.prog Tryz.f14 = (false,some true,some v_q11,some c_q11.plain,19):= by kernel_rfl
theorem ac_q11 {args : List AV} {r : AV} (h : aw Tryz.prog c_q11 (env0 args) (endQ v_q11 r)) (hargs : args.length ≤ 19:= by decide) (hok : resOK r = true:= by rfl) : AC Tryz.prog f_q11 args r :=
  AC_mk (by kernel_rfl) Tryz.func14 k_q11 hargs hok (by decide) h
def c_q12 : ACode :=
 (.seq
 (.region false [
 oo 2 (.box (.tmp 0)),
 oo 4 (.mov (.const (.int .i64 0)))] [0,4])
 (.seq
 (.seq
 (.region false [
 oo 5 (.mov (.const (.int .i64 0)))] [])
 (.block 0
 (.loop
 (.seq
 (.seq
 (.region false [
 om 6 5,
 oo 7 (.faddr 2 1 (.tmp 2)),
 oo 8 (.load false 1 (.tmp 7)),
 oo 9 (.lenl (.tmp 8)),
 oo 10 (.bin .lss 3 (.tmp 6) (.tmp 9))] [6,7,8,9])
 (.cond (.tmp 10)
 .skip
 (.exit 0)))
 (.seq
 (.block 1
 (.seq
 (.region false [
 oo 13 (.faddr 2 1 (.tmp 2)),
 oo 14 (.load false 1 (.tmp 13)),
 om 15 5,
 oo 16 (.iaddr 3 (.tmp 14) (.tmp 15)),
 oo 17 (.faddr 2 1 (.tmp 16)),
 oo 18 (.load false 1 (.tmp 17)),
 om 19 1,
 oo 20 (.bin .eql 32 (.tmp 18) (.tmp 19))] [10,13,14,15,16,17,18,19])
 (.cond (.tmp 20)
 (.seq
 (.region false [
 om 21 5,
 om 4 21] [1,2,5,20,21])
 .ret)
 .skip)) [20])
 (.region false [
 om 11 5,
 oo 12 (.bin .add 3 (.tmp 11) (.const (.int .i64 1))),
 om 5 12] [11,12]))) [] []) [1,2,5,10]))
 (.seq
 (.region false [
 oo 4 (.mov (.const (.int .i64 (-1))))] [])
 .ret)))
abbrev v_q12 : List RV:= [.tmp 4]
abbrev f_q12 : FuncId:= 15
theorem k_q12 : closedOf Tryz.prog Tryz.f15 = (false,some true,some v_q12,some c_q12.plain,22):= by kernel_rfl
theorem ac_q12 {args : List AV} {r : AV} (h : aw Tryz.prog c_q12 (env0 args) (endQ v_q12 r)) (hargs : args.length ≤ 22:= by decide) (hok : resOK r = true:= by rfl) : AC Tryz.prog f_q12 args r :=
  AC_mk (by kernel_rfl) Tryz.func15 k_q12 hargs hok (by decide) h
def c_q13 : ACode :=
 (.seq
 (.region false [
 oo 2 (.box (.tmp 0)),
 oo 4 (.mov (.const (.slice none 0 0)))] [0,4])
 (.seq
 (.region false [
 oo 5 (.mov (.const (.slice none 0 0)))] [])
 (.seq
 (.seq
 (.region false [
 oo 6 (.mov (.const (.int .i64 0)))] [])
 (.block 0
 (.loop
 (.seq
 (.seq
 (.region false [
 om 7 6,
 oo 8 (.faddr 2 1 (.tmp 2)),
 oo 9 (.load false 1 (.tmp 8)),
 oo 10 (.lenl (.tmp 9)),
 oo 11 (.bin .lss 3 (.tmp 7) (.tmp 10))] [7,8,9,10])
 (.cond (.tmp 11)
 .skip
 (.exit 0)))
 (.seq
 (.block 1
 (.seq
 (.region false [
 oo 14 (.faddr 2 1 (.tmp 2)),
 oo 15 (.load false 1 (.tmp 14)),
 om 16 6,
 oo 17 (.iaddr 3 (.tmp 15) (.tmp 16)),
 oo 18 (.faddr 1 1 (.tmp 17)),
 oo 19 (.load false 1 (.tmp 18)),
 om 20 1,
 oo 21 (.bin .eql 3 (.tmp 19) (.tmp 20))] [11,14,15,16,17,18,19,20])
 (.cond (.tmp 21)
 (.region false [
 om 22 5,
 om 23 6,
 oo 24 (.bslice 1 1 [.tmp 23]),
 oo 25 (.app 1 8 [] (.tmp 22) (.tmp 24)),
 om 5 25] [21,22,23,24,25])
 .skip)) [21])
 (.region false [
 om 12 6,
 oo 13 (.bin .add 3 (.tmp 12) (.const (.int .i64 1))),
 om 6 13] [12,13]))) [] []) [1,2,6,11]))
 (.seq
 (.region false [
 om 26 5,
 om 4 26] [5,26])
 .ret))))
abbrev v_q13 : List RV:= [.tmp 4]
abbrev f_q13 : FuncId:= 16
theorem k_q13 : closedOf Tryz.prog Tryz.f16 = (false,some true,some v_q13,some c_q13.plain,27):= by kernel_rfl
theorem ac_q13 {args : List AV} {r : AV} (h : aw Tryz.prog c_q13 (env0 args) (endQ v_q13 r)) (hargs : args.length ≤ 27:= by decide) (hok : resOK r = true:= by rfl) : AC Tryz.prog f_q13 args r :=
  AC_mk (by kernel_rfl) Tryz.func16 k_q13 hargs hok (by decide) h
def c_q14 : ACode :=
 (.seq
 (.region false [
 oo 4 (.mov (.const (.bool false)))] [4])
 (.seq
 (.seq
 (.region false [
 om 7 0,
 oo 8 (.lenl (.tmp 7)),
 om 9 1,
 oo 10 (.lenl (.tmp 9)),
 oo 11 (.bin .neq 3 (.tmp 8) (.tmp 10))] [7,8,9,10])
 (.cond (.tmp 11)
 (.seq
 (.region false [
 oo 4 (.mov (.const (.bool false)))] [0,1,11])
 .ret)
 .skip))
 (.seq
 (.seq
 (.region false [
 oo 5 (.mov (.const (.int .i64 0)))] [11])
 (.block 0
 (.loop
 (.seq
 (.seq
 (.region false [
 om 12 5,
 om 13 0,
 oo 14 (.lenl (.tmp 13)),
 oo 15 (.bin .lss 3 (.tmp 12) (.tmp 14))] [12,13,14])
 (.cond (.tmp 15)
 .skip
 (.exit 0)))
 (.seq
 (.block 1
 (.seq
 (.region true [
 om 18 0,
 om 19 5,
 oo 20 (.iaddr 1 (.tmp 18) (.tmp 19)),
 oo 21 (.load false 1 (.tmp 20)),
 om 22 1,
 om 23 5,
 oo 24 (.iaddr 1 (.tmp 22) (.tmp 23)),
 oo 25 (.load false 1 (.tmp 24)),
 oo 26 (.bin .eql 3 (.tmp 21) (.tmp 25)),
 om 6 26] [15,18,19,20,21,22,23,24,25,26])
 (.seq
 (.region false [
 om 27 6,
 oo 28 (.un .not (.tmp 27))] [6,27])
 (.cond (.tmp 28)
 (.seq
 (.region false [
 oo 4 (.mov (.const (.bool false)))] [0,1,5,28])
 .ret)
 .skip))) [28])
 (.region false [
 om 16 5,
 oo 17 (.bin .add 3 (.tmp 16) (.const (.int .i64 1))),
 om 5 17] [16,17]))) [] []) [0,1,5,15]))
 (.seq
 (.region false [
 oo 4 (.mov (.const (.bool true)))] [])
 .ret))))
abbrev v_q14 : List RV:= [.tmp 4]
abbrev f_q14 : FuncId:= 17
theorem k_q14 : closedOf Tryz.prog Tryz.f17 = (false,some true,some v_q14,some c_q14.plain,29):= by kernel_rfl
theorem ac_q14 {args : List AV} {r : AV} (h : aw Tryz.prog c_q14 (env0 args) (endQ v_q14 r)) (hargs : args.length ≤ 29:= by decide) (hok : resOK r = true:= by rfl) : AC Tryz.prog f_q14 args r :=
  AC_mk (by kernel_rfl) Tryz.func17 k_q14 hargs hok (by decide) h
def c_q15 : ACode :=
 (.seq
 (.region false [
 oo 4 (.mov (.const (.slice none 0 0)))] [4])
 (.seq
 (.region false [
 om 5 0,
 oo 6 (.nilchk (.tmp 5)),
 oo 7 (.faddr 7 1 (.tmp 6)),
 oo 8 (.load false 1 (.tmp 7)),
 om 9 1,
 oo 10 (.callm 51 [.tmp 8,.tmp 9]),
 om 4 10] [0,1,5,6,7,8,9,10])
 .ret))
abbrev v_q15 : List RV:= [.tmp 4]
abbrev f_q15 : FuncId:= 18
theorem k_q15 : closedOf Tryz.prog Tryz.f18 = (false,some true,some v_q15,some c_q15.plain,11):= by kernel_rfl
theorem ac_q15 {args : List AV} {r : AV} (h : aw Tryz.prog c_q15 (env0 args) (endQ v_q15 r)) (hargs : args.length ≤ 11:= by decide) (hok : resOK r = true:= by rfl) : AC Tryz.prog f_q15 args r :=
  AC_mk (by kernel_rfl) Tryz.func18 k_q15 hargs hok (by decide) h
def c_q16 : ACode :=
 (.seq
 (.region false [
 oo 4 (.mov (.const (.slice none 0 0)))] [4])
 (.seq
 (.region false [
 om 5 0,
 oo 6 (.nilchk (.tmp 5)),
 oo 7 (.faddr 8 1 (.tmp 6)),
 oo 8 (.load false 1 (.tmp 7)),
 om 9 1,
 oo 10 (.callm 51 [.tmp 8,.tmp 9]),
 om 4 10] [0,1,5,6,7,8,9,10])
 .ret))
abbrev v_q16 : List RV:= [.tmp 4]
abbrev f_q16 : FuncId:= 19
theorem k_q16 : closedOf Tryz.prog Tryz.f19 = (false,some true,some v_q16,some c_q16.plain,11):= by kernel_rfl
theorem ac_q16 {args : List AV} {r : AV} (h : aw Tryz.prog c_q16 (env0 args) (endQ v_q16 r)) (hargs : args.length ≤ 11:= by decide) (hok : resOK r = true:= by rfl) : AC Tryz.prog f_q16 args r :=
  AC_mk (by kernel_rfl) Tryz.func19 k_q16 hargs hok (by decide) h
def c_q17 : ACode :=
 (.seq
 (.region false [
 oo 2 (.box (.tmp 0)),
 oo 4 (.mov (.const (.slice none 0 0)))] [0,4])
 (.seq
 (.region false [
 oo 5 (.mov (.const (.slice none 0 0)))] [])
 (.seq
 (.seq
 (.region false [
 oo 6 (.mov (.const (.int .i64 0)))] [])
 (.block 0
 (.loop
 (.seq
 (.seq
 (.region false [
 om 7 6,
 oo 8 (.faddr 2 1 (.tmp 2)),
 oo 9 (.load false 1 (.tmp 8)),
 oo 10 (.lenl (.tmp 9)),
 oo 11 (.bin .lss 3 (.tmp 7) (.tmp 10))] [7,8,9,10])
 (.cond (.tmp 11)
 .skip
 (.exit 0)))
 (.seq
 (.block 1
 (.seq
 (.region false [
 oo 14 (.faddr 2 1 (.tmp 2)),
 oo 15 (.load false 1 (.tmp 14)),
 om 16 6,
 oo 17 (.iaddr 3 (.tmp 15) (.tmp 16)),
 oo 18 (.faddr 0 1 (.tmp 17)),
 oo 19 (.load false 1 (.tmp 18)),
 om 20 1,
 oo 21 (.bin .eql 3 (.tmp 19) (.tmp 20))] [11,14,15,16,17,18,19,20])
 (.cond (.tmp 21)
 (.region false [
 om 22 5,
 om 23 6,
 oo 24 (.bslice 1 1 [.tmp 23]),
 oo 25 (.app 1 8 [] (.tmp 22) (.tmp 24)),
 om 5 25] [21,22,23,24,25])
 .skip)) [21])
 (.region false [
 om 12 6,
 oo 13 (.bin .add 3 (.tmp 12) (.const (.int .i64 1))),
 om 6 13] [12,13]))) [] []) [1,2,6,11]))
 (.seq
 (.region false [
 om 26 5,
 om 4 26] [5,26])
 .ret))))
abbrev v_q17 : List RV:= [.tmp 4]
abbrev f_q17 : FuncId:= 20
theorem k_q17 : closedOf Tryz.prog Tryz.f20 = (false,some true,some v_q17,some c_q17.plain,27):= by kernel_rfl
theorem ac_q17 {args : List AV} {r : AV} (h : aw Tryz.prog c_q17 (env0 args) (endQ v_q17 r)) (hargs : args.length ≤ 27:= by decide) (hok : resOK r = true:= by rfl) : AC Tryz.prog f_q17 args r :=
  AC_mk (by kernel_rfl) Tryz.func20 k_q17 hargs hok (by decide) h
def c_q18 : ACode :=
 (.seq
 (.region false [
 oo 2 (.box (.tmp 0)),
 oo 4 (.mov (.const (.slice none 0 0)))] [0,4])
 (.seq
 (.seq
 (.region false [
 om 6 1,
 oo 7 (.bin .lss 3 (.tmp 6) (.const (.int .i64 0))),
 om 8 7,
 og 9 (.mov (.tmp 1)) 8 false,
 og 10 (.load false 1 (.tmp 2)) 8 false,
 og 11 (.nilchk (.tmp 10)) 8 false,
 og 12 (.faddr 0 7 (.tmp 11)) 8 false,
 og 13 (.faddr 2 1 (.tmp 12)) 8 false,
 og 14 (.load false 1 (.tmp 13)) 8 false,
 og 15 (.lenl (.tmp 14)) 8 false,
 og 16 (.bin .geq 3 (.tmp 9) (.tmp 15)) 8 false,
 oo 17 (.pick (.tmp 8) (.const (.bool true)) (.tmp 16))] [6,7,8,9,10,11,12,13,14,15,16])
 (.cond (.tmp 17)
 (.seq
 (.region false [
 oo 4 (.mov (.const (.slice none 0 0)))] [1,2,17])
 .ret)
 .skip))
 (.seq
 (.region false [
 oo 18 (.load false 1 (.tmp 2)),
 oo 19 (.nilchk (.tmp 18)),
 oo 20 (.faddr 0 7 (.tmp 19)),
 oo 21 (.faddr 2 1 (.tmp 20)),
 oo 22 (.load false 1 (.tmp 21)),
 om 23 1,
 oo 24 (.iaddr 3 (.tmp 22) (.tmp 23)),
 oo 25 (.load true 3 (.tmp 24)),
 oo 5 (.alloc [.lit (.int .i64 0),.lit (.int .i64 0),.lit (.int .u32 0)]),
 ⟨none,.store 3 (.tmp 5) (.tmp 25),none⟩] [1,17,18,19,20,21,22,23,24,25])
 (.seq
 (.split [
 oo 26 (.load false 1 (.tmp 2)),
 oo 27 (.faddr 1 1 (.tmp 5)),
 oo 28 (.load false 1 (.tmp 27)),
 oo 29 (.callm 18 [.tmp 26,.tmp 28])] [
 oo 30 (.mkfn (.func 53) [] [.tmp 2,.tmp 5]),
 oo 31 (.callm 52 [.tmp 29,.tmp 30]),
 om 4 31] [2,5,26,27,28,29,30,31])
 .ret))))
abbrev v_q18 : List RV:= [.tmp 4]
abbrev f_q18 : FuncId:= 21
theorem k_q18 : closedOf Tryz.prog Tryz.f21 = (false,some true,some v_q18,some c_q18.plain,32):= by kernel_rfl
theorem ac_q18 {args : List AV} {r : AV} (h : aw Tryz.prog c_q18 (env0 args) (endQ v_q18 r)) (hargs : args.length ≤ 32:= by decide) (hok : resOK r = true:= by rfl) : AC Tryz.prog f_q18 args r :=
  AC_mk (by kernel_rfl) Tryz.func21 k_q18 hargs hok (by decide) h
def c_q19 : ACode :=
 (.seq
 (.region false [
 oo 4 (.mov (.const (.slice none 0 0)))] [4])
 (.seq
 (.region false [
 om 5 0,
 oo 6 (.nilchk (.tmp 5)),
 oo 7 (.faddr 10 1 (.tmp 6)),
 oo 8 (.load false 1 (.tmp 7)),
 om 9 1,
 oo 10 (.callm 51 [.tmp 8,.tmp 9]),
 om 4 10] [0,1,5,6,7,8,9,10])
 .ret))
abbrev v_q19 : List RV:= [.tmp 4]
abbrev f_q19 : FuncId:= 22
theorem k_q19 : closedOf Tryz.prog Tryz.f22 = (false,some true,some v_q19,some c_q19.plain,11):= by kernel_rfl
theorem ac_q19 {args : List AV} {r : AV} (h : aw Tryz.prog c_q19 (env0 args) (endQ v_q19 r)) (hargs : args.length ≤ 11:= by decide) (hok : resOK r = true:= by rfl) : AC Tryz.prog f_q19 args r :=
  AC_mk (by kernel_rfl) Tryz.func22 k_q19 hargs hok (by decide) h
def c_q20 : ACode :=
 (.seq
 (.region false [
 oo 2 (.box (.tmp 0)),
 oo 4 (.mov (.const (.slice none 0 0)))] [0,4])
 (.seq
 (.region false [
 oo 5 (.mov (.const (.slice none 0 0)))] [])
 (.seq
 (.seq
 (.region false [
 oo 6 (.mov (.const (.int .i64 0)))] [])
 (.block 0
 (.loop
 (.seq
 (.seq
 (.region false [
 om 7 6,
 oo 8 (.faddr 6 1 (.tmp 2)),
 oo 9 (.load false 1 (.tmp 8)),
 oo 10 (.lenl (.tmp 9)),
 oo 11 (.bin .lss 3 (.tmp 7) (.tmp 10))] [7,8,9,10])
 (.cond (.tmp 11)
 .skip
 (.exit 0)))
 (.seq
 (.block 1
 (.seq
 (.region false [
 oo 14 (.faddr 6 1 (.tmp 2)),
 oo 15 (.load false 1 (.tmp 14)),
 om 16 6,
 oo 17 (.iaddr 4 (.tmp 15) (.tmp 16)),
 oo 18 (.faddr 0 1 (.tmp 17)),
 oo 19 (.load false 1 (.tmp 18)),
 om 20 1,
 oo 21 (.bin .eql 3 (.tmp 19) (.tmp 20))] [11,14,15,16,17,18,19,20])
 (.cond (.tmp 21)
 (.region false [
 om 22 5,
 om 23 6,
 oo 24 (.bslice 1 1 [.tmp 23]),
 oo 25 (.app 1 8 [] (.tmp 22) (.tmp 24)),
 om 5 25] [21,22,23,24,25])
 .skip)) [21])
 (.region false [
 om 12 6,
 oo 13 (.bin .add 3 (.tmp 12) (.const (.int .i64 1))),
 om 6 13] [12,13]))) [] []) [1,2,6,11]))
 (.seq
 (.region false [
 om 26 5,
 om 4 26] [5,26])
 .ret))))
abbrev v_q20 : List RV:= [.tmp 4]
abbrev f_q20 : FuncId:= 23
theorem k_q20 : closedOf Tryz.prog Tryz.f23 = (false,some true,some v_q20,some c_q20.plain,27):= by kernel_rfl
theorem ac_q20 {args : List AV} {r : AV} (h : aw Tryz.prog c_q20 (env0 args) (endQ v_q20 r)) (hargs : args.length ≤ 27:= by decide) (hok : resOK r = true:= by rfl) : AC Tryz.prog f_q20 args r :=
  AC_mk (by kernel_rfl) Tryz.func23 k_q20 hargs hok (by decide) h
def c_q21 : ACode :=
 (.seq
 (.region false [
 oo 4 (.mov (.const (.bool false)))] [4])
 (.seq
 (.seq
 (.region false [
 om 7 0,
 oo 8 (.lenl (.tmp 7)),
 om 9 1,
 oo 10 (.lenl (.tmp 9)),
 oo 11 (.bin .neq 3 (.tmp 8) (.tmp 10))] [7,8,9,10])
 (.cond (.tmp 11)
 (.seq
 (.region false [
 oo 4 (.mov (.const (.bool false)))] [0,1,11])
 .ret)
 .skip))
 (.seq
 (.seq
 (.region false [
 oo 5 (.mov (.const (.int .i64 0)))] [11])
 (.block 0
 (.loop
 (.seq
 (.seq
 (.region false [
 om 12 5,
 om 13 0,
 oo 14 (.lenl (.tmp 13)),
 oo 15 (.bin .lss 3 (.tmp 12) (.tmp 14))] [12,13,14])
 (.cond (.tmp 15)
 .skip
 (.exit 0)))
 (.seq
 (.block 1
 (.seq
 (.region true [
 om 18 0,
 om 19 5,
 oo 20 (.iaddr 1 (.tmp 18) (.tmp 19)),
 oo 21 (.load false 1 (.tmp 20)),
 om 22 1,
 om 23 5,
 oo 24 (.iaddr 1 (.tmp 22) (.tmp 23)),
 oo 25 (.load false 1 (.tmp 24)),
 oo 26 (.bin .eql 32 (.tmp 21) (.tmp 25)),
 om 6 26] [15,18,19,20,21,22,23,24,25,26])
 (.seq
 (.region false [
 om 27 6,
 oo 28 (.un .not (.tmp 27))] [6,27])
 (.cond (.tmp 28)
 (.seq
 (.region false [
 oo 4 (.mov (.const (.bool false)))] [0,1,5,28])
 .ret)
 .skip))) [28])
 (.region false [
 om 16 5,
 oo 17 (.bin .add 3 (.tmp 16) (.const (.int .i64 1))),
 om 5 17] [16,17]))) [] []) [0,1,5,15]))
 (.seq
 (.region false [
 oo 4 (.mov (.const (.bool true)))] [])
 .ret))))
abbrev v_q21 : List RV:= [.tmp 4]
abbrev f_q21 : FuncId:= 24
theorem k_q21 : closedOf Tryz.prog Tryz.f24 = (false,some true,some v_q21,some c_q21.plain,29):= by kernel_rfl
theorem ac_q21 {args : List AV} {r : AV} (h : aw Tryz.prog c_q21 (env0 args) (endQ v_q21 r)) (hargs : args.length ≤ 29:= by decide) (hok : resOK r = true:= by rfl) : AC Tryz.prog f_q21 args r :=
  AC_mk (by kernel_rfl) Tryz.func24 k_q21 hargs hok (by decide) h
def c_q22 : ACode :=
 (.seq
 (.region false [
 oo 2 (.mov (.const (.slice none 0 0)))] [2])
 (.seq
 (.region false [
 om 3 0,
 oo 4 (.nilchk (.tmp 3)),
 oo 5 (.faddr 11 1 (.tmp 4)),
 oo 6 (.load false 1 (.tmp 5)),
 oo 7 (.callm 54 [.tmp 6]),
 om 2 7] [0,3,4,5,6,7])
 .ret))
abbrev v_q22 : List RV:= [.tmp 2]
abbrev f_q22 : FuncId:= 25
theorem k_q22 : closedOf Tryz.prog Tryz.f25 = (false,some true,some v_q22,some c_q22.plain,8):= by kernel_rfl
theorem ac_q22 {args : List AV} {r : AV} (h : aw Tryz.prog c_q22 (env0 args) (endQ v_q22 r)) (hargs : args.length ≤ 8:= by decide) (hok : resOK r = true:= by rfl) : AC Tryz.prog f_q22 args r :=
  AC_mk (by kernel_rfl) Tryz.func25 k_q22 hargs hok (by decide) h
def c_q23 : ACode :=
 (.seq
 (.region false [
 oo 1 (.box (.tmp 0)),
 oo 2 (.mov (.const (.slice none 0 0)))] [0,2])
 (.seq
 (.region false [
 oo 3 (.mov (.const (.slice none 0 0)))] [])
 (.seq
 (.seq
 (.region false [
 oo 4 (.mov (.const (.int .i64 0)))] [])
 (.block 0
 (.loop
 (.seq
 (.seq
 (.region false [
 om 6 4,
 oo 7 (.faddr 5 1 (.tmp 1)),
 oo 8 (.load false 1 (.tmp 7)),
 oo 9 (.lenl (.tmp 8)),
 oo 10 (.bin .lss 3 (.tmp 6) (.tmp 9))] [6,7,8,9])
 (.cond (.tmp 10)
 .skip
 (.exit 0)))
 (.seq
 (.block 1
 (.region false [
 om 13 3,
 oo 14 (.faddr 5 1 (.tmp 1)),
 oo 15 (.load false 1 (.tmp 14)),
 om 16 4,
 oo 17 (.iaddr 3 (.tmp 15) (.tmp 16)),
 oo 18 (.faddr 1 2 (.tmp 17)),
 oo 19 (.faddr 1 1 (.tmp 18)),
 oo 20 (.load false 1 (.tmp 19)),
 oo 21 (.callm 55 [.tmp 13,.tmp 20]),
 om 3 21] [10,13,14,15,16,17,18,19,20,21]) [])
 (.region false [
 om 11 4,
 oo 12 (.bin .add 3 (.tmp 11) (.const (.int .i64 1))),
 om 4 12] [11,12]))) [] []) [4,10]))
 (.seq
 (.seq
 (.region false [
 oo 5 (.mov (.const (.int .i64 0)))] [])
 (.block 2
 (.loop
 (.seq
 (.seq
 (.region false [
 om 22 5,
 oo 23 (.faddr 6 1 (.tmp 1)),
 oo 24 (.load false 1 (.tmp 23)),
 oo 25 (.lenl (.tmp 24)),
 oo 26 (.bin .lss 3 (.tmp 22) (.tmp 25))] [22,23,24,25])
 (.cond (.tmp 26)
 .skip
 (.exit 2)))
 (.seq
 (.block 3
 (.region false [
 om 29 3,
 oo 30 (.faddr 6 1 (.tmp 1)),
 oo 31 (.load false 1 (.tmp 30)),
 om 32 5,
 oo 33 (.iaddr 4 (.tmp 31) (.tmp 32)),
 oo 34 (.faddr 1 1 (.tmp 33)),
 oo 35 (.load false 1 (.tmp 34)),
 oo 36 (.callm 55 [.tmp 29,.tmp 35]),
 om 3 36] [26,29,30,31,32,33,34,35,36]) [])
 (.region false [
 om 27 5,
 oo 28 (.bin .add 3 (.tmp 27) (.const (.int .i64 1))),
 om 5 28] [27,28]))) [] []) [1,5,26]))
 (.seq
 (.region false [
 om 37 3,
 om 2 37] [3,37])
 .ret)))))
abbrev v_q23 : List RV:= [.tmp 2]
abbrev f_q23 : FuncId:= 26
theorem k_q23 : closedOf Tryz.prog Tryz.f26 = (false,some true,some v_q23,some c_q23.plain,38):= by kernel_rfl
theorem ac_q23 {args : List AV} {r : AV} (h : aw Tryz.prog c_q23 (env0 args) (endQ v_q23 r)) (hargs : args.length ≤ 38:= by decide) (hok : resOK r = true:= by rfl) : AC Tryz.prog f_q23 args r :=
  AC_mk (by kernel_rfl) Tryz.func26 k_q23 hargs hok (by decide) h
def c_q24 : ACode :=
 (.seq
 (.region false [
 oo 2 (.box (.tmp 0)),
 oo 3 (.box (.tmp 1)),
 oo 4 (.mov (.const (.bool false)))] [0,1,4])
 (.seq
 (.region false [
 oo 5 (.faddr 0 1 (.tmp 2)),
 oo 6 (.load false 1 (.tmp 5)),
 oo 7 (.faddr 0 1 (.tmp 3)),
 oo 8 (.load false 1 (.tmp 7)),
 oo 9 (.callm 36 [.tmp 6,.tmp 8]),
 om 10 9,
 og 11 (.faddr 1 1 (.tmp 2)) 10 true,
 og 12 (.load false 1 (.tmp 11)) 10 true,
 og 13 (.faddr 1 1 (.tmp 3)) 10 true,
 og 14 (.load false 1 (.tmp 13)) 10 true,
 og 15 (.callm 37 [.tmp 12,.tmp 14]) 10 true,
 oo 16 (.pick (.tmp 10) (.tmp 15) (.const (.bool false))),
 om 17 16,
 og 18 (.faddr 2 1 (.tmp 2)) 17 true,
 og 19 (.load false 1 (.tmp 18)) 17 true,
 og 20 (.faddr 2 1 (.tmp 3)) 17 true,
 og 21 (.load false 1 (.tmp 20)) 17 true,
 og 22 (.callm 56 [.tmp 19,.tmp 21]) 17 true,
 oo 23 (.pick (.tmp 17) (.tmp 22) (.const (.bool false))),
 om 24 23,
 og 25 (.faddr 3 1 (.tmp 2)) 24 true,
 og 26 (.load false 1 (.tmp 25)) 24 true,
 og 27 (.faddr 3 1 (.tmp 3)) 24 true,
 og 28 (.load false 1 (.tmp 27)) 24 true,
 og 29 (.callm 57 [.tmp 26,.tmp 28]) 24 true,
 oo 30 (.pick (.tmp 24) (.tmp 29) (.const (.bool false))),
 om 31 30,
 og 32 (.faddr 4 1 (.tmp 2)) 31 true,
 og 33 (.load false 1 (.tmp 32)) 31 true,
 og 34 (.faddr 4 1 (.tmp 3)) 31 true,
 og 35 (.load false 1 (.tmp 34)) 31 true,
 og 36 (.callm 58 [.tmp 33,.tmp 35]) 31 true,
 oo 37 (.pick (.tmp 31) (.tmp 36) (.const (.bool false))),
 om 38 37,
 og 39 (.faddr 5 1 (.tmp 2)) 38 true,
 og 40 (.load false 1 (.tmp 39)) 38 true,
 og 41 (.faddr 5 1 (.tmp 3)) 38 true,
 og 42 (.load false 1 (.tmp 41)) 38 true,
 og 43 (.callm 59 [.tmp 40,.tmp 42]) 38 true,
 oo 44 (.pick (.tmp 38) (.tmp 43) (.const (.bool false))),
 om 45 44,
 og 46 (.faddr 6 1 (.tmp 2)) 45 true,
 og 47 (.load false 1 (.tmp 46)) 45 true,
 og 48 (.faddr 6 1 (.tmp 3)) 45 true,
 og 49 (.load false 1 (.tmp 48)) 45 true,
 og 50 (.callm 60 [.tmp 47,.tmp 49]) 45 true,
 oo 51 (.pick (.tmp 45) (.tmp 50) (.const (.bool false))),
 om 4 51] [2,3,5,6,7,8,9,10,11,12,13,14,15,16,17,18,19,20,21,22,23,24,25,26,27,28,29,30,31,32,33,34,35,36,37,38,39,40,41,42,43,44,45,46,47,48,49,50,51])
 .ret))
abbrev v_q24 : List RV:= [.tmp 4]
abbrev f_q24 : FuncId:= 27
theorem k_q24 : closedOf Tryz.prog Tryz.f27 = (false,some true,some v_q24,some c_q24.plain,52):= by kernel_rfl
theorem ac_q24 {args : List AV} {r : AV} (h : aw Tryz.prog c_q24 (env0 args) (endQ v_q24 r)) (hargs : args.length ≤ 52:= by decide) (hok : resOK r = true:= by rfl) : AC Tryz.prog f_q24 args r :=
  AC_mk (by kernel_rfl) Tryz.func27 k_q24 hargs hok (by decide) h
def c_q25 : ACode :=
 (.seq
 (.region false [
 oo 2 (.alloc [.sl .nil 0 [],.sl .nil 0 [],.sl .nil 0 [],.sl .nil 0 [],.sl .nil 0 [],.sl .nil 0 [],.sl .nil 0 []])] [])
 (.seq
 (.region false [
 om 3 0,
 oo 4 (.nilchk (.tmp 3)),
 oo 5 (.faddr 0 7 (.tmp 4)),
 oo 6 (.load true 7 (.tmp 5)),
 oo 7 (.callm 44 [.tmp 6]),
 ⟨none,.store 7 (.tmp 2) (.tmp 7),none⟩] [0,3,4,5,6,7])
 .ret))
abbrev v_q25 : List RV:= [.cell true 7 2]
abbrev f_q25 : FuncId:= 28
theorem k_q25 : closedOf Tryz.prog Tryz.f28 = (false,some true,some v_q25,some c_q25.plain,8):= by kernel_rfl
theorem ac_q25 {args : List AV} {r : AV} (h : aw Tryz.prog c_q25 (env0 args) (endQ v_q25 r)) (hargs : args.length ≤ 8:= by decide) (hok : resOK r = true:= by rfl) : AC Tryz.prog f_q25 args r :=
  AC_mk (by kernel_rfl) Tryz.func28 k_q25 hargs hok (by decide) h
def c_q29 : ACode :=
 (.seq
 (.region false [
 oo 3 (.box (.tmp 1)),
 oo 4 (.mov (.const (.bool false)))] [1,4])
 (.seq
 (.region true [
 om 5 0,
 oo 6 (.call 45 [.tmp 5]),
 oo 7 (.load true 3 (.tmp 3)),
 oo 8 (.call 63 [.tmp 6,.tmp 7]),
 om 4 8] [0,3,5,6,7,8])
 .ret))
abbrev v_q29 : List RV:= [.tmp 4]
abbrev f_q29 : FuncId:= 32
theorem k_q29 : closedOf Tryz.prog Tryz.f32 = (false,some true,some v_q29,some c_q29.plain,9):= by kernel_rfl
theorem ac_q29 {args : List AV} {r : AV} (h : aw Tryz.prog c_q29 (env0 args) (endQ v_q29 r)) (hargs : args.length ≤ 9:= by decide) (hok : resOK r = true:= by rfl) : AC Tryz.prog f_q29 args r :=
  AC_mk (by kernel_rfl) Tryz.func32 k_q29 hargs hok (by decide) h
def c_q33 : ACode :=
 (.seq
 (.region false [
 oo 4 (.mov (.const (.bool false)))] [4])
 (.seq
 (.seq
 (.region false [
 om 7 0,
 oo 8 (.lenl (.tmp 7)),
 om 9 1,
 oo 10 (.lenl (.tmp 9)),
 oo 11 (.bin .neq 3 (.tmp 8) (.tmp 10))] [7,8,9,10])
 (.cond (.tmp 11)
 (.seq
 (.region false [
 oo 4 (.mov (.const (.bool false)))] [0,1,11])
 .ret)
 .skip))
 (.seq
 (.seq
 (.region false [
 oo 5 (.mov (.const (.int .i64 0)))] [11])
 (.block 0
 (.loop
 (.seq
 (.seq
 (.region false [
 om 12 5,
 om 13 0,
 oo 14 (.lenl (.tmp 13)),
 oo 15 (.bin .lss 3 (.tmp 12) (.tmp 14))] [12,13,14])
 (.cond (.tmp 15)
 .skip
 (.exit 0)))
 (.seq
 (.block 1
 (.seq
 (.region true [
 om 18 0,
 om 19 5,
 oo 20 (.iaddr 2 (.tmp 18) (.tmp 19)),
 oo 21 (.load true 2 (.tmp 20)),
 om 22 1,
 om 23 5,
 oo 24 (.iaddr 2 (.tmp 22) (.tmp 23)),
 oo 25 (.load true 2 (.tmp 24)),
 oo 26 (.call 71 [.tmp 21,.tmp 25]),
 om 6 26] [15,18,19,20,21,22,23,24,25,26])
 (.seq
 (.region false [
 om 27 6,
 oo 28 (.un .not (.tmp 27))] [6,27])
 (.cond (.tmp 28)
 (.seq
 (.region false [
 oo 4 (.mov (.const (.bool false)))] [0,1,5,28])
 .ret)
 .skip))) [28])
 (.region false [
 om 16 5,
 oo 17 (.bin .add 3 (.tmp 16) (.const (.int .i64 1))),
 om 5 17] [16,17]))) [] []) [0,1,5,15]))
 (.seq
 (.region false [
 oo 4 (.mov (.const (.bool true)))] [])
 .ret))))
abbrev v_q33 : List RV:= [.tmp 4]
abbrev f_q33 : FuncId:= 36
theorem k_q33 : closedOf Tryz.prog Tryz.f36 = (false,some true,some v_q33,some c_q33.plain,29):= by kernel_rfl
theorem ac_q33 {args : List AV} {r : AV} (h : aw Tryz.prog c_q33 (env0 args) (endQ v_q33 r)) (hargs : args.length ≤ 29:= by decide) (hok : resOK r = true:= by rfl) : AC Tryz.prog f_q33 args r :=
  AC_mk (by kernel_rfl) Tryz.func36 k_q33 hargs hok (by decide) h
def c_q34 : ACode :=
 (.seq
 (.region false [
 oo 4 (.mov (.const (.bool false)))] [4])
 (.seq
 (.seq
 (.region false [
 om 7 0,
 oo 8 (.lenl (.tmp 7)),
 om 9 1,
 oo 10 (.lenl (.tmp 9)),
 oo 11 (.bin .neq 3 (.tmp 8) (.tmp 10))] [7,8,9,10])
 (.cond (.tmp 11)
 (.seq
 (.region false [
 oo 4 (.mov (.const (.bool false)))] [0,1,11])
 .ret)
 .skip))
 (.seq
 (.seq
 (.region false [
 oo 5 (.mov (.const (.int .i64 0)))] [11])
 (.block 0
 (.loop
 (.seq
 (.seq
 (.region false [
 om 12 5,
 om 13 0,
 oo 14 (.lenl (.tmp 13)),
 oo 15 (.bin .lss 3 (.tmp 12) (.tmp 14))] [12,13,14])
 (.cond (.tmp 15)
 .skip
 (.exit 0)))
 (.seq
 (.block 1
 (.seq
 (.region true [
 om 18 0,
 om 19 5,
 oo 20 (.iaddr 3 (.tmp 18) (.tmp 19)),
 oo 21 (.load true 3 (.tmp 20)),
 om 22 1,
 om 23 5,
 oo 24 (.iaddr 3 (.tmp 22) (.tmp 23)),
 oo 25 (.load true 3 (.tmp 24)),
 oo 26 (.call 72 [.tmp 21,.tmp 25]),
 om 6 26] [15,18,19,20,21,22,23,24,25,26])
 (.seq
 (.region false [
 om 27 6,
 oo 28 (.un .not (.tmp 27))] [6,27])
 (.cond (.tmp 28)
 (.seq
 (.region false [
 oo 4 (.mov (.const (.bool false)))] [0,1,5,28])
 .ret)
 .skip))) [28])
 (.region false [
 om 16 5,
 oo 17 (.bin .add 3 (.tmp 16) (.const (.int .i64 1))),
 om 5 17] [16,17]))) [] []) [0,1,5,15]))
 (.seq
 (.region false [
 oo 4 (.mov (.const (.bool true)))] [])
 .ret))))
abbrev v_q34 : List RV:= [.tmp 4]
abbrev f_q34 : FuncId:= 37
theorem k_q34 : closedOf Tryz.prog Tryz.f37 = (false,some true,some v_q34,some c_q34.plain,29):= by kernel_rfl
theorem ac_q34 {args : List AV} {r : AV} (h : aw Tryz.prog c_q34 (env0 args) (endQ v_q34 r)) (hargs : args.length ≤ 29:= by decide) (hok : resOK r = true:= by rfl) : AC Tryz.prog f_q34 args r :=
  AC_mk (by kernel_rfl) Tryz.func37 k_q34 hargs hok (by decide) h
def c_q35 : ACode :=
 (.seq
 (.region false [
 oo 1 (.box (.tmp 0)),
 oo 2 (.mov (.const (.nilIface)))] [0,2])
 (.seq
 (.region false [
 oo 8 (.load true 7 (.tmp 1)),
 oo 9 (.build [.sl .nil 0 [],.sl .nil 0 [],.sl .nil 0 [],.sl .nil 0 [],.sl .nil 0 [],.sl .nil 0 [],.sl .nil 0 []] [(0,7,.tmp 8)]),
 oo 3 (.alloc [.sl .nil 0 [],.sl .nil 0 [],.sl .nil 0 [],.sl .nil 0 [],.sl .nil 0 [],.sl .nil 0 [],.sl .nil 0 []]),
 ⟨none,.store 7 (.tmp 3) (.tmp 9),none⟩] [8,9])
 (.seq
 (.seq
 (.region false [
 oo 10 (.faddr 0 1 (.tmp 1)),
 oo 11 (.load false 1 (.tmp 10)),
 oo 12 (.lenl (.tmp 11)),
 oo 13 (.load true 7 (.tmp 3)),
 oo 14 (.mkfn (.func 73) [.tmp 13] []),
 oo 15 (.build [.lit (.int .i64 0),.lit (.int .i64 0),.lit (.nilFunc)] [(0,1,.tmp 12),(1,1,.const (.int .i64 16)),(2,1,.tmp 14)]),
 oo 16 (.faddr 1 1 (.tmp 1)),
 oo 17 (.load false 1 (.tmp 16)),
 oo 18 (.lenl (.tmp 17)),
 oo 19 (.load true 7 (.tmp 3)),
 oo 20 (.mkfn (.func 74) [.tmp 19] []),
 oo 21 (.build [.lit (.int .i64 0),.lit (.int .i64 0),.lit (.nilFunc)] [(0,1,.tmp 18),(1,1,.const (.int .i64 24)),(2,1,.tmp 20)]),
 oo 22 (.faddr 2 1 (.tmp 1)),
 oo 23 (.load false 1 (.tmp 22)),
 oo 24 (.lenl (.tmp 23)),
 oo 25 (.load true 7 (.tmp 3)),
 oo 26 (.mkfn (.func 75) [.tmp 25] []),
 oo 27 (.build [.lit (.int .i64 0),.lit (.int .i64 0),.lit (.nilFunc)] [(0,1,.tmp 24),(1,1,.const (.int .i64 64)),(2,1,.tmp 26)]),
 oo 28 (.faddr 3 1 (.tmp 1)),
 oo 29 (.load false 1 (.tmp 28)),
 oo 30 (.lenl (.tmp 29)),
 oo 31 (.load true 7 (.tmp 3)),
 oo 32 (.mkfn (.func 76) [.tmp 31] []),
 oo 33 (.build [.lit (.int .i64 0),.lit (.int .i64 0),.lit (.nilFunc)] [(0,1,.tmp 30),(1,1,.const (.int .i64 96)),(2,1,.tmp 32)]),
 oo 34 (.faddr 4 1 (.tmp 1)),
 oo 35 (.load false 1 (.tmp 34)),
 oo 36 (.lenl (.tmp 35)),
 oo 37 (.load true 7 (.tmp 3)),
 oo 38 (.mkfn (.func 77) [.tmp 37] []),
 oo 39 (.build [.lit (.int .i64 0),.lit (.int .i64 0),.lit (.nilFunc)] [(0,1,.tmp 36),(1,1,.const (.int .i64 8)),(2,1,.tmp 38)]),
 oo 40 (.faddr 5 1 (.tmp 1)),
 oo 41 (.load false 1 (.tmp 40)),
 oo 42 (.lenl (.tmp 41)),
 oo 43 (.load true 7 (.tmp 3)),
 oo 44 (.mkfn (.func 78) [.tmp 43] []),
 oo 45 (.build [.lit (.int .i64 0),.lit (.int .i64 0),.lit (.nilFunc)] [(0,1,.tmp 42),(1,1,.const (.int .i64 8)),(2,1,.tmp 44)]),
 oo 46 (.faddr 6 1 (.tmp 1)),
 oo 47 (.load false 1 (.tmp 46)),
 oo 48 (.lenl (.tmp 47)),
 oo 49 (.load true 7 (.tmp 3)),
 oo 50 (.mkfn (.func 79) [.tmp 49] []),
 oo 51 (.build [.lit (.int .i64 0),.lit (.int .i64 0),.lit (.nilFunc)] [(0,1,.tmp 48),(1,1,.const (.int .i64 24)),(2,1,.tmp 50)]),
 oo 52 (.bslice 7 3 [.tmp 15,.tmp 21,.tmp 27,.tmp 33,.tmp 39,.tmp 45,.tmp 51]),
 oo 53 (.lenl (.tmp 52)),
 oo 54 (.mov (.const (.int .i64 0)))] [1,3,10,11,12,13,14,15,16,17,18,19,20,21,22,23,24,25,26,27,28,29,30,31,32,33,34,35,36,37,38,39,40,41,42,43,44,45,46,47,48,49,50,51])
 (.block 0
 (.loop
 (.seq
 (.region false [
 oo 55 (.bin .lss 3 (.tmp 54) (.tmp 53))] [])
 (.seq
 (.cond (.tmp 55)
 .skip
 (.exit 0))
 (.seq
 (.block 1
 (.seq
 (.region false [
 oo 56 (.iaddr 3 (.tmp 52) (.tmp 54)),
 oo 57 (.load true 3 (.tmp 56)),
 oo 5 (.alloc [.lit (.int .i64 0),.lit (.int .i64 0),.lit (.nilFunc)]),
 ⟨none,.store 3 (.tmp 5) (.tmp 57),none⟩] [55,56,57])
 (.seq
 (.region false [
 oo 58 (.faddr 0 1 (.tmp 5)),
 oo 59 (.load false 1 (.tmp 58)),
 oo 60 (.mov (.const (.int .i64 0)))] [58])
 (.block 2
 (.loop
 (.seq
 (.region false [
 oo 61 (.bin .lss 3 (.tmp 60) (.tmp 59))] [])
 (.seq
 (.cond (.tmp 61)
 .skip
 (.exit 2))
 (.seq
 (.block 3
 (.seq
 (.region false [
 om 62 60,
 om 6 62] [61,62])
 (.seq
 (.seq
 (.region false [
 om 63 6,
 oo 64 (.faddr 1 1 (.tmp 5)),
 oo 65 (.load false 1 (.tmp 64)),
 oo 66 (.bin .geq 3 (.tmp 63) (.tmp 65))] [63,64,65])
 (.cond (.tmp 66)
 (.seq
 (.region false [
 oo 67 (.load false 1 (.global 0)),
 om 2 67] [5,6,52,53,54,59,60,66,67])
 .ret)
 .skip))
 (.seq
 (.region false [
 oo 68 (.faddr 2 1 (.tmp 5)),
 oo 69 (.load false 1 (.tmp 68)),
 om 70 6,
 oo 71 (.callvm (.tmp 69) [.tmp 70]),
 om 7 71] [6,66,68,69,70,71])
 (.seq
 (.region false [
 om 72 7,
 oo 73 (.eqn true (.tmp 72))] [72])
 (.cond (.tmp 73)
 (.seq
 (.region false [
 om 74 7,
 om 2 74] [5,7,52,53,54,59,60,73,74])
 .ret)
 .skip))))) [7,73])
 (.region false [
 oo 75 (.bin .add 3 (.tmp 60) (.const (.int .i64 1))),
 om 60 75] [75])))) [] []) [5,59,60,61]))) [])
 (.region false [
 oo 76 (.bin .add 3 (.tmp 54) (.const (.int .i64 1))),
 om 54 76] [76])))) [] [5]) [52,53,54,55]))
 (.seq
 (.region false [
 oo 2 (.mov (.const (.nilIface)))] [])
 .ret))))
abbrev v_q35 : List RV:= [.tmp 2]
abbrev f_q35 : FuncId:= 38
theorem k_q35 : closedOf Tryz.prog Tryz.f38 = (false,some true,some v_q35,some c_q35.plain,77):= by kernel_rfl
theorem ac_q35 {args : List AV} {r : AV} (h : aw Tryz.prog c_q35 (env0 args) (endQ v_q35 r)) (hargs : args.length ≤ 77:= by decide) (hok : resOK r = true:= by rfl) : AC Tryz.prog f_q35 args r :=
  AC_mk (by kernel_rfl) Tryz.func38 k_q35 hargs hok (by decide) h
def c_q41 : ACode :=
 (.seq
 (.region false [
 oo 1 (.box (.tmp 0)),
 oo 2 (.alloc [.sl .nil 0 [],.sl .nil 0 [],.sl .nil 0 [],.sl .nil 0 [],.sl .nil 0 [],.sl .nil 0 [],.sl .nil 0 []])] [0])
 (.seq
 (.region true [
 oo 5 (.faddr 0 1 (.tmp 1)),
 oo 6 (.load false 1 (.tmp 5)),
 oo 7 (.call 96 [.tmp 6]),
 oo 8 (.faddr 1 1 (.tmp 1)),
 oo 9 (.load false 1 (.tmp 8)),
 oo 10 (.call 97 [.tmp 9]),
 oo 11 (.faddr 2 1 (.tmp 1)),
 oo 12 (.load false 1 (.tmp 11)),
 oo 13 (.call 98 [.tmp 12]),
 oo 14 (.faddr 3 1 (.tmp 1)),
 oo 15 (.load false 1 (.tmp 14)),
 oo 16 (.call 99 [.tmp 15]),
 oo 17 (.faddr 4 1 (.tmp 1)),
 oo 18 (.load false 1 (.tmp 17)),
 oo 19 (.call 100 [.tmp 18]),
 oo 20 (.faddr 5 1 (.tmp 1)),
 oo 21 (.load false 1 (.tmp 20)),
 oo 22 (.call 101 [.tmp 21]),
 oo 23 (.faddr 6 1 (.tmp 1)),
 oo 24 (.load false 1 (.tmp 23)),
 oo 25 (.call 102 [.tmp 24]),
 oo 26 (.build [.sl .nil 0 [],.sl .nil 0 [],.sl .nil 0 [],.sl .nil 0 [],.sl .nil 0 [],.sl .nil 0 [],.sl .nil 0 []] [(0,1,.tmp 7),(1,1,.tmp 10),(2,1,.tmp 13),(3,1,.tmp 16),(4,1,.tmp 19),(5,1,.tmp 22),(6,1,.tmp 25)]),
 oo 3 (.alloc [.sl .nil 0 [],.sl .nil 0 [],.sl .nil 0 [],.sl .nil 0 [],.sl .nil 0 [],.sl .nil 0 [],.sl .nil 0 []]),
 ⟨none,.store 7 (.tmp 3) (.tmp 26),none⟩] [1,5,6,7,8,9,10,11,12,13,14,15,16,17,18,19,20,21,22,23,24,25,26])
 (.seq
 (.seq
 (.shift
 (.region false [
 oo 27 (.faddr 6 1 (.tmp 3)),
 oo 28 (.load false 1 (.tmp 27)),
 oo 29 (.lenl (.tmp 28)),
 oo 30 (.mov (.const (.int .i64 0)))] [27,28]))
 (.block 0
 (.loop
 (.seq
 (.region false [
 oo 31 (.bin .lss 3 (.tmp 30) (.tmp 29))] [])
 (.seq
 (.cond (.tmp 31)
 .skip
 (.exit 0))
 (.seq
 (.block 1
 (.seq
 (.region false [
 om 32 30,
 om 4 32] [31,32])
 (.region true [
 oo 33 (.faddr 6 1 (.tmp 3)),
 oo 34 (.load false 1 (.tmp 33)),
 om 35 4,
 oo 36 (.faddr 6 1 (.tmp 3)),
 oo 37 (.load false 1 (.tmp 36)),
 om 38 4,
 oo 39 (.iaddr 4 (.tmp 37) (.tmp 38)),
 oo 40 (.faddr 3 1 (.tmp 39)),
 oo 41 (.load false 1 (.tmp 40)),
 oo 42 (.call 54 [.tmp 41]),
 oo 43 (.iaddr 4 (.tmp 34) (.tmp 35)),
 oo 44 (.faddr 3 1 (.tmp 43)),
 ⟨none,.store 1 (.tmp 44) (.tmp 42),none⟩] [4,33,34,35,36,37,38,39,40,41,42,43,44])) [])
 (.region false [
 oo 45 (.bin .add 3 (.tmp 30) (.const (.int .i64 1))),
 om 30 45] [45])))) [] []) [29,30,31]))
 (.seq
 (.region false [
 oo 46 (.load true 7 (.tmp 3)),
 ⟨none,.store 7 (.tmp 2) (.tmp 46),none⟩] [3,46])
 .ret))))
abbrev v_q41 : List RV:= [.cell true 7 2]
abbrev f_q41 : FuncId:= 44
theorem k_q41 : closedOf Tryz.prog Tryz.f44 = (false,some true,some v_q41,some c_q41.plain,47):= by kernel_rfl
theorem ac_q41 {args : List AV} {r : AV} (h : aw Tryz.prog c_q41 (env0 args) (endQ v_q41 r)) (hargs : args.length ≤ 47:= by decide) (hok : resOK r = true:= by rfl) : AC Tryz.prog f_q41 args r :=
  AC_mk (by kernel_rfl) Tryz.func44 k_q41 hargs hok (by decide) h
def c_q42 : ACode :=
 (.seq
 (.region false [
 oo 2 (.alloc [.lit (.int .i64 0),.lit (.bool false),.lit (.int .i64 0)])] [])
 (.seq
 (.seq
 (.region false [
 om 5 0,
 oo 6 (.eqn false (.tmp 5))] [5])
 (.cond (.tmp 6)
 (.seq
 (.region false [
 oo 7 (.callm 64 []),
 ⟨none,.store 3 (.tmp 2) (.tmp 7),none⟩] [0,6,7])
 .ret)
 .skip))
 (.seq
 (.region false [
 om 9 0,
 oo 10 (.tas 121 (ofVal (.pointer none)) (.tmp 9)),
 om 8 10,
 oo 11 (.ext (.tmp 8) 0),
 oo 12 (.ext (.tmp 8) 1),
 om 3 11,
 om 4 12] [6,8,9,10,11,12])
 (.seq
 (.seq
 (.region false [
 om 13 4,
 oo 14 (.un .not (.tmp 13))] [4,13])
 (.cond (.tmp 14)
 (.seq
 (.region false [
 om 15 0,
 oo 16 (.callm 103 [.tmp 15]),
 oo 17 (.callm 50 [.tmp 16]),
 ⟨none,.store 3 (.tmp 2) (.tmp 17),none⟩] [0,3,14,15,16,17])
 .ret)
 .skip))
 (.seq
 (.seq
 (.region false [
 om 18 3,
 oo 19 (.eqp false (.tmp 18)),
 om 20 19,
 og 21 (.mov (.tmp 3)) 20 false,
 og 22 (.nilchk (.tmp 21)) 20 false,
 og 23 (.faddr 1 1 (.tmp 22)) 20 false,
 og 24 (.load false 1 (.tmp 23)) 20 false,
 og 25 (.eqn false (.tmp 24)) 20 false,
 oo 26 (.pick (.tmp 20) (.const (.bool true)) (.tmp 25))] [0,14,18,19,20,21,22,23,24,25])
 (.cond (.tmp 26)
 (.seq
 (.region false [
 oo 27 (.callm 50 [.const (.int .i64 (-1))]),
 ⟨none,.store 3 (.tmp 2) (.tmp 27),none⟩] [3,26,27])
 .ret)
 .skip))
 (.seq
 (.region true [
 om 28 3,
 oo 29 (.nilchk (.tmp 28)),
 oo 30 (.faddr 1 1 (.tmp 29)),
 oo 31 (.load false 1 (.tmp 30)),
 oo 32 (.call 103 [.tmp 31]),
 om 33 3,
 oo 34 (.nilchk (.tmp 33)),
 oo 35 (.faddr 0 1 (.tmp 34)),
 oo 36 (.load false 1 (.tmp 35)),
 oo 37 (.call 33 [.tmp 32,.tmp 36]),
 ⟨none,.store 3 (.tmp 2) (.tmp 37),none⟩] [3,26,28,29,30,31,32,33,34,35,36,37])
 .ret))))))
abbrev v_q42 : List RV:= [.cell true 3 2]
abbrev f_q42 : FuncId:= 45
theorem k_q42 : closedOf Tryz.prog Tryz.f45 = (false,some true,some v_q42,some c_q42.plain,38):= by kernel_rfl
theorem ac_q42 {args : List AV} {r : AV} (h : aw Tryz.prog c_q42 (env0 args) (endQ v_q42 r)) (hargs : args.length ≤ 38:= by decide) (hok : resOK r = true:= by rfl) : AC Tryz.prog f_q42 args r :=
  AC_mk (by kernel_rfl) Tryz.func45 k_q42 hargs hok (by decide) h
def c_q43 : ACode :=
 (.seq
 (.region false [
 om 3 0,
 oo 4 (.lenl (.tmp 3)),
 om 2 4] [3,4])
 (.region false [
 om 5 0,
 om 6 2,
 om 7 2,
 oo 8 (.cint .u64 (.tmp 7)),
 oo 9 (.callm 105 [.tmp 8]),
 oo 10 (.callm 104 [.tmp 5,.const (.int .i64 0),.tmp 6,.tmp 9])] [0,2,5,6,7,8,9,10]))
abbrev v_q43 : List RV:= []
abbrev f_q43 : FuncId:= 46
theorem k_q43 : closedOf Tryz.prog Tryz.f46 = (false,some true,some v_q43,some c_q43.plain,11):= by kernel_rfl
theorem ac_q43 {args : List AV} {r : AV} (h : aw Tryz.prog c_q43 (env0 args) (endQ v_q43 r)) (hargs : args.length ≤ 11:= by decide) (hok : resOK r = true:= by rfl) : AC Tryz.prog f_q43 args r :=
  AC_mk (by kernel_rfl) Tryz.func46 k_q43 hargs hok (by decide) h
theorem am_q43 {args : List AV} {c0 c1 : List (Nat × List AV)} {r : AV} (h : aw Tryz.prog c_q43 (env0M args c0) (endM v_q43 r (c0.map (·.1)) c1)) (hc0 : ∀ q ∈ c0,100000 ≤ q.1) (hargs : args.length ≤ 11:= by decide) (hok : resOK r = true:= by rfl) : AM Tryz.prog f_q43 args c0 r c1 :=
  AM_mk (by kernel_rfl) Tryz.func46 k_q43 hargs hok (by decide) hc0 h
def c_q44 : ACode :=
 (.seq
 (.region false [
 oo 2 (.mov (.const (.slice none 0 0)))] [2])
 (.seq
 (.seq
 (.region false [
 om 6 0,
 oo 7 (.lenl (.tmp 6)),
 oo 8 (.bin .lss 3 (.tmp 7) (.const (.int .i64 2)))] [6,7])
 (.cond (.tmp 8)
 (.seq
 (.shift
 (.region false [
 om 9 0,
 om 2 9] [0,8,9]))
 .ret)
 .skip))
 (.seq
 (.seq
 (.region false [
 oo 3 (.mov (.const (.int .i64 1)))] [8])
 (.block 0
 (.loop
 (.seq
 (.seq
 (.region false [
 om 10 3,
 om 11 0,
 oo 12 (.lenl (.tmp 11)),
 oo 13 (.bin .lss 3 (.tmp 10) (.tmp 12))] [10,11,12])
 (.cond (.tmp 13)
 .skip
 (.exit 0)))
 (.seq
 (.block 1
 (.seq
 (.region true [
 om 16 0,
 om 17 3,
 oo 18 (.iaddr 1 (.tmp 16) (.tmp 17)),
 oo 19 (.load false 1 (.tmp 18)),
 om 20 0,
 om 21 3,
 oo 22 (.bin .sub 3 (.tmp 21) (.const (.int .i64 1))),
 oo 23 (.iaddr 1 (.tmp 20) (.tmp 22)),
 oo 24 (.load false 1 (.tmp 23)),
 oo 25 (.bin .eql 32 (.tmp 19) (.tmp 24))] [13,16,17,18,19,20,21,22,23,24])
 (.cond (.tmp 25)
 (.seq
 (.region false [
 om 26 0,
 om 27 3,
 oo 28 (.slc 1 (.tmp 26) (some (.tmp 27)) none),
 om 4 28] [25,26,27,28])
 (.seq
 (.seq
 (.region false [
 oo 5 (.mov (.const (.int .i64 1)))] [])
 (.block 2
 (.loop
 (.seq
 (.seq
 (.region false [
 om 29 5,
 om 30 4,
 oo 31 (.lenl (.tmp 30)),
 oo 32 (.bin .lss 3 (.tmp 29) (.tmp 31))] [29,30,31])
 (.cond (.tmp 32)
 .skip
 (.exit 2)))
 (.seq
 (.block 3
 (.seq
 (.region true [
 om 35 4,
 om 36 5,
 oo 37 (.iaddr 1 (.tmp 35) (.tmp 36)),
 oo 38 (.load false 1 (.tmp 37)),
 om 39 4,
 om 40 5,
 oo 41 (.bin .sub 3 (.tmp 40) (.const (.int .i64 1))),
 oo 42 (.iaddr 1 (.tmp 39) (.tmp 41)),
 oo 43 (.load false 1 (.tmp 42)),
 oo 44 (.bin .neq 32 (.tmp 38) (.tmp 43))] [32,35,36,37,38,39,40,41,42,43])
 (.cond (.tmp 44)
 (.seq
 (.region false [
 om 45 0,
 om 46 3,
 om 47 4,
 om 48 5,
 oo 49 (.iaddr 1 (.tmp 47) (.tmp 48)),
 oo 50 (.load false 1 (.tmp 49)),
 oo 51 (.iaddr 1 (.tmp 45) (.tmp 46)),
 ⟨none,.store 1 (.tmp 51) (.tmp 50),none⟩] [44,45,46,47,48,49,50,51])
 (.region false [
 om 52 3,
 oo 53 (.bin .add 3 (.tmp 52) (.const (.int .i64 1))),
 om 3 53] [52,53]))
 .skip)) [44])
 (.region false [
 om 33 5,
 oo 34 (.bin .add 3 (.tmp 33) (.const (.int .i64 1))),
 om 5 34] [33,34]))) [] []) [4,5,32]))
 (.seq
 (.region false [
 om 54 0,
 om 55 3,
 oo 56 (.slc 1 (.tmp 54) (some (.tmp 55)) none),
 ⟨none,.clr [.lit (.int .u32 0)] (.tmp 56),none⟩] [54,55,56])
 (.seq
 (.region false [
 om 57 0,
 om 58 3,
 oo 59 (.slc 1 (.tmp 57) none (some (.tmp 58))),
 om 2 59] [0,3,57,58,59])
 .ret))))
 .skip)) [25])
 (.region false [
 om 14 3,
 oo 15 (.bin .add 3 (.tmp 14) (.const (.int .i64 1))),
 om 3 15] [14,15]))) [] []) [3,13]))
 (.seq
 (.region false [
 om 60 0,
 om 2 60] [0,60])
 .ret))))
abbrev v_q44 : List RV:= [.tmp 2]
abbrev f_q44 : FuncId:= 47
theorem k_q44 : closedOf Tryz.prog Tryz.f47 = (false,some true,some v_q44,some c_q44.plain,61):= by kernel_rfl
theorem ac_q44 {args : List AV} {r : AV} (h : aw Tryz.prog c_q44 (env0 args) (endQ v_q44 r)) (hargs : args.length ≤ 61:= by decide) (hok : resOK r = true:= by rfl) : AC Tryz.prog f_q44 args r :=
  AC_mk (by kernel_rfl) Tryz.func47 k_q44 hargs hok (by decide) h
theorem am_q44 {args : List AV} {c0 c1 : List (Nat × List AV)} {r : AV} (h : aw Tryz.prog c_q44 (env0M args c0) (endM v_q44 r (c0.map (·.1)) c1)) (hc0 : ∀ q ∈ c0,100000 ≤ q.1) (hargs : args.length ≤ 61:= by decide) (hok : resOK r = true:= by rfl) : AM Tryz.prog f_q44 args c0 r c1 :=
  AM_mk (by kernel_rfl) Tryz.func47 k_q44 hargs hok (by decide) hc0 h
def c_q45 : ACode :=
 (.seq
 (.region false [
 oo 1 (.box (.tmp 0)),
 oo 2 (.alloc [.lit (.int .i64 0),.lit (.int .i64 0),.lit (.int .i64 0),.lit (.int .i64 0),.lit (.int .i64 0),.lit (.int .i64 0),.lit (.int .i64 0)]),
 oo 3 (.alloc [.lit (.int .i64 0),.lit (.int .i64 0),.lit (.int .i64 0),.lit (.int .i64 0),.lit (.int .i64 0),.lit (.int .i64 0),.lit (.int .i64 0)])] [0])
 (.seq
 (.region false [
 oo 4 (.faddr 0 1 (.tmp 1)),
 oo 5 (.load false 1 (.tmp 4)),
 oo 6 (.lenl (.tmp 5)),
 oo 7 (.faddr 1 1 (.tmp 1)),
 oo 8 (.load false 1 (.tmp 7)),
 oo 9 (.lenl (.tmp 8)),
 oo 10 (.faddr 2 1 (.tmp 1)),
 oo 11 (.load false 1 (.tmp 10)),
 oo 12 (.lenl (.tmp 11)),
 oo 13 (.faddr 3 1 (.tmp 1)),
 oo 14 (.load false 1 (.tmp 13)),
 oo 15 (.lenl (.tmp 14)),
 oo 16 (.faddr 4 1 (.tmp 1)),
 oo 17 (.load false 1 (.tmp 16)),
 oo 18 (.lenl (.tmp 17)),
 oo 19 (.faddr 5 1 (.tmp 1)),
 oo 20 (.load false 1 (.tmp 19)),
 oo 21 (.lenl (.tmp 20)),
 oo 22 (.faddr 6 1 (.tmp 1)),
 oo 23 (.load false 1 (.tmp 22)),
 oo 24 (.lenl (.tmp 23)),
 oo 25 (.build [.lit (.int .i64 0),.lit (.int .i64 0),.lit (.int .i64 0),.lit (.int .i64 0),.lit (.int .i64 0),.lit (.int .i64 0),.lit (.int .i64 0)] [(0,1,.tmp 6),(1,1,.tmp 9),(2,1,.tmp 12),(3,1,.tmp 15),(4,1,.tmp 18),(5,1,.tmp 21),(6,1,.tmp 24)]),
 oo 26 (.build [.lit (.int .i64 0),.lit (.int .i64 0),.lit (.int .i64 0),.lit (.int .i64 0),.lit (.int .i64 0),.lit (.int .i64 0),.lit (.int .i64 0)] [(0,1,.const (.int .i64 16)),(1,1,.const (.int .i64 24)),(2,1,.const (.int .i64 64)),(3,1,.const (.int .i64 96)),(4,1,.const (.int .i64 8)),(5,1,.const (.int .i64 8)),(6,1,.const (.int .i64 24))]),
 ⟨none,.store 7 (.tmp 2) (.tmp 25),none⟩,
 ⟨none,.store 7 (.tmp 3) (.tmp 26),none⟩] [1,4,5,6,7,8,9,10,11,12,13,14,15,16,17,18,19,20,21,22,23,24,25,26])
 .ret))
abbrev v_q45 : List RV:= [.cell true 7 2,.cell true 7 3]
abbrev f_q45 : FuncId:= 48
theorem k_q45 : closedOf Tryz.prog Tryz.f48 = (false,some true,some v_q45,some c_q45.plain,27):= by kernel_rfl
theorem ac_q45 {args : List AV} {r : AV} (h : aw Tryz.prog c_q45 (env0 args) (endQ v_q45 r)) (hargs : args.length ≤ 27:= by decide) (hok : resOK r = true:= by rfl) : AC Tryz.prog f_q45 args r :=
  AC_mk (by kernel_rfl) Tryz.func48 k_q45 hargs hok (by decide) h
def c_q46 : ACode :=
 (.seq
 (.region false [
 oo 3 (.box (.tmp 0)),
 oo 6 (.mov (.const (.int .i64 0)))] [0,6])
 (.seq
 (.seq
 (.region false [
 om 7 1] [1])
 (.block 0
 (.seq
 (.region false [
 oo 9 (.bin .eql 3 (.tmp 7) (.const (.int .i64 0))),
 om 8 9] [9])
 (.cond (.tmp 8)
 (.seq
 (.region false [
 oo 10 (.load true 7 (.tmp 3)),
 om 11 2,
 oo 12 (.callm 106 [.tmp 10,.tmp 11]),
 om 6 12] [2,3,7,8,10,11,12])
 .ret)
 (.seq
 (.region false [
 oo 14 (.bin .eql 3 (.tmp 7) (.const (.int .i64 1))),
 om 13 14] [8,14])
 (.cond (.tmp 13)
 (.seq
 (.region false [
 oo 15 (.load true 7 (.tmp 3)),
 om 16 2,
 oo 17 (.callm 107 [.tmp 15,.tmp 16]),
 om 6 17] [2,3,7,13,15,16,17])
 .ret)
 (.seq
 (.region false [
 oo 19 (.bin .eql 3 (.tmp 7) (.const (.int .i64 2))),
 om 18 19] [13,19])
 (.cond (.tmp 18)
 (.seq
 (.region false [
 oo 20 (.load true 7 (.tmp 3)),
 om 21 2,
 oo 22 (.callm 108 [.tmp 20,.tmp 21]),
 om 6 22] [2,3,7,18,20,21,22])
 .ret)
 (.seq
 (.region false [
 oo 24 (.bin .eql 3 (.tmp 7) (.const (.int .i64 3))),
 om 23 24] [18,24])
 (.cond (.tmp 23)
 (.seq
 (.region false [
 oo 25 (.load true 7 (.tmp 3)),
 om 26 2,
 oo 27 (.callm 109 [.tmp 25,.tmp 26]),
 om 6 27] [2,3,7,23,25,26,27])
 .ret)
 (.seq
 (.region false [
 oo 29 (.bin .eql 3 (.tmp 7) (.const (.int .i64 4))),
 om 28 29] [23,29])
 (.cond (.tmp 28)
 (.seq
 (.region false [
 oo 30 (.load true 7 (.tmp 3)),
 om 31 2,
 oo 32 (.callm 110 [.tmp 30,.tmp 31]),
 om 6 32] [2,3,7,28,30,31,32])
 .ret)
 (.seq
 (.region false [
 oo 34 (.bin .eql 3 (.tmp 7) (.const (.int .i64 5))),
 om 33 34] [7,28,34])
 (.cond (.tmp 33)
 (.seq
 (.region false [
 oo 35 (.load true 7 (.tmp 3)),
 om 36 2,
 oo 37 (.callm 111 [.tmp 35,.tmp 36]),
 om 6 37] [2,3,33,35,36,37])
 .ret)
 .skip)))))))))))) [33]))
 (.seq
 (.region false [
 oo 38 (.load true 7 (.tmp 3)),
 om 39 2,
 oo 40 (.callm 112 [.tmp 38,.tmp 39]),
 om 6 40] [2,3,38,39,40])
 .ret)))
abbrev v_q46 : List RV:= [.tmp 6]
abbrev f_q46 : FuncId:= 49
theorem k_q46 : closedOf Tryz.prog Tryz.f49 = (false,some true,some v_q46,some c_q46.plain,41):= by kernel_rfl
theorem ac_q46 {args : List AV} {r : AV} (h : aw Tryz.prog c_q46 (env0 args) (endQ v_q46 r)) (hargs : args.length ≤ 41:= by decide) (hok : resOK r = true:= by rfl) : AC Tryz.prog f_q46 args r :=
  AC_mk (by kernel_rfl) Tryz.func49 k_q46 hargs hok (by decide) h
def c_q47 : ACode :=
 (.seq
 (.region false [
 oo 2 (.alloc [.lit (.int .i64 0),.lit (.bool false),.lit (.int .i64 0)])] [])
 (.seq
 (.region false [
 om 3 0,
 oo 4 (.build [.lit (.int .i64 0),.lit (.bool false),.lit (.int .i64 0)] [(0,1,.tmp 3)]),
 ⟨none,.store 3 (.tmp 2) (.tmp 4),none⟩] [0,3,4])
 .ret))
abbrev v_q47 : List RV:= [.cell true 3 2]
abbrev f_q47 : FuncId:= 50
theorem k_q47 : closedOf Tryz.prog Tryz.f50 = (false,some true,some v_q47,some c_q47.plain,5):= by kernel_rfl
theorem ac_q47 {args : List AV} {r : AV} (h : aw Tryz.prog c_q47 (env0 args) (endQ v_q47 r)) (hargs : args.length ≤ 5:= by decide) (hok : resOK r = true:= by rfl) : AC Tryz.prog f_q47 args r :=
  AC_mk (by kernel_rfl) Tryz.func50 k_q47 hargs hok (by decide) h
def c_q48 : ACode :=
 (.seq
 (.region false [
 oo 4 (.mov (.const (.slice none 0 0)))] [4])
 (.seq
 (.seq
 (.region false [
 om 5 1,
 oo 6 (.bin .lss 3 (.tmp 5) (.const (.int .i64 0))),
 om 7 6,
 og 8 (.mov (.tmp 1)) 7 false,
 og 9 (.mov (.tmp 0)) 7 false,
 og 10 (.lenl (.tmp 9)) 7 false,
 og 11 (.bin .geq 3 (.tmp 8) (.tmp 10)) 7 false,
 oo 12 (.pick (.tmp 7) (.const (.bool true)) (.tmp 11))] [5,6,7,8,9,10,11])
 (.cond (.tmp 12)
 (.seq
 (.region false [
 oo 4 (.mov (.const (.slice none 0 0)))] [0,1,12])
 .ret)
 .skip))
 (.seq
 (.region false [
 om 13 0,
 om 14 1,
 oo 15 (.iaddr 1 (.tmp 13) (.tmp 14)),
 oo 16 (.load false 1 (.tmp 15)),
 oo 17 (.callm 113 [.tmp 16]),
 om 4 17] [0,1,12,13,14,15,16,17])
 .ret)))
abbrev v_q48 : List RV:= [.tmp 4]
abbrev f_q48 : FuncId:= 51
theorem k_q48 : closedOf Tryz.prog Tryz.f51 = (false,some true,some v_q48,some c_q48.plain,18):= by kernel_rfl
theorem ac_q48 {args : List AV} {r : AV} (h : aw Tryz.prog c_q48 (env0 args) (endQ v_q48 r)) (hargs : args.length ≤ 18:= by decide) (hok : resOK r = true:= by rfl) : AC Tryz.prog f_q48 args r :=
  AC_mk (by kernel_rfl) Tryz.func51 k_q48 hargs hok (by decide) h
def c_q49 : ACode :=
 (.seq
 (.region false [
 oo 4 (.mov (.const (.slice none 0 0)))] [4])
 (.seq
 (.region false [
 om 8 0,
 om 9 1,
 oo 10 (.callm 114 [.tmp 8,.tmp 9]),
 om 5 10] [8,9,10])
 (.seq
 (.seq
 (.shift
 (.region false [
 om 11 5,
 oo 12 (.bin .eql 3 (.tmp 11) (.const (.int .i64 (-1))))] [11]))
 (.cond (.tmp 12)
 (.seq
 (.region false [
 om 13 0,
 om 4 13] [0,1,5,12,13])
 .ret)
 .skip))
 (.seq
 (.seq
 (.region false [
 om 14 5,
 oo 15 (.bin .add 3 (.tmp 14) (.const (.int .i64 1))),
 om 6 15] [12,14,15])
 (.block 0
 (.loop
 (.seq
 (.seq
 (.region false [
 om 16 6,
 om 17 0,
 oo 18 (.lenl (.tmp 17)),
 oo 19 (.bin .lss 3 (.tmp 16) (.tmp 18))] [16,17,18])
 (.cond (.tmp 19)
 .skip
 (.exit 0)))
 (.seq
 (.block 1
 (.seq
 (.region false [
 om 22 0,
 om 23 6,
 oo 24 (.iaddr 1 (.tmp 22) (.tmp 23)),
 oo 25 (.load false 1 (.tmp 24)),
 om 7 25] [19,22,23,24,25])
 (.seq
 (.region false [
 om 26 1,
 om 27 7,
 oo 28 (.callvm (.tmp 26) [.tmp 27]),
 oo 29 (.un .not (.tmp 28))] [26,27,28])
 (.cond (.tmp 29)
 (.seq
 (.region false [
 om 30 0,
 om 31 5,
 om 32 7,
 oo 33 (.iaddr 1 (.tmp 30) (.tmp 31)),
 ⟨none,.store 1 (.tmp 33) (.tmp 32),none⟩] [7,29,30,31,32,33])
 (.region false [
 om 34 5,
 oo 35 (.bin .add 3 (.tmp 34) (.const (.int .i64 1))),
 om 5 35] [34,35]))
 .skip))) [7,29])
 (.region false [
 om 20 6,
 oo 21 (.bin .add 3 (.tmp 20) (.const (.int .i64 1))),
 om 6 21] [20,21]))) [] []) [1,6,19]))
 (.seq
 (.region false [
 om 36 0,
 om 37 5,
 oo 38 (.slc 1 (.tmp 36) (some (.tmp 37)) none),
 ⟨none,.clr [.lit (.int .i64 0)] (.tmp 38),none⟩] [36,37,38])
 (.seq
 (.region false [
 om 39 0,
 om 40 5,
 oo 41 (.slc 1 (.tmp 39) none (some (.tmp 40))),
 om 4 41] [0,5,39,40,41])
 .ret))))))
abbrev v_q49 : List RV:= [.tmp 4]
abbrev f_q49 : FuncId:= 52
theorem k_q49 : closedOf Tryz.prog Tryz.f52 = (false,some true,some v_q49,some c_q49.plain,42):= by kernel_rfl
theorem am_q49 {args : List AV} {c0 c1 : List (Nat × List AV)} {r : AV} (h : aw Tryz.prog c_q49 (env0M args c0) (endM v_q49 r (c0.map (·.1)) c1)) (hc0 : ∀ q ∈ c0,100000 ≤ q.1) (hargs : args.length ≤ 42:= by decide) (hok : resOK r = true:= by rfl) : AM Tryz.prog f_q49 args c0 r c1 :=
  AM_mk (by kernel_rfl) Tryz.func52 k_q49 hargs hok (by decide) hc0 h
def c_q50 : ACode :=
 (.seq
 (.region false [
 oo 4 (.mov (.const (.bool false)))] [4])
 (.seq
 (.region true [
 oo 5 (.load false 1 (.tmp 1)),
 oo 6 (.nilchk (.tmp 5)),
 oo 7 (.faddr 0 7 (.tmp 6)),
 oo 8 (.faddr 2 1 (.tmp 7)),
 oo 9 (.load false 1 (.tmp 8)),
 om 10 0,
 oo 11 (.iaddr 3 (.tmp 9) (.tmp 10)),
 oo 12 (.faddr 0 1 (.tmp 11)),
 oo 13 (.load false 1 (.tmp 12)),
 oo 14 (.faddr 0 1 (.tmp 2)),
 oo 15 (.load false 1 (.tmp 14)),
 oo 16 (.bin .eql 3 (.tmp 13) (.tmp 15)),
 om 4 16] [0,1,2,5,6,7,8,9,10,11,12,13,14,15,16])
 .ret))
abbrev v_q50 : List RV:= [.tmp 4]
abbrev f_q50 : FuncId:= 53
theorem k_q50 : closedOf Tryz.prog Tryz.f53 = (false,some true,some v_q50,some c_q50.plain,17):= by kernel_rfl
theorem ac_q50 {args : List AV} {r : AV} (h : aw Tryz.prog c_q50 (env0 args) (endQ v_q50 r)) (hargs : args.length ≤ 17:= by decide) (hok : resOK r = true:= by rfl) : AC Tryz.prog f_q50 args r :=
  AC_mk (by kernel_rfl) Tryz.func53 k_q50 hargs hok (by decide) h
def c_q51 : ACode :=
 (.seq
 (.region false [
 oo 2 (.mov (.const (.slice none 0 0)))] [2])
 (.seq
 (.seq
 (.region false [
 om 3 0,
 oo 4 (.eqs false (.tmp 3))] [3])
 (.cond (.tmp 4)
 (.seq
 (.region false [
 oo 2 (.mov (.const (.slice none 0 0)))] [0,4])
 .ret)
 .skip))
 (.seq
 (.shift
 (.region false [
 oo 5 (.bsl0 1),
 om 6 0,
 oo 7 (.app 1 4 [] (.tmp 5) (.tmp 6)),
 om 2 7] [0,4,5,6,7]))
 .ret)))
abbrev v_q51 : List RV:= [.tmp 2]
abbrev f_q51 : FuncId:= 54
theorem k_q51 : closedOf Tryz.prog Tryz.f54 = (false,some true,some v_q51,some c_q51.plain,8):= by kernel_rfl
theorem ac_q51 {args : List AV} {r : AV} (h : aw Tryz.prog c_q51 (env0 args) (endQ v_q51 r)) (hargs : args.length ≤ 8:= by decide) (hok : resOK r = true:= by rfl) : AC Tryz.prog f_q51 args r :=
  AC_mk (by kernel_rfl) Tryz.func54 k_q51 hargs hok (by decide) h
def c_q52 : ACode :=
 (.seq
 (.region false [
 oo 4 (.mov (.const (.slice none 0 0)))] [4])
 (.seq
 (.region false [
 oo 5 (.mov (.const (.int .i64 0)))] [])
 (.seq
 (.block 0
 (.loop
 (.seq
 (.seq
 (.region false [
 om 7 5,
 om 8 0,
 oo 9 (.lenl (.tmp 8)),
 oo 10 (.bin .lss 3 (.tmp 7) (.tmp 9)),
 om 11 10,
 og 12 (.mov (.tmp 0)) 11 true,
 og 13 (.mov (.tmp 5)) 11 true,
 og 14 (.iaddr 1 (.tmp 12) (.tmp 13)) 11 true,
 og 15 (.load false 1 (.tmp 14)) 11 true,
 og 16 (.mov (.tmp 1)) 11 true,
 og 17 (.bin .lss 32 (.tmp 15) (.tmp 16)) 11 true,
 oo 18 (.pick (.tmp 11) (.tmp 17) (.const (.bool false)))] [7,8,9,10,11,12,13,14,15,16,17])
 (.cond (.tmp 18)
 .skip
 (.exit 0)))
 (.block 1
 (.region false [
 om 19 5,
 oo 20 (.bin .add 3 (.tmp 19) (.const (.int .i64 1))),
 om 5 20] [18,19,20]) [])) [] []) [18])
 (.seq
 (.seq
 (.region false [
 om 21 5,
 om 22 0,
 oo 23 (.lenl (.tmp 22)),
 oo 24 (.bin .lss 3 (.tmp 21) (.tmp 23)),
 om 25 24,
 og 26 (.mov (.tmp 0)) 25 true,
 og 27 (.mov (.tmp 5)) 25 true,
 og 28 (.iaddr 1 (.tmp 26) (.tmp 27)) 25 true,
 og 29 (.load false 1 (.tmp 28)) 25 true,
 og 30 (.mov (.tmp 1)) 25 true,
 og 31 (.bin .eql 32 (.tmp 29) (.tmp 30)) 25 true,
 oo 32 (.pick (.tmp 25) (.tmp 31) (.const (.bool false)))] [21,22,23,24,25,26,27,28,29,30,31])
 (.cond (.tmp 32)
 (.seq
 (.region false [
 om 33 0,
 om 4 33] [0,1,5,32,33])
 .ret)
 .skip))
 (.seq
 (.region false [
 om 34 0,
 om 35 5,
 oo 36 (.slc 1 (.tmp 34) none (some (.tmp 35))),
 oo 37 (.callm 115 [.tmp 36]),
 om 38 1,
 oo 39 (.bslice 1 1 [.tmp 38]),
 oo 40 (.app 1 4 [] (.tmp 37) (.tmp 39)),
 om 6 40] [1,32,34,35,36,37,38,39,40])
 (.seq
 (.region false [
 om 41 6,
 om 42 0,
 om 43 5,
 oo 44 (.slc 1 (.tmp 42) (some (.tmp 43)) none),
 oo 45 (.app 1 4 [] (.tmp 41) (.tmp 44)),
 om 4 45] [0,5,6,41,42,43,44,45])
 .ret))))))
abbrev v_q52 : List RV:= [.tmp 4]
abbrev f_q52 : FuncId:= 55
theorem k_q52 : closedOf Tryz.prog Tryz.f55 = (false,some true,some v_q52,some c_q52.plain,46):= by kernel_rfl
theorem ac_q52 {args : List AV} {r : AV} (h : aw Tryz.prog c_q52 (env0 args) (endQ v_q52 r)) (hargs : args.length ≤ 46:= by decide) (hok : resOK r = true:= by rfl) : AC Tryz.prog f_q52 args r :=
  AC_mk (by kernel_rfl) Tryz.func55 k_q52 hargs hok (by decide) h
def c_q53 : ACode :=
 (.seq
 (.region false [
 oo 4 (.mov (.const (.bool false)))] [4])
 (.seq
 (.seq
 (.region false [
 om 7 0,
 oo 8 (.lenl (.tmp 7)),
 om 9 1,
 oo 10 (.lenl (.tmp 9)),
 oo 11 (.bin .neq 3 (.tmp 8) (.tmp 10))] [7,8,9,10])
 (.cond (.tmp 11)
 (.seq
 (.region false [
 oo 4 (.mov (.const (.bool false)))] [0,1,11])
 .ret)
 .skip))
 (.seq
 (.seq
 (.region false [
 oo 5 (.mov (.const (.int .i64 0)))] [11])
 (.block 0
 (.loop
 (.seq
 (.seq
 (.region false [
 om 12 5,
 om 13 0,
 oo 14 (.lenl (.tmp 13)),
 oo 15 (.bin .lss 3 (.tmp 12) (.tmp 14))] [12,13,14])
 (.cond (.tmp 15)
 .skip
 (.exit 0)))
 (.seq
 (.block 1
 (.seq
 (.region true [
 om 18 0,
 om 19 5,
 oo 20 (.iaddr 3 (.tmp 18) (.tmp 19)),
 oo 21 (.load true 3 (.tmp 20)),
 om 22 1,
 om 23 5,
 oo 24 (.iaddr 3 (.tmp 22) (.tmp 23)),
 oo 25 (.load true 3 (.tmp 24)),
 oo 26 (.call 116 [.tmp 21,.tmp 25]),
 om 6 26] [15,18,19,20,21,22,23,24,25,26])
 (.seq
 (.region false [
 om 27 6,
 oo 28 (.un .not (.tmp 27))] [6,27])
 (.cond (.tmp 28)
 (.seq
 (.region false [
 oo 4 (.mov (.const (.bool false)))] [0,1,5,28])
 .ret)
 .skip))) [28])
 (.region false [
 om 16 5,
 oo 17 (.bin .add 3 (.tmp 16) (.const (.int .i64 1))),
 om 5 17] [16,17]))) [] []) [0,1,5,15]))
 (.seq
 (.region false [
 oo 4 (.mov (.const (.bool true)))] [])
 .ret))))
abbrev v_q53 : List RV:= [.tmp 4]
abbrev f_q53 : FuncId:= 56
theorem k_q53 : closedOf Tryz.prog Tryz.f56 = (false,some true,some v_q53,some c_q53.plain,29):= by kernel_rfl
theorem ac_q53 {args : List AV} {r : AV} (h : aw Tryz.prog c_q53 (env0 args) (endQ v_q53 r)) (hargs : args.length ≤ 29:= by decide) (hok : resOK r = true:= by rfl) : AC Tryz.prog f_q53 args r :=
  AC_mk (by kernel_rfl) Tryz.func56 k_q53 hargs hok (by decide) h
def c_q54 : ACode :=
 (.seq
 (.region false [
 oo 4 (.mov (.const (.bool false)))] [4])
 (.seq
 (.seq
 (.region false [
 om 7 0,
 oo 8 (.lenl (.tmp 7)),
 om 9 1,
 oo 10 (.lenl (.tmp 9)),
 oo 11 (.bin .neq 3 (.tmp 8) (.tmp 10))] [7,8,9,10])
 (.cond (.tmp 11)
 (.seq
 (.region false [
 oo 4 (.mov (.const (.bool false)))] [0,1,11])
 .ret)
 .skip))
 (.seq
 (.seq
 (.region false [
 oo 5 (.mov (.const (.int .i64 0)))] [11])
 (.block 0
 (.loop
 (.seq
 (.seq
 (.region false [
 om 12 5,
 om 13 0,
 oo 14 (.lenl (.tmp 13)),
 oo 15 (.bin .lss 3 (.tmp 12) (.tmp 14))] [12,13,14])
 (.cond (.tmp 15)
 .skip
 (.exit 0)))
 (.seq
 (.block 1
 (.seq
 (.region true [
 om 18 0,
 om 19 5,
 oo 20 (.iaddr 5 (.tmp 18) (.tmp 19)),
 oo 21 (.load true 5 (.tmp 20)),
 om 22 1,
 om 23 5,
 oo 24 (.iaddr 5 (.tmp 22) (.tmp 23)),
 oo 25 (.load true 5 (.tmp 24)),
 oo 26 (.call 117 [.tmp 21,.tmp 25]),
 om 6 26] [15,18,19,20,21,22,23,24,25,26])
 (.seq
 (.region false [
 om 27 6,
 oo 28 (.un .not (.tmp 27))] [6,27])
 (.cond (.tmp 28)
 (.seq
 (.region false [
 oo 4 (.mov (.const (.bool false)))] [0,1,5,28])
 .ret)
 .skip))) [28])
 (.region false [
 om 16 5,
 oo 17 (.bin .add 3 (.tmp 16) (.const (.int .i64 1))),
 om 5 17] [16,17]))) [] []) [0,1,5,15]))
 (.seq
 (.region false [
 oo 4 (.mov (.const (.bool true)))] [])
 .ret))))
abbrev v_q54 : List RV:= [.tmp 4]
abbrev f_q54 : FuncId:= 57
theorem k_q54 : closedOf Tryz.prog Tryz.f57 = (false,some true,some v_q54,some c_q54.plain,29):= by kernel_rfl
theorem ac_q54 {args : List AV} {r : AV} (h : aw Tryz.prog c_q54 (env0 args) (endQ v_q54 r)) (hargs : args.length ≤ 29:= by decide) (hok : resOK r = true:= by rfl) : AC Tryz.prog f_q54 args r :=
  AC_mk (by kernel_rfl) Tryz.func57 k_q54 hargs hok (by decide) h
def c_q55 : ACode :=
 (.seq
 (.region false [
 oo 4 (.mov (.const (.bool false)))] [4])
 (.seq
 (.seq
 (.region false [
 om 7 0,
 oo 8 (.lenl (.tmp 7)),
 om 9 1,
 oo 10 (.lenl (.tmp 9)),
 oo 11 (.bin .neq 3 (.tmp 8) (.tmp 10))] [7,8,9,10])
 (.cond (.tmp 11)
 (.seq
 (.region false [
 oo 4 (.mov (.const (.bool false)))] [0,1,11])
 .ret)
 .skip))
 (.seq
 (.seq
 (.region false [
 oo 5 (.mov (.const (.int .i64 0)))] [11])
 (.block 0
 (.loop
 (.seq
 (.seq
 (.region false [
 om 12 5,
 om 13 0,
 oo 14 (.lenl (.tmp 13)),
 oo 15 (.bin .lss 3 (.tmp 12) (.tmp 14))] [12,13,14])
 (.cond (.tmp 15)
 .skip
 (.exit 0)))
 (.seq
 (.block 1
 (.seq
 (.region true [
 om 18 0,
 om 19 5,
 oo 20 (.iaddr 3 (.tmp 18) (.tmp 19)),
 oo 21 (.load true 3 (.tmp 20)),
 om 22 1,
 om 23 5,
 oo 24 (.iaddr 3 (.tmp 22) (.tmp 23)),
 oo 25 (.load true 3 (.tmp 24)),
 oo 26 (.call 118 [.tmp 21,.tmp 25]),
 om 6 26] [15,18,19,20,21,22,23,24,25,26])
 (.seq
 (.region false [
 om 27 6,
 oo 28 (.un .not (.tmp 27))] [6,27])
 (.cond (.tmp 28)
 (.seq
 (.region false [
 oo 4 (.mov (.const (.bool false)))] [0,1,5,28])
 .ret)
 .skip))) [28])
 (.region false [
 om 16 5,
 oo 17 (.bin .add 3 (.tmp 16) (.const (.int .i64 1))),
 om 5 17] [16,17]))) [] []) [0,1,5,15]))
 (.seq
 (.region false [
 oo 4 (.mov (.const (.bool true)))] [])
 .ret))))
abbrev v_q55 : List RV:= [.tmp 4]
abbrev f_q55 : FuncId:= 58
theorem k_q55 : closedOf Tryz.prog Tryz.f58 = (false,some true,some v_q55,some c_q55.plain,29):= by kernel_rfl
theorem ac_q55 {args : List AV} {r : AV} (h : aw Tryz.prog c_q55 (env0 args) (endQ v_q55 r)) (hargs : args.length ≤ 29:= by decide) (hok : resOK r = true:= by rfl) : AC Tryz.prog f_q55 args r :=
  AC_mk (by kernel_rfl) Tryz.func58 k_q55 hargs hok (by decide) h
def c_q56 : ACode :=
 (.seq
 (.region false [
 oo 4 (.mov (.const (.bool false)))] [4])
 (.seq
 (.seq
 (.region false [
 om 7 0,
 oo 8 (.lenl (.tmp 7)),
 om 9 1,
 oo 10 (.lenl (.tmp 9)),
 oo 11 (.bin .neq 3 (.tmp 8) (.tmp 10))] [7,8,9,10])
 (.cond (.tmp 11)
 (.seq
 (.region false [
 oo 4 (.mov (.const (.bool false)))] [0,1,11])
 .ret)
 .skip))
 (.seq
 (.seq
 (.region false [
 oo 5 (.mov (.const (.int .i64 0)))] [11])
 (.block 0
 (.loop
 (.seq
 (.seq
 (.region false [
 om 12 5,
 om 13 0,
 oo 14 (.lenl (.tmp 13)),
 oo 15 (.bin .lss 3 (.tmp 12) (.tmp 14))] [12,13,14])
 (.cond (.tmp 15)
 .skip
 (.exit 0)))
 (.seq
 (.block 1
 (.seq
 (.region true [
 om 18 0,
 om 19 5,
 oo 20 (.iaddr 3 (.tmp 18) (.tmp 19)),
 oo 21 (.load true 3 (.tmp 20)),
 om 22 1,
 om 23 5,
 oo 24 (.iaddr 3 (.tmp 22) (.tmp 23)),
 oo 25 (.load true 3 (.tmp 24)),
 oo 26 (.call 119 [.tmp 21,.tmp 25]),
 om 6 26] [15,18,19,20,21,22,23,24,25,26])
 (.seq
 (.region false [
 om 27 6,
 oo 28 (.un .not (.tmp 27))] [6,27])
 (.cond (.tmp 28)
 (.seq
 (.region false [
 oo 4 (.mov (.const (.bool false)))] [0,1,5,28])
 .ret)
 .skip))) [28])
 (.region false [
 om 16 5,
 oo 17 (.bin .add 3 (.tmp 16) (.const (.int .i64 1))),
 om 5 17] [16,17]))) [] []) [0,1,5,15]))
 (.seq
 (.region false [
 oo 4 (.mov (.const (.bool true)))] [])
 .ret))))
abbrev v_q56 : List RV:= [.tmp 4]
abbrev f_q56 : FuncId:= 59
theorem k_q56 : closedOf Tryz.prog Tryz.f59 = (false,some true,some v_q56,some c_q56.plain,29):= by kernel_rfl
theorem ac_q56 {args : List AV} {r : AV} (h : aw Tryz.prog c_q56 (env0 args) (endQ v_q56 r)) (hargs : args.length ≤ 29:= by decide) (hok : resOK r = true:= by rfl) : AC Tryz.prog f_q56 args r :=
  AC_mk (by kernel_rfl) Tryz.func59 k_q56 hargs hok (by decide) h
def c_q57 : ACode :=
 (.seq
 (.region false [
 oo 4 (.mov (.const (.bool false)))] [4])
 (.seq
 (.seq
 (.region false [
 om 7 0,
 oo 8 (.lenl (.tmp 7)),
 om 9 1,
 oo 10 (.lenl (.tmp 9)),
 oo 11 (.bin .neq 3 (.tmp 8) (.tmp 10))] [7,8,9,10])
 (.cond (.tmp 11)
 (.seq
 (.region false [
 oo 4 (.mov (.const (.bool false)))] [0,1,11])
 .ret)
 .skip))
 (.seq
 (.seq
 (.region false [
 oo 5 (.mov (.const (.int .i64 0)))] [11])
 (.block 0
 (.loop
 (.seq
 (.seq
 (.region false [
 om 12 5,
 om 13 0,
 oo 14 (.lenl (.tmp 13)),
 oo 15 (.bin .lss 3 (.tmp 12) (.tmp 14))] [12,13,14])
 (.cond (.tmp 15)
 .skip
 (.exit 0)))
 (.seq
 (.block 1
 (.seq
 (.region true [
 om 18 0,
 om 19 5,
 oo 20 (.iaddr 4 (.tmp 18) (.tmp 19)),
 oo 21 (.load true 4 (.tmp 20)),
 om 22 1,
 om 23 5,
 oo 24 (.iaddr 4 (.tmp 22) (.tmp 23)),
 oo 25 (.load true 4 (.tmp 24)),
 oo 26 (.call 120 [.tmp 21,.tmp 25]),
 om 6 26] [15,18,19,20,21,22,23,24,25,26])
 (.seq
 (.region false [
 om 27 6,
 oo 28 (.un .not (.tmp 27))] [6,27])
 (.cond (.tmp 28)
 (.seq
 (.region false [
 oo 4 (.mov (.const (.bool false)))] [0,1,5,28])
 .ret)
 .skip))) [28])
 (.region false [
 om 16 5,
 oo 17 (.bin .add 3 (.tmp 16) (.const (.int .i64 1))),
 om 5 17] [16,17]))) [] []) [0,1,5,15]))
 (.seq
 (.region false [
 oo 4 (.mov (.const (.bool true)))] [])
 .ret))))
abbrev v_q57 : List RV:= [.tmp 4]
abbrev f_q57 : FuncId:= 60
theorem k_q57 : closedOf Tryz.prog Tryz.f60 = (false,some true,some v_q57,some c_q57.plain,29):= by kernel_rfl
theorem ac_q57 {args : List AV} {r : AV} (h : aw Tryz.prog c_q57 (env0 args) (endQ v_q57 r)) (hargs : args.length ≤ 29:= by decide) (hok : resOK r = true:= by rfl) : AC Tryz.prog f_q57 args r :=
  AC_mk (by kernel_rfl) Tryz.func60 k_q57 hargs hok (by decide) h
def c_q60 : ACode :=
 (.seq
 (.region false [
 oo 2 (.box (.tmp 0)),
 oo 3 (.box (.tmp 1)),
 oo 4 (.mov (.const (.bool false)))] [0,1,4])
 (.seq
 (.region false [
 oo 5 (.faddr 0 1 (.tmp 2)),
 oo 6 (.load false 1 (.tmp 5)),
 oo 7 (.faddr 0 1 (.tmp 3)),
 oo 8 (.load false 1 (.tmp 7)),
 oo 9 (.bin .eql 3 (.tmp 6) (.tmp 8)),
 om 10 9,
 og 11 (.faddr 1 1 (.tmp 2)) 10 true,
 og 12 (.load false 1 (.tmp 11)) 10 true,
 og 13 (.faddr 1 1 (.tmp 3)) 10 true,
 og 14 (.load false 1 (.tmp 13)) 10 true,
 og 15 (.eqb false 4 (.tmp 12) (.tmp 14)) 10 true,
 oo 16 (.pick (.tmp 10) (.tmp 15) (.const (.bool false))),
 om 17 16,
 og 18 (.faddr 2 1 (.tmp 2)) 17 true,
 og 19 (.load false 1 (.tmp 18)) 17 true,
 og 20 (.faddr 2 1 (.tmp 3)) 17 true,
 og 21 (.load false 1 (.tmp 20)) 17 true,
 og 22 (.bin .eql 3 (.tmp 19) (.tmp 21)) 17 true,
 oo 23 (.pick (.tmp 17) (.tmp 22) (.const (.bool false))),
 om 4 23] [2,3,5,6,7,8,9,10,11,12,13,14,15,16,17,18,19,20,21,22,23])
 .ret))
abbrev v_q60 : List RV:= [.tmp 4]
abbrev f_q60 : FuncId:= 63
theorem k_q60 : closedOf Tryz.prog Tryz.f63 = (false,some true,some v_q60,some c_q60.plain,24):= by kernel_rfl
theorem ac_q60 {args : List AV} {r : AV} (h : aw Tryz.prog c_q60 (env0 args) (endQ v_q60 r)) (hargs : args.length ≤ 24:= by decide) (hok : resOK r = true:= by rfl) : AC Tryz.prog f_q60 args r :=
  AC_mk (by kernel_rfl) Tryz.func63 k_q60 hargs hok (by decide) h
def c_q61 : ACode :=
 (.seq
 (.region false [
 oo 0 (.alloc [.lit (.int .i64 0),.lit (.bool false),.lit (.int .i64 0)])] [])
 (.seq
 (.region false [
 oo 1 (.build [.lit (.int .i64 0),.lit (.bool false),.lit (.int .i64 0)] []),
 ⟨none,.store 3 (.tmp 0) (.tmp 1),none⟩] [1])
 .ret))
abbrev v_q61 : List RV:= [.cell true 3 0]
abbrev f_q61 : FuncId:= 64
theorem k_q61 : closedOf Tryz.prog Tryz.f64 = (false,some true,some v_q61,some c_q61.plain,2):= by kernel_rfl
theorem ac_q61 {args : List AV} {r : AV} (h : aw Tryz.prog c_q61 (env0 args) (endQ v_q61 r)) (hargs : args.length ≤ 2:= by decide) (hok : resOK r = true:= by rfl) : AC Tryz.prog f_q61 args r :=
  AC_mk (by kernel_rfl) Tryz.func64 k_q61 hargs hok (by decide) h
def c_q66 : ACode :=
 (.seq
 (.region false [
 oo 0 (.alloc [.lit (.int .u32 0),.lit (.int .i64 0)])] [])
 (.seq
 (.region false [
 oo 1 (.build [.lit (.int .u32 0),.lit (.int .i64 0)] [(0,1,.const (.int .u32 3758096384)),(1,1,.const (.int .i64 4))]),
 ⟨none,.store 2 (.tmp 0) (.tmp 1),none⟩] [1])
 .ret))
abbrev v_q66 : List RV:= [.cell true 2 0]
abbrev f_q66 : FuncId:= 69
theorem k_q66 : closedOf Tryz.prog Tryz.f69 = (false,some true,some v_q66,some c_q66.plain,2):= by kernel_rfl
theorem ac_q66 {args : List AV} {r : AV} (h : aw Tryz.prog c_q66 (env0 args) (endQ v_q66 r)) (hargs : args.length ≤ 2:= by decide) (hok : resOK r = true:= by rfl) : AC Tryz.prog f_q66 args r :=
  AC_mk (by kernel_rfl) Tryz.func69 k_q66 hargs hok (by decide) h
def c_q68 : ACode :=
 (.seq
 (.region false [
 oo 2 (.box (.tmp 0)),
 oo 3 (.box (.tmp 1)),
 oo 4 (.mov (.const (.bool false)))] [0,1,4])
 (.seq
 (.region false [
 oo 5 (.faddr 0 1 (.tmp 2)),
 oo 6 (.load false 1 (.tmp 5)),
 oo 7 (.faddr 0 1 (.tmp 3)),
 oo 8 (.load false 1 (.tmp 7)),
 oo 9 (.bin .eql 9 (.tmp 6) (.tmp 8)),
 om 10 9,
 og 11 (.faddr 1 1 (.tmp 2)) 10 true,
 og 12 (.load false 1 (.tmp 11)) 10 true,
 og 13 (.faddr 1 1 (.tmp 3)) 10 true,
 og 14 (.load false 1 (.tmp 13)) 10 true,
 og 15 (.bin .eql 3 (.tmp 12) (.tmp 14)) 10 true,
 oo 16 (.pick (.tmp 10) (.tmp 15) (.const (.bool false))),
 om 4 16] [2,3,5,6,7,8,9,10,11,12,13,14,15,16])
 .ret))
abbrev v_q68 : List RV:= [.tmp 4]
abbrev f_q68 : FuncId:= 71
theorem k_q68 : closedOf Tryz.prog Tryz.f71 = (false,some true,some v_q68,some c_q68.plain,17):= by kernel_rfl
theorem ac_q68 {args : List AV} {r : AV} (h : aw Tryz.prog c_q68 (env0 args) (endQ v_q68 r)) (hargs : args.length ≤ 17:= by decide) (hok : resOK r = true:= by rfl) : AC Tryz.prog f_q68 args r :=
  AC_mk (by kernel_rfl) Tryz.func71 k_q68 hargs hok (by decide) h
def c_q69 : ACode :=
 (.seq
 (.region false [
 oo 2 (.box (.tmp 0)),
 oo 3 (.box (.tmp 1)),
 oo 4 (.mov (.const (.bool false)))] [0,1,4])
 (.seq
 (.region false [
 oo 5 (.faddr 0 1 (.tmp 2)),
 oo 6 (.load false 1 (.tmp 5)),
 oo 7 (.faddr 0 1 (.tmp 3)),
 oo 8 (.load false 1 (.tmp 7)),
 oo 9 (.bin .eql 9 (.tmp 6) (.tmp 8)),
 om 10 9,
 og 11 (.faddr 1 2 (.tmp 2)) 10 true,
 og 12 (.load true 2 (.tmp 11)) 10 true,
 og 13 (.faddr 1 2 (.tmp 3)) 10 true,
 og 14 (.load true 2 (.tmp 13)) 10 true,
 og 15 (.callm 128 [.tmp 12,.tmp 14]) 10 true,
 oo 16 (.pick (.tmp 10) (.tmp 15) (.const (.bool false))),
 om 4 16] [2,3,5,6,7,8,9,10,11,12,13,14,15,16])
 .ret))
abbrev v_q69 : List RV:= [.tmp 4]
abbrev f_q69 : FuncId:= 72
theorem k_q69 : closedOf Tryz.prog Tryz.f72 = (false,some true,some v_q69,some c_q69.plain,17):= by kernel_rfl
theorem ac_q69 {args : List AV} {r : AV} (h : aw Tryz.prog c_q69 (env0 args) (endQ v_q69 r)) (hargs : args.length ≤ 17:= by decide) (hok : resOK r = true:= by rfl) : AC Tryz.prog f_q69 args r :=
  AC_mk (by kernel_rfl) Tryz.func72 k_q69 hargs hok (by decide) h
def c_q70 : ACode :=
 (.seq
 (.region false [
 oo 2 (.box (.tmp 0)),
 oo 4 (.mov (.const (.nilIface)))] [0,4])
 (.seq
 (.region false [
 oo 7 (.faddr 0 7 (.tmp 2)),
 oo 8 (.faddr 0 1 (.tmp 7)),
 oo 9 (.load false 1 (.tmp 8)),
 om 10 1,
 oo 11 (.iaddr 2 (.tmp 9) (.tmp 10)),
 oo 12 (.load true 2 (.tmp 11)),
 oo 5 (.alloc [.lit (.string ⟨#[]⟩),.lit (.int .i64 0)]),
 ⟨none,.store 2 (.tmp 5) (.tmp 12),none⟩] [7,8,9,10,11,12])
 (.seq
 (.seq
 (.region false [
 oo 13 (.faddr 0 1 (.tmp 5)),
 oo 14 (.load false 1 (.tmp 13)),
 oo 15 (.callm 129 [.tmp 14]),
 om 6 15] [13,14,15])
 (.seq
 (.region false [
 om 16 6,
 oo 17 (.eqn true (.tmp 16))] [16])
 (.cond (.tmp 17)
 (.seq
 (.region false [
 om 18 6,
 om 4 18] [1,2,5,6,17,18])
 .ret)
 .skip)))
 (.seq
 (.block 0
 (.seq
 (.region false [
 oo 20 (.faddr 0 7 (.tmp 2)),
 oo 21 (.faddr 0 1 (.tmp 20)),
 oo 22 (.load false 1 (.tmp 21)),
 om 23 1,
 oo 24 (.slc 2 (.tmp 22) none (some (.tmp 23))),
 oo 25 (.mkfn (.func 131) [] [.tmp 5]),
 oo 26 (.callm 130 [.tmp 24,.tmp 25]),
 om 19 26] [1,2,6,17,20,21,22,23,24,25,26])
 (.cond (.tmp 19)
 (.seq
 (.region false [
 oo 27 (.load false 1 (.global 2)),
 om 4 27] [5,19,27])
 .ret)
 (.seq
 (.region false [
 oo 29 (.faddr 1 1 (.tmp 5)),
 oo 30 (.load false 1 (.tmp 29)),
 oo 31 (.callm 132 [.tmp 30]),
 oo 32 (.un .not (.tmp 31)),
 om 28 32] [5,19,29,30,31,32])
 (.cond (.tmp 28)
 (.seq
 (.region false [
 oo 33 (.load false 1 (.global 3)),
 om 4 33] [28,33])
 .ret)
 .skip)))) [28])
 (.seq
 (.region false [
 oo 4 (.mov (.const (.nilIface)))] [])
 .ret)))))
abbrev v_q70 : List RV:= [.tmp 4]
abbrev f_q70 : FuncId:= 73
theorem k_q70 : closedOf Tryz.prog Tryz.f73 = (false,some true,some v_q70,some c_q70.plain,34):= by kernel_rfl
theorem ac_q70 {args : List AV} {r : AV} (h : aw Tryz.prog c_q70 (env0 args) (endQ v_q70 r)) (hargs : args.length ≤ 34:= by decide) (hok : resOK r = true:= by rfl) : AC Tryz.prog f_q70 args r :=
  AC_mk (by kernel_rfl) Tryz.func73 k_q70 hargs hok (by decide) h
end Go.Proofs.YtnndbbmidoidpaaGreatDoor.VL
end

