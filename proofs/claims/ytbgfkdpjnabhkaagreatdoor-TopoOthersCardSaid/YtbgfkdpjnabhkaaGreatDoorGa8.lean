import Derived.Test.YtbgfkdpjnabhkaaGreatDoorProg
import Derived.Test.YtbgfkdpjnabhkaaGreatDoorGa7
set_option linter.unusedVariables false
set_option linter.unusedSimpArgs false
section
set_option maxRecDepth 100000
namespace Go.Proofs.YtbgfkdpjnabhkaaGreatDoor.VL
open Go.Proofs
def om (d s : Nat) : AOper := ⟨some d, .mov (.tmp s), none⟩
def oo (d : Nat) (x : AOp) : AOper := ⟨some d, x, none⟩
def og (d : Nat) (x : AOp) (g : Nat) (b : Bool) : AOper := ⟨some d, x, some (g, b)⟩
@[go_sem] theorem x_om {P : Program} {D : Bool} {d s : Nat} {os : List AOper} {E : Env} {K : Env → Prop} : awX D P (om d s :: os) E K = awX D P (⟨some d, .mov (.tmp s), none⟩ :: os) E K := rfl
@[go_sem] theorem x_oo {P : Program} {D : Bool} {d : Nat} {x : AOp} {os : List AOper} {E : Env} {K : Env → Prop} : awX D P (oo d x :: os) E K = awX D P (⟨some d, x, none⟩ :: os) E K := rfl
@[go_sem] theorem x_og {P : Program} {D : Bool} {d g : Nat} {b : Bool} {x : AOp} {os : List AOper} {E : Env} {K : Env → Prop} : awX D P (og d x g b :: os) E K = awX D P (⟨some d, x, some (g, b)⟩ :: os) E K := rfl
@[go_sem] theorem l_om {d s : Nat} {os : List AOper} : allocs (om d s :: os) = allocs os := rfl
@[go_sem] theorem l_oo {d : Nat} {x : AOp} {os : List AOper} : allocs (oo d x :: os) = allocs (⟨some d, x, none⟩ :: os) := rfl
@[go_sem] theorem l_og {d g : Nat} {x : AOp} {b : Bool} {os : List AOper} : allocs (og d x g b :: os) = allocs (⟨some d, x, some (g, b)⟩ :: os) := rfl
def c_q0 : ACode :=
 (.seq
 (.region false [
 oo 3 (.box (.tmp 0)),
 oo 6 (.mov (.const (.bool false)))] [0, 6])
 (.seq
 (.region false [
 oo 17 (.callm 10 []),
 om 7 17] [17])
 (.seq
 (.seq
 (.region false [
 om 18 7,
 oo 19 (.un .not (.tmp 18))] [7, 18])
 (.cond (.tmp 19)
 (.seq
 (.region false [
 oo 6 (.mov (.const (.bool false)))] [1, 2, 3, 19])
 .ret)
 .skip))
 (.seq
 (.seq
 (.region false [
 oo 20 (.load true 7 (.tmp 3)),
 oo 21 (.callm 11 [.tmp 20, .const (.int .i64 8)]),
 oo 22 (.un .not (.tmp 21))] [19, 20, 21])
 (.cond (.tmp 22)
 (.seq
 (.region false [
 oo 6 (.mov (.const (.bool true)))] [1, 2, 3, 22])
 .ret)
 .skip))
 (.seq
 (.region false [
 oo 24 (.load true 7 (.tmp 3)),
 oo 25 (.callm 12 [.tmp 24]),
 om 23 25,
 oo 26 (.ext (.tmp 23) 0),
 oo 27 (.ext (.tmp 23) 1),
 om 8 26,
 om 9 27] [22, 23, 24, 25, 26, 27])
 (.seq
 (.seq
 (.region false [
 om 28 8,
 oo 29 (.eqp false (.tmp 28)),
 om 30 29,
 og 31 (.mov (.tmp 9)) 30 false,
 og 32 (.eqn true (.tmp 31)) 30 false,
 oo 33 (.pick (.tmp 30) (.const (.bool true)) (.tmp 32))] [9, 28, 29, 30, 31, 32])
 (.cond (.tmp 33)
 (.seq
 (.region false [
 oo 6 (.mov (.const (.bool false)))] [1, 2, 3, 8, 33])
 .ret)
 .skip))
 (.seq
 (.region false [
 om 35 8,
 om 36 1,
 oo 37 (.callm 13 [.tmp 35, .tmp 36]),
 om 34 37,
 oo 38 (.ext (.tmp 34) 0),
 oo 39 (.ext (.tmp 34) 1),
 om 10 38,
 om 11 39] [33, 34, 35, 36, 37, 38, 39])
 (.seq
 (.region false [
 oo 41 (.load true 7 (.tmp 3)),
 om 42 1,
 oo 43 (.callm 14 [.tmp 41, .tmp 42]),
 om 40 43,
 oo 44 (.ext (.tmp 40) 0),
 oo 45 (.ext (.tmp 40) 1),
 om 12 44,
 om 13 45] [40, 41, 42, 43, 44, 45])
 (.seq
 (.region false [
 om 47 8,
 om 48 1,
 oo 49 (.callm 15 [.tmp 47, .tmp 48]),
 om 46 49,
 oo 50 (.ext (.tmp 46) 0),
 oo 51 (.ext (.tmp 46) 1),
 om 14 50,
 om 15 51] [46, 47, 48, 49, 50, 51])
 (.seq
 (.region false [
 oo 52 (.load true 7 (.tmp 3)),
 om 53 1,
 oo 54 (.callm 16 [.tmp 52, .tmp 53]),
 om 16 54] [3, 52, 53, 54])
 (.seq
 (.region false [
 om 55 11,
 om 56 13,
 oo 57 (.eqb false 4 (.tmp 55) (.tmp 56)),
 om 58 57,
 og 59 (.mov (.tmp 10)) 58 true,
 og 60 (.mov (.tmp 12)) 58 true,
 og 61 (.bin .eql 32 (.tmp 59) (.tmp 60)) 58 true,
 oo 62 (.pick (.tmp 58) (.tmp 61) (.const (.bool false))),
 om 63 62,
 og 64 (.mov (.tmp 15)) 63 true,
 og 65 (.mov (.tmp 16)) 63 true,
 og 66 (.bin .geq 3 (.tmp 65) (.const (.int .i64 0))) 63 true,
 og 67 (.eqb false 4 (.tmp 64) (.tmp 66)) 63 true,
 oo 68 (.pick (.tmp 63) (.tmp 67) (.const (.bool false))),
 om 69 68,
 og 70 (.mov (.tmp 15)) 69 true,
 og 71 (.un .not (.tmp 70)) 69 true,
 og 72 (.mov (.tmp 71)) 69 true,
 og 73 (.mov (.tmp 14)) 72 false,
 og 74 (.mov (.tmp 16)) 72 false,
 og 75 (.bin .eql 3 (.tmp 73) (.tmp 74)) 72 false,
 og 76 (.pick (.tmp 72) (.const (.bool true)) (.tmp 75)) 69 true,
 oo 77 (.pick (.tmp 69) (.tmp 76) (.const (.bool false))),
 om 78 77,
 og 79 (.mov (.tmp 8)) 78 true,
 og 80 (.mov (.tmp 2)) 78 true,
 og 81 (.mov (.tmp 1)) 78 true,
 og 82 (.callm 17 [.tmp 79, .tmp 80, .tmp 81]) 78 true,
 og 83 (.mov (.tmp 16)) 78 true,
 og 84 (.bin .geq 3 (.tmp 83) (.const (.int .i64 0))) 78 true,
 og 85 (.mov (.tmp 84)) 78 true,
 og 86 (.mov (.tmp 16)) 85 true,
 og 87 (.mov (.tmp 2)) 85 true,
 og 88 (.bin .eql 3 (.tmp 86) (.tmp 87)) 85 true,
 og 89 (.pick (.tmp 85) (.tmp 88) (.const (.bool false))) 78 true,
 og 90 (.eqb false 4 (.tmp 82) (.tmp 89)) 78 true,
 oo 91 (.pick (.tmp 78) (.tmp 90) (.const (.bool false))),
 om 6 91] [1, 2, 8, 10, 11, 12, 13, 14, 15, 16, 55, 56, 57, 58, 59, 60, 61, 62, 63, 64, 65, 66, 67, 68, 69, 70, 71, 72, 73, 74, 75, 76, 77, 78, 79, 80, 81, 82, 83, 84, 85, 86, 87, 88, 89, 90, 91])
 .ret)))))))))))
abbrev v_q0 : List RV := [.tmp 6]
abbrev f_q0 : FuncId := 3
theorem k_q0 : closedOf Tryz.prog Tryz.f3 = (false, some true, some v_q0, some c_q0.plain, 92) := by kernel_rfl
theorem ac_q0 {args : List AV} {r : AV} (h : aw Tryz.prog c_q0 (env0 args) (endQ v_q0 r)) (hargs : args.length ≤ 92 := by decide) (hok : resOK r = true := by rfl) : AC Tryz.prog f_q0 args r :=
  AC_mk (by kernel_rfl) Tryz.func3 k_q0 hargs hok (by decide) h
def c_q1 : ACode :=
 (.seq
 (.region false [
 oo 4 (.mov (.const (.bool false)))] [4])
 (.seq
 (.region false [
 oo 19 (.callm 10 []),
 om 5 19] [19])
 (.seq
 (.seq
 (.region false [
 om 20 5,
 oo 21 (.un .not (.tmp 20))] [5, 20])
 (.cond (.tmp 21)
 (.seq
 (.region false [
 oo 4 (.mov (.const (.bool false)))] [0, 1, 21])
 .ret)
 .skip))
 (.seq
 (.region false [
 om 22 0,
 oo 23 (.callm 18 [.tmp 22, .const (.int .i64 6)]),
 oo 24 (.bin .add 3 (.tmp 23) (.const (.int .i64 1))),
 om 0 24] [21, 22, 23, 24])
 (.seq
 (.region false [
 om 25 1,
 oo 26 (.callm 18 [.tmp 25, .const (.int .i64 256)]),
 om 1 26] [25, 26])
 (.seq
 (.region false [
 om 27 0,
 oo 28 (.callm 19 [.tmp 27, .const (.int .i64 0)]),
 oo 6 (.alloc [.sl .nil 0 [], .sl .nil 0 [], .sl .nil 0 [], .sl .nil 0 [], .sl .nil 0 [], .sl .nil 0 [], .sl .nil 0 []]),
 ⟨none, .store 7 (.tmp 6) (.tmp 28), none⟩] [27, 28])
 (.seq
 (.region false [
 oo 29 (.faddr 4 1 (.tmp 6)),
 ⟨none, .store 1 (.tmp 29) (.const (.slice none 0 0)), none⟩] [29])
 (.seq
 (.seq
 (.region false [
 oo 7 (.mov (.const (.int .i64 0)))] [])
 (.block 0
 (.loop
 (.seq
 (.seq
 (.region false [
 om 30 7,
 om 31 0,
 oo 32 (.bin .lss 3 (.tmp 30) (.tmp 31))] [30, 31])
 (.cond (.tmp 32)
 .skip
 (.exit 0)))
 (.seq
 (.block 1
 (.region true [
 oo 35 (.faddr 4 1 (.tmp 6)),
 oo 36 (.loadc false 1 (.tmp 35)),
 om 37 7,
 oo 38 (.bin .mul 3 (.const (.int .i64 4)) (.tmp 37)),
 oo 39 (.bin .add 3 (.const (.int .i64 8)) (.tmp 38)),
 oo 40 (.build [.lit (.int .u32 0), .lit (.int .i64 0)] [(0, 1, .const (.int .u32 3774873600)), (1, 1, .tmp 39)]),
 om 41 7,
 om 42 7,
 oo 43 (.bin .add 3 (.tmp 42) (.const (.int .i64 1))),
 oo 44 (.call 20 [.tmp 41, .tmp 43]),
 oo 45 (.build [.lit (.int .u32 0), .lit (.int .i64 0), .lit (.int .u32 0)] [(0, 2, .tmp 40), (2, 1, .tmp 44)]),
 oo 46 (.bslice 1 3 [.tmp 45]),
 oo 47 (.app 3 24 [] (.tmp 36) (.tmp 46)),
 oo 48 (.faddr 4 1 (.tmp 6)),
 ⟨none, .store 1 (.tmp 48) (.tmp 47), none⟩] [32, 35, 36, 37, 38, 39, 40, 41, 42, 43, 44, 45, 46, 47, 48]) [])
 (.region false [
 om 33 7,
 oo 34 (.bin .add 3 (.tmp 33) (.const (.int .i64 1))),
 om 7 34] [33, 34]))) [] []) [7, 32]))
 (.seq
 (.region false [
 oo 50 (.load true 7 (.tmp 6)),
 oo 51 (.callm 12 [.tmp 50]),
 om 49 51,
 oo 52 (.ext (.tmp 49) 0),
 oo 53 (.ext (.tmp 49) 1),
 om 8 52,
 om 9 53] [49, 50, 51, 52, 53])
 (.seq
 (.seq
 (.region false [
 om 54 8,
 oo 55 (.eqp false (.tmp 54)),
 om 56 55,
 og 57 (.mov (.tmp 9)) 56 false,
 og 58 (.eqn true (.tmp 57)) 56 false,
 oo 59 (.pick (.tmp 56) (.const (.bool true)) (.tmp 58)),
 om 60 59,
 og 61 (.load true 7 (.tmp 6)) 60 false,
 og 62 (.callm 21 [.tmp 61]) 60 false,
 og 63 (.bin .neq 3 (.tmp 62) (.const (.int .i64 0))) 60 false,
 oo 64 (.pick (.tmp 60) (.const (.bool true)) (.tmp 63))] [6, 9, 54, 55, 56, 57, 58, 59, 60, 61, 62, 63])
 (.cond (.tmp 64)
 (.seq
 (.region false [
 oo 4 (.mov (.const (.bool false)))] [0, 1, 8, 64])
 .ret)
 .skip))
 (.seq
 (.region false [
 om 65 1,
 oo 66 (.cint .u32 (.tmp 65)),
 oo 67 (.bin .shl 32 (.tmp 66) (.const (.int .u64 12))),
 oo 68 (.bin .or 32 (.const (.int .u32 3774873600)) (.tmp 67)),
 om 10 68] [1, 64, 65, 66, 67, 68])
 (.seq
 (.region false [
 oo 11 (.mov (.const (.int .i64 (-1))))] [])
 (.seq
 (.seq
 (.region false [
 oo 12 (.mov (.const (.int .i64 0)))] [])
 (.block 2
 (.loop
 (.seq
 (.seq
 (.region false [
 om 69 12,
 om 70 0,
 oo 71 (.bin .lss 3 (.tmp 69) (.tmp 70))] [69, 70])
 (.cond (.tmp 71)
 .skip
 (.exit 2)))
 (.seq
 (.block 3
 (.seq
 (.region false [
 om 74 10,
 om 75 12,
 oo 76 (.bin .mul 3 (.const (.int .i64 4)) (.tmp 75)),
 oo 77 (.bin .sub 3 (.const (.int .i64 24)) (.tmp 76)),
 oo 78 (.cint .u64 (.tmp 77)),
 oo 79 (.bin .shr 32 (.tmp 74) (.tmp 78)),
 om 80 12,
 oo 81 (.bin .mul 3 (.const (.int .i64 4)) (.tmp 80)),
 oo 82 (.cint .u64 (.tmp 81)),
 oo 83 (.bin .shl 32 (.const (.int .u32 225)) (.tmp 82)),
 oo 84 (.bin .eql 32 (.tmp 79) (.tmp 83))] [71, 74, 75, 76, 77, 78, 79, 80, 81, 82, 83])
 (.cond (.tmp 84)
 (.region false [
 om 85 12,
 om 11 85] [84, 85])
 .skip)) [84])
 (.region false [
 om 72 12,
 oo 73 (.bin .add 3 (.tmp 72) (.const (.int .i64 1))),
 om 12 73] [72, 73]))) [] []) [0, 12, 71]))
 (.seq
 (.region false [
 om 87 8,
 om 88 10,
 oo 89 (.callm 15 [.tmp 87, .tmp 88]),
 om 86 89,
 oo 90 (.ext (.tmp 86) 0),
 oo 91 (.ext (.tmp 86) 1),
 om 13 90,
 om 14 91] [86, 87, 88, 89, 90, 91])
 (.seq
 (.region false [
 om 93 8,
 oo 94 (.callm 13 [.tmp 93, .const (.int .u32 3791650816)]),
 om 92 94,
 oo 95 (.ext (.tmp 92) 0),
 oo 96 (.ext (.tmp 92) 1),
 om 15 95,
 om 16 96] [15, 92, 93, 94, 95, 96])
 (.seq
 (.region false [
 om 98 8,
 oo 99 (.callm 13 [.tmp 98, .const (.int .u32 167772160)]),
 om 97 99,
 oo 100 (.ext (.tmp 97) 0),
 oo 101 (.ext (.tmp 97) 1),
 om 17 100,
 om 18 101] [17, 97, 98, 99, 100, 101])
 (.seq
 (.region false [
 om 102 14,
 om 103 102,
 og 104 (.mov (.tmp 13)) 103 true,
 og 105 (.mov (.tmp 11)) 103 true,
 og 106 (.bin .eql 3 (.tmp 104) (.tmp 105)) 103 true,
 oo 107 (.pick (.tmp 103) (.tmp 106) (.const (.bool false))),
 om 108 107,
 og 109 (.mov (.tmp 16)) 108 true,
 og 110 (.un .not (.tmp 109)) 108 true,
 oo 111 (.pick (.tmp 108) (.tmp 110) (.const (.bool false))),
 om 112 111,
 og 113 (.mov (.tmp 18)) 112 true,
 og 114 (.un .not (.tmp 113)) 112 true,
 oo 115 (.pick (.tmp 112) (.tmp 114) (.const (.bool false))),
 om 116 115,
 og 117 (.mov (.tmp 8)) 116 true,
 og 118 (.mov (.tmp 11)) 116 true,
 og 119 (.mov (.tmp 10)) 116 true,
 og 120 (.callm 17 [.tmp 117, .tmp 118, .tmp 119]) 116 true,
 oo 121 (.pick (.tmp 116) (.tmp 120) (.const (.bool false))),
 om 4 121] [8, 10, 11, 13, 14, 16, 18, 102, 103, 104, 105, 106, 107, 108, 109, 110, 111, 112, 113, 114, 115, 116, 117, 118, 119, 120, 121])
 .ret)))))))))))))))))
abbrev v_q1 : List RV := [.tmp 4]
abbrev f_q1 : FuncId := 4
theorem k_q1 : closedOf Tryz.prog Tryz.f4 = (false, some true, some v_q1, some c_q1.plain, 122) := by kernel_rfl
theorem ac_q1 {args : List AV} {r : AV} (h : aw Tryz.prog c_q1 (env0 args) (endQ v_q1 r)) (hargs : args.length ≤ 122 := by decide) (hok : resOK r = true := by rfl) : AC Tryz.prog f_q1 args r :=
  AC_mk (by kernel_rfl) Tryz.func4 k_q1 hargs hok (by decide) h
def c_q2 : ACode :=
 (.seq
 (.region false [
 oo 4 (.box (.tmp 0)),
 oo 8 (.mov (.const (.bool false)))] [0, 8])
 (.seq
 (.region false [
 oo 19 (.callm 10 []),
 om 9 19] [19])
 (.seq
 (.seq
 (.region false [
 om 20 9,
 oo 21 (.un .not (.tmp 20))] [20])
 (.cond (.tmp 21)
 (.seq
 (.region false [
 oo 8 (.mov (.const (.bool false)))] [1, 2, 3, 4, 9, 21])
 .ret)
 .skip))
 (.seq
 (.region false [
 oo 22 (.build [.lit (.int .u32 0), .lit (.int .i64 0)] [(0, 1, .const (.int .u32 3758096384)), (1, 1, .const (.int .i64 4))]),
 om 23 2,
 oo 24 (.build [.lit (.int .u32 0), .lit (.int .i64 0), .lit (.int .u32 0)] [(0, 2, .tmp 22), (2, 1, .tmp 23)]),
 oo 25 (.bslice 1 3 [.tmp 24]),
 oo 26 (.faddr 4 1 (.tmp 4)),
 ⟨none, .store 1 (.tmp 26) (.tmp 25), none⟩] [21, 22, 23, 24, 25, 26])
 (.seq
 (.seq
 (.region false [
 oo 27 (.load true 7 (.tmp 4)),
 oo 28 (.callm 11 [.tmp 27, .const (.int .i64 8)]),
 oo 29 (.un .not (.tmp 28))] [27, 28])
 (.cond (.tmp 29)
 (.seq
 (.region false [
 om 30 9,
 om 8 30] [1, 2, 3, 4, 9, 29, 30])
 .ret)
 .skip))
 (.seq
 (.region false [
 oo 32 (.load true 7 (.tmp 4)),
 oo 33 (.callm 12 [.tmp 32]),
 om 31 33,
 oo 34 (.ext (.tmp 31) 0),
 oo 35 (.ext (.tmp 31) 1),
 om 10 34,
 om 11 35] [4, 29, 31, 32, 33, 34, 35])
 (.seq
 (.seq
 (.region false [
 om 36 10,
 oo 37 (.eqp false (.tmp 36)),
 om 38 37,
 og 39 (.mov (.tmp 11)) 38 false,
 og 40 (.eqn true (.tmp 39)) 38 false,
 oo 41 (.pick (.tmp 38) (.const (.bool true)) (.tmp 40))] [11, 36, 37, 38, 39, 40])
 (.cond (.tmp 41)
 (.seq
 (.region false [
 oo 8 (.mov (.const (.bool false)))] [1, 2, 3, 9, 10, 41])
 .ret)
 .skip))
 (.seq
 (.region false [
 om 43 10,
 om 44 1,
 oo 45 (.callm 13 [.tmp 43, .tmp 44]),
 om 42 45,
 oo 46 (.ext (.tmp 42) 0),
 oo 47 (.ext (.tmp 42) 1),
 om 12 46,
 om 13 47] [41, 42, 43, 44, 45, 46, 47])
 (.seq
 (.region false [
 om 48 1,
 oo 49 (.bin .shr 32 (.tmp 48) (.const (.int .u64 28))),
 oo 50 (.bin .eql 32 (.tmp 49) (.const (.int .u32 14))),
 om 14 50] [48, 49, 50])
 (.seq
 (.region false [
 om 52 10,
 om 53 2,
 oo 54 (.callm 22 [.tmp 52, .tmp 53]),
 om 51 54,
 oo 55 (.ext (.tmp 51) 0),
 oo 56 (.ext (.tmp 51) 1),
 om 15 55,
 om 16 56] [15, 51, 52, 53, 54, 55, 56])
 (.seq
 (.region false [
 om 58 10,
 om 59 1,
 oo 60 (.callm 15 [.tmp 58, .tmp 59]),
 om 57 60,
 oo 61 (.ext (.tmp 57) 0),
 oo 62 (.ext (.tmp 57) 1),
 om 17 61,
 om 18 62] [57, 58, 59, 60, 61, 62])
 (.seq
 (.region false [
 om 63 9,
 om 64 63,
 og 65 (.mov (.tmp 13)) 64 true,
 og 66 (.mov (.tmp 14)) 64 true,
 og 67 (.eqb false 4 (.tmp 65) (.tmp 66)) 64 true,
 oo 68 (.pick (.tmp 64) (.tmp 67) (.const (.bool false))),
 om 69 68,
 og 70 (.mov (.tmp 13)) 69 true,
 og 71 (.un .not (.tmp 70)) 69 true,
 og 72 (.mov (.tmp 71)) 69 true,
 og 73 (.mov (.tmp 12)) 72 false,
 og 74 (.mov (.tmp 2)) 72 false,
 og 75 (.bin .eql 32 (.tmp 73) (.tmp 74)) 72 false,
 og 76 (.pick (.tmp 72) (.const (.bool true)) (.tmp 75)) 69 true,
 oo 77 (.pick (.tmp 69) (.tmp 76) (.const (.bool false))),
 om 78 77,
 og 79 (.mov (.tmp 18)) 78 true,
 og 80 (.mov (.tmp 14)) 78 true,
 og 81 (.mov (.tmp 80)) 78 true,
 og 82 (.mov (.tmp 16)) 81 true,
 og 83 (.pick (.tmp 81) (.tmp 82) (.const (.bool false))) 78 true,
 og 84 (.eqb false 4 (.tmp 79) (.tmp 83)) 78 true,
 oo 85 (.pick (.tmp 78) (.tmp 84) (.const (.bool false))),
 om 86 85,
 og 87 (.mov (.tmp 18)) 86 true,
 og 88 (.un .not (.tmp 87)) 86 true,
 og 89 (.mov (.tmp 88)) 86 true,
 og 90 (.mov (.tmp 10)) 89 false,
 og 91 (.mov (.tmp 17)) 89 false,
 og 92 (.mov (.tmp 1)) 89 false,
 og 93 (.callm 17 [.tmp 90, .tmp 91, .tmp 92]) 89 false,
 og 94 (.pick (.tmp 89) (.const (.bool true)) (.tmp 93)) 86 true,
 oo 95 (.pick (.tmp 86) (.tmp 94) (.const (.bool false))),
 om 96 95,
 og 97 (.mov (.tmp 18)) 96 true,
 og 98 (.mov (.tmp 97)) 96 true,
 og 99 (.mov (.tmp 10)) 98 false,
 og 100 (.mov (.tmp 3)) 98 false,
 og 101 (.mov (.tmp 1)) 98 false,
 og 102 (.callm 17 [.tmp 99, .tmp 100, .tmp 101]) 98 false,
 og 103 (.un .not (.tmp 102)) 98 false,
 og 104 (.pick (.tmp 98) (.const (.bool true)) (.tmp 103)) 96 true,
 oo 105 (.pick (.tmp 96) (.tmp 104) (.const (.bool false))),
 om 8 105] [1, 2, 3, 9, 10, 12, 13, 14, 16, 17, 18, 63, 64, 65, 66, 67, 68, 69, 70, 71, 72, 73, 74, 75, 76, 77, 78, 79, 80, 81, 82, 83, 84, 85, 86, 87, 88, 89, 90, 91, 92, 93, 94, 95, 96, 97, 98, 99, 100, 101, 102, 103, 104, 105])
 .ret))))))))))))
abbrev v_q2 : List RV := [.tmp 8]
abbrev f_q2 : FuncId := 5
theorem k_q2 : closedOf Tryz.prog Tryz.f5 = (false, some true, some v_q2, some c_q2.plain, 106) := by kernel_rfl
theorem ac_q2 {args : List AV} {r : AV} (h : aw Tryz.prog c_q2 (env0 args) (endQ v_q2 r)) (hargs : args.length ≤ 106 := by decide) (hok : resOK r = true := by rfl) : AC Tryz.prog f_q2 args r :=
  AC_mk (by kernel_rfl) Tryz.func5 k_q2 hargs hok (by decide) h
def c_q3 : ACode :=
 (.seq
 (.region false [
 oo 3 (.box (.tmp 0)),
 oo 6 (.mov (.const (.bool false)))] [0, 6])
 (.seq
 (.region false [
 oo 14 (.callm 23 []),
 om 7 14] [14])
 (.seq
 (.seq
 (.region false [
 om 15 7,
 oo 16 (.un .not (.tmp 15))] [15])
 (.cond (.tmp 16)
 (.seq
 (.region false [
 oo 6 (.mov (.const (.bool false)))] [1, 2, 3, 7, 16])
 .ret)
 .skip))
 (.seq
 (.seq
 (.region false [
 oo 17 (.load true 7 (.tmp 3)),
 oo 18 (.callm 11 [.tmp 17, .const (.int .i64 8)]),
 oo 19 (.un .not (.tmp 18)),
 om 20 19,
 og 21 (.faddr 2 1 (.tmp 3)) 20 false,
 og 22 (.load false 1 (.tmp 21)) 20 false,
 og 23 (.lenl (.tmp 22)) 20 false,
 og 24 (.bin .eql 3 (.tmp 23) (.const (.int .i64 0))) 20 false,
 oo 25 (.pick (.tmp 20) (.const (.bool true)) (.tmp 24))] [16, 17, 18, 19, 20, 21, 22, 23, 24])
 (.cond (.tmp 25)
 (.seq
 (.region false [
 om 26 7,
 om 6 26] [1, 2, 3, 7, 25, 26])
 .ret)
 .skip))
 (.seq
 (.region false [
 oo 28 (.load true 7 (.tmp 3)),
 oo 29 (.callm 12 [.tmp 28]),
 om 27 29,
 oo 30 (.ext (.tmp 27) 0),
 oo 31 (.ext (.tmp 27) 1),
 om 8 30,
 om 9 31] [25, 27, 28, 29, 30, 31])
 (.seq
 (.seq
 (.region false [
 om 32 8,
 oo 33 (.eqp false (.tmp 32)),
 om 34 33,
 og 35 (.mov (.tmp 9)) 34 false,
 og 36 (.eqn true (.tmp 35)) 34 false,
 oo 37 (.pick (.tmp 34) (.const (.bool true)) (.tmp 36))] [9, 32, 33, 34, 35, 36])
 (.cond (.tmp 37)
 (.seq
 (.region false [
 oo 6 (.mov (.const (.bool false)))] [1, 2, 3, 7, 8, 37])
 .ret)
 .skip))
 (.seq
 (.region false [
 oo 10 (.mov (.const (.int .i64 0)))] [37])
 (.seq
 (.seq
 (.region false [
 oo 11 (.mov (.const (.int .i64 0)))] [])
 (.block 0
 (.loop
 (.seq
 (.seq
 (.region false [
 om 38 11,
 oo 39 (.faddr 0 1 (.tmp 3)),
 oo 40 (.load false 1 (.tmp 39)),
 oo 41 (.lenl (.tmp 40)),
 oo 42 (.bin .lss 3 (.tmp 38) (.tmp 41))] [38, 39, 40, 41])
 (.cond (.tmp 42)
 .skip
 (.exit 0)))
 (.seq
 (.block 1
 (.region false [
 om 45 10,
 om 46 8,
 om 47 11,
 oo 48 (.callm 24 [.tmp 46, .tmp 47]),
 oo 49 (.lenl (.tmp 48)),
 oo 50 (.bin .add 3 (.tmp 45) (.tmp 49)),
 om 10 50] [42, 45, 46, 47, 48, 49, 50]) [])
 (.region false [
 om 43 11,
 oo 44 (.bin .add 3 (.tmp 43) (.const (.int .i64 1))),
 om 11 44] [43, 44]))) [] []) [11, 42]))
 (.seq
 (.seq
 (.region false [
 oo 12 (.mov (.const (.int .i64 0)))] [])
 (.block 2
 (.loop
 (.seq
 (.seq
 (.region false [
 om 51 12,
 oo 52 (.faddr 1 1 (.tmp 3)),
 oo 53 (.load false 1 (.tmp 52)),
 oo 54 (.lenl (.tmp 53)),
 oo 55 (.bin .lss 3 (.tmp 51) (.tmp 54))] [51, 52, 53, 54])
 (.cond (.tmp 55)
 .skip
 (.exit 2)))
 (.seq
 (.block 3
 (.region false [
 om 58 10,
 om 59 8,
 om 60 12,
 oo 61 (.callm 25 [.tmp 59, .tmp 60]),
 oo 62 (.lenl (.tmp 61)),
 oo 63 (.bin .sub 3 (.tmp 58) (.tmp 62)),
 om 10 63] [55, 58, 59, 60, 61, 62, 63]) [])
 (.region false [
 om 56 12,
 oo 57 (.bin .add 3 (.tmp 56) (.const (.int .i64 1))),
 om 12 57] [56, 57]))) [] []) [12, 55]))
 (.seq
 (.seq
 (.region false [
 om 64 10,
 oo 65 (.bin .neq 3 (.tmp 64) (.const (.int .i64 0))),
 om 66 65,
 og 67 (.mov (.tmp 1)) 66 false,
 og 68 (.bin .lss 3 (.tmp 67) (.const (.int .i64 0))) 66 false,
 oo 69 (.pick (.tmp 66) (.const (.bool true)) (.tmp 68)),
 om 70 69,
 og 71 (.mov (.tmp 2)) 70 false,
 og 72 (.bin .lss 3 (.tmp 71) (.const (.int .i64 0))) 70 false,
 oo 73 (.pick (.tmp 70) (.const (.bool true)) (.tmp 72)),
 om 74 73,
 og 75 (.mov (.tmp 1)) 74 false,
 og 76 (.faddr 2 1 (.tmp 3)) 74 false,
 og 77 (.load false 1 (.tmp 76)) 74 false,
 og 78 (.lenl (.tmp 77)) 74 false,
 og 79 (.bin .geq 3 (.tmp 75) (.tmp 78)) 74 false,
 oo 80 (.pick (.tmp 74) (.const (.bool true)) (.tmp 79)),
 om 81 80,
 og 82 (.mov (.tmp 2)) 81 false,
 og 83 (.faddr 2 1 (.tmp 3)) 81 false,
 og 84 (.load false 1 (.tmp 83)) 81 false,
 og 85 (.lenl (.tmp 84)) 81 false,
 og 86 (.bin .geq 3 (.tmp 82) (.tmp 85)) 81 false,
 oo 87 (.pick (.tmp 81) (.const (.bool true)) (.tmp 86))] [64, 65, 66, 67, 68, 69, 70, 71, 72, 73, 74, 75, 76, 77, 78, 79, 80, 81, 82, 83, 84, 85, 86])
 (.cond (.tmp 87)
 (.seq
 (.region false [
 om 88 7,
 om 89 88,
 og 90 (.mov (.tmp 10)) 89 true,
 og 91 (.bin .eql 3 (.tmp 90) (.const (.int .i64 0))) 89 true,
 oo 92 (.pick (.tmp 89) (.tmp 91) (.const (.bool false))),
 om 6 92] [1, 2, 3, 7, 8, 10, 87, 88, 89, 90, 91, 92])
 .ret)
 .skip))
 (.seq
 (.region true [
 oo 93 (.faddr 2 1 (.tmp 3)),
 oo 94 (.load false 1 (.tmp 93)),
 om 95 1,
 oo 96 (.iaddr 3 (.tmp 94) (.tmp 95)),
 oo 97 (.faddr 1 1 (.tmp 96)),
 oo 98 (.load false 1 (.tmp 97)),
 oo 99 (.faddr 2 1 (.tmp 3)),
 oo 100 (.load false 1 (.tmp 99)),
 om 101 2,
 oo 102 (.iaddr 3 (.tmp 100) (.tmp 101)),
 oo 103 (.faddr 1 1 (.tmp 102)),
 oo 104 (.load false 1 (.tmp 103)),
 oo 105 (.bin .eql 3 (.tmp 98) (.tmp 104)),
 om 106 105,
 og 107 (.faddr 2 1 (.tmp 3)) 106 true,
 og 108 (.load false 1 (.tmp 107)) 106 true,
 og 109 (.mov (.tmp 1)) 106 true,
 og 110 (.iaddr 3 (.tmp 108) (.tmp 109)) 106 true,
 og 111 (.faddr 0 1 (.tmp 110)) 106 true,
 og 112 (.load false 1 (.tmp 111)) 106 true,
 og 113 (.faddr 2 1 (.tmp 3)) 106 true,
 og 114 (.load false 1 (.tmp 113)) 106 true,
 og 115 (.mov (.tmp 2)) 106 true,
 og 116 (.iaddr 3 (.tmp 114) (.tmp 115)) 106 true,
 og 117 (.faddr 0 1 (.tmp 116)) 106 true,
 og 118 (.load false 1 (.tmp 117)) 106 true,
 og 119 (.bin .neq 3 (.tmp 112) (.tmp 118)) 106 true,
 oo 120 (.pick (.tmp 106) (.tmp 119) (.const (.bool false))),
 om 13 120] [10, 87, 93, 94, 95, 96, 97, 98, 99, 100, 101, 102, 103, 104, 105, 106, 107, 108, 109, 110, 111, 112, 113, 114, 115, 116, 117, 118, 119, 120])
 (.seq
 (.region false [
 om 121 7,
 om 122 121,
 og 123 (.mov (.tmp 8)) 122 true,
 og 124 (.mov (.tmp 1)) 122 true,
 og 125 (.callm 27 [.tmp 123, .tmp 124]) 122 true,
 og 126 (.mov (.tmp 2)) 122 true,
 og 127 (.callm 26 [.tmp 125, .tmp 126]) 122 true,
 og 128 (.mov (.tmp 13)) 122 true,
 og 129 (.eqb false 4 (.tmp 127) (.tmp 128)) 122 true,
 oo 130 (.pick (.tmp 122) (.tmp 129) (.const (.bool false))),
 om 131 130,
 og 132 (.mov (.tmp 8)) 131 true,
 og 133 (.mov (.tmp 2)) 131 true,
 og 134 (.callm 27 [.tmp 132, .tmp 133]) 131 true,
 og 135 (.mov (.tmp 1)) 131 true,
 og 136 (.callm 26 [.tmp 134, .tmp 135]) 131 true,
 og 137 (.mov (.tmp 13)) 131 true,
 og 138 (.eqb false 4 (.tmp 136) (.tmp 137)) 131 true,
 oo 139 (.pick (.tmp 131) (.tmp 138) (.const (.bool false))),
 om 140 139,
 og 141 (.mov (.tmp 8)) 140 true,
 og 142 (.faddr 2 1 (.tmp 3)) 140 true,
 og 143 (.load false 1 (.tmp 142)) 140 true,
 og 144 (.mov (.tmp 1)) 140 true,
 og 145 (.iaddr 3 (.tmp 143) (.tmp 144)) 140 true,
 og 146 (.faddr 1 1 (.tmp 145)) 140 true,
 og 147 (.load false 1 (.tmp 146)) 140 true,
 og 148 (.callm 25 [.tmp 141, .tmp 147]) 140 true,
 og 149 (.mov (.tmp 1)) 140 true,
 og 150 (.callm 26 [.tmp 148, .tmp 149]) 140 true,
 oo 151 (.pick (.tmp 140) (.tmp 150) (.const (.bool false))),
 om 152 151,
 og 153 (.mov (.tmp 8)) 152 true,
 og 154 (.faddr 2 1 (.tmp 3)) 152 true,
 og 155 (.load false 1 (.tmp 154)) 152 true,
 og 156 (.mov (.tmp 1)) 152 true,
 og 157 (.iaddr 3 (.tmp 155) (.tmp 156)) 152 true,
 og 158 (.faddr 0 1 (.tmp 157)) 152 true,
 og 159 (.load false 1 (.tmp 158)) 152 true,
 og 160 (.callm 24 [.tmp 153, .tmp 159]) 152 true,
 og 161 (.mov (.tmp 1)) 152 true,
 og 162 (.callm 26 [.tmp 160, .tmp 161]) 152 true,
 oo 163 (.pick (.tmp 152) (.tmp 162) (.const (.bool false))),
 om 6 163] [1, 2, 3, 7, 8, 13, 121, 122, 123, 124, 125, 126, 127, 128, 129, 130, 131, 132, 133, 134, 135, 136, 137, 138, 139, 140, 141, 142, 143, 144, 145, 146, 147, 148, 149, 150, 151, 152, 153, 154, 155, 156, 157, 158, 159, 160, 161, 162, 163])
 .ret))))))))))))
abbrev v_q3 : List RV := [.tmp 6]
abbrev f_q3 : FuncId := 6
theorem k_q3 : closedOf Tryz.prog Tryz.f6 = (false, some true, some v_q3, some c_q3.plain, 164) := by kernel_rfl
theorem ac_q3 {args : List AV} {r : AV} (h : aw Tryz.prog c_q3 (env0 args) (endQ v_q3 r)) (hargs : args.length ≤ 164 := by decide) (hok : resOK r = true := by rfl) : AC Tryz.prog f_q3 args r :=
  AC_mk (by kernel_rfl) Tryz.func6 k_q3 hargs hok (by decide) h
def c_q7 : ACode :=
 (.seq
 (.region false [
 oo 0 (.mov (.const (.bool false)))] [0])
 (.seq
 (.region false [
 oo 10 (.build [.sl .nil 0 [], .sl .nil 0 [], .sl .nil 0 [], .sl .nil 0 [], .sl .nil 0 [], .sl .nil 0 [], .sl .nil 0 []] []),
 oo 11 (.callm 12 [.tmp 10]),
 om 9 11,
 oo 12 (.ext (.tmp 9) 0),
 oo 13 (.ext (.tmp 9) 1),
 om 1 12,
 om 2 13] [9, 10, 11, 12, 13])
 (.seq
 (.seq
 (.region false [
 om 14 1,
 oo 15 (.eqp false (.tmp 14)),
 om 16 15,
 og 17 (.mov (.tmp 2)) 16 false,
 og 18 (.eqn true (.tmp 17)) 16 false,
 oo 19 (.pick (.tmp 16) (.const (.bool true)) (.tmp 18))] [2, 14, 15, 16, 17, 18])
 (.cond (.tmp 19)
 (.seq
 (.region false [
 oo 0 (.mov (.const (.bool false)))] [1, 19])
 .ret)
 .skip))
 (.seq
 (.region false [
 om 21 1,
 oo 22 (.callm 52 [.const (.int .i64 1)]),
 oo 23 (.callm 13 [.tmp 21, .tmp 22]),
 om 20 23,
 oo 24 (.ext (.tmp 20) 0),
 oo 25 (.ext (.tmp 20) 1),
 om 3 24,
 om 4 25] [1, 3, 19, 20, 21, 22, 23, 24, 25])
 (.seq
 (.region false [
 oo 27 (.callm 19 [.const (.int .i64 2), .const (.int .i64 1)]),
 oo 28 (.callm 12 [.tmp 27]),
 om 26 28,
 oo 29 (.ext (.tmp 26) 0),
 oo 30 (.ext (.tmp 26) 1),
 om 5 29,
 om 6 30] [26, 27, 28, 29, 30])
 (.seq
 (.seq
 (.region false [
 om 31 4,
 om 32 31,
 og 33 (.mov (.tmp 5)) 32 false,
 og 34 (.eqp false (.tmp 33)) 32 false,
 oo 35 (.pick (.tmp 32) (.const (.bool true)) (.tmp 34)),
 om 36 35,
 og 37 (.mov (.tmp 6)) 36 false,
 og 38 (.eqn true (.tmp 37)) 36 false,
 oo 39 (.pick (.tmp 36) (.const (.bool true)) (.tmp 38))] [4, 6, 31, 32, 33, 34, 35, 36, 37, 38])
 (.cond (.tmp 39)
 (.seq
 (.region false [
 oo 0 (.mov (.const (.bool false)))] [5, 39])
 .ret)
 .skip))
 (.seq
 (.region false [
 om 41 5,
 oo 42 (.callm 52 [.const (.int .i64 1)]),
 oo 43 (.callm 15 [.tmp 41, .tmp 42]),
 om 40 43,
 oo 44 (.ext (.tmp 40) 0),
 oo 45 (.ext (.tmp 40) 1),
 om 7 44,
 om 8 45] [5, 39, 40, 41, 42, 43, 44, 45])
 (.seq
 (.region false [
 om 46 8,
 om 47 46,
 og 48 (.mov (.tmp 7)) 47 true,
 og 49 (.bin .eql 3 (.tmp 48) (.const (.int .i64 1))) 47 true,
 oo 50 (.pick (.tmp 47) (.tmp 49) (.const (.bool false))),
 om 0 50] [7, 8, 46, 47, 48, 49, 50])
 .ret))))))))
abbrev v_q7 : List RV := [.tmp 0]
abbrev f_q7 : FuncId := 10
theorem k_q7 : closedOf Tryz.prog Tryz.f10 = (false, some true, some v_q7, some c_q7.plain, 51) := by kernel_rfl
theorem ac_q7 {args : List AV} {r : AV} (h : aw Tryz.prog c_q7 (env0 args) (endQ v_q7 r)) (hargs : args.length ≤ 51 := by decide) (hok : resOK r = true := by rfl) : AC Tryz.prog f_q7 args r :=
  AC_mk (by kernel_rfl) Tryz.func10 k_q7 hargs hok (by decide) h
def c_q8 : ACode :=
 (.seq
 (.region false [
 oo 2 (.box (.tmp 0)),
 oo 4 (.mov (.const (.bool false)))] [0, 4])
 (.seq
 (.region false [
 oo 5 (.faddr 0 1 (.tmp 2)),
 oo 6 (.load false 1 (.tmp 5)),
 oo 7 (.lenl (.tmp 6)),
 om 8 1,
 oo 9 (.bin .leq 3 (.tmp 7) (.tmp 8)),
 om 10 9,
 og 11 (.faddr 1 1 (.tmp 2)) 10 true,
 og 12 (.load false 1 (.tmp 11)) 10 true,
 og 13 (.lenl (.tmp 12)) 10 true,
 og 14 (.bin .leq 3 (.tmp 13) (.const (.int .i64 12))) 10 true,
 oo 15 (.pick (.tmp 10) (.tmp 14) (.const (.bool false))),
 om 16 15,
 og 17 (.faddr 2 1 (.tmp 2)) 16 true,
 og 18 (.load false 1 (.tmp 17)) 16 true,
 og 19 (.lenl (.tmp 18)) 16 true,
 og 20 (.bin .leq 3 (.tmp 19) (.const (.int .i64 24))) 16 true,
 oo 21 (.pick (.tmp 16) (.tmp 20) (.const (.bool false))),
 om 22 21,
 og 23 (.faddr 3 1 (.tmp 2)) 22 true,
 og 24 (.load false 1 (.tmp 23)) 22 true,
 og 25 (.lenl (.tmp 24)) 22 true,
 og 26 (.bin .leq 3 (.tmp 25) (.const (.int .i64 30))) 22 true,
 oo 27 (.pick (.tmp 22) (.tmp 26) (.const (.bool false))),
 om 28 27,
 og 29 (.faddr 4 1 (.tmp 2)) 28 true,
 og 30 (.load false 1 (.tmp 29)) 28 true,
 og 31 (.lenl (.tmp 30)) 28 true,
 og 32 (.bin .leq 3 (.tmp 31) (.const (.int .i64 4))) 28 true,
 oo 33 (.pick (.tmp 28) (.tmp 32) (.const (.bool false))),
 om 34 33,
 og 35 (.faddr 5 1 (.tmp 2)) 34 true,
 og 36 (.load false 1 (.tmp 35)) 34 true,
 og 37 (.lenl (.tmp 36)) 34 true,
 og 38 (.bin .leq 3 (.tmp 37) (.const (.int .i64 5))) 34 true,
 oo 39 (.pick (.tmp 34) (.tmp 38) (.const (.bool false))),
 om 40 39,
 og 41 (.faddr 6 1 (.tmp 2)) 40 true,
 og 42 (.load false 1 (.tmp 41)) 40 true,
 og 43 (.lenl (.tmp 42)) 40 true,
 og 44 (.bin .leq 3 (.tmp 43) (.const (.int .i64 10))) 40 true,
 oo 45 (.pick (.tmp 40) (.tmp 44) (.const (.bool false))),
 om 46 45,
 og 47 (.load true 7 (.tmp 2)) 46 true,
 og 48 (.callm 21 [.tmp 47]) 46 true,
 og 49 (.bin .eql 3 (.tmp 48) (.const (.int .i64 0))) 46 true,
 oo 50 (.pick (.tmp 46) (.tmp 49) (.const (.bool false))),
 om 4 50] [1, 2, 5, 6, 7, 8, 9, 10, 11, 12, 13, 14, 15, 16, 17, 18, 19, 20, 21, 22, 23, 24, 25, 26, 27, 28, 29, 30, 31, 32, 33, 34, 35, 36, 37, 38, 39, 40, 41, 42, 43, 44, 45, 46, 47, 48, 49, 50])
 .ret))
abbrev v_q8 : List RV := [.tmp 4]
abbrev f_q8 : FuncId := 11
theorem k_q8 : closedOf Tryz.prog Tryz.f11 = (false, some true, some v_q8, some c_q8.plain, 51) := by kernel_rfl
theorem ac_q8 {args : List AV} {r : AV} (h : aw Tryz.prog c_q8 (env0 args) (endQ v_q8 r)) (hargs : args.length ≤ 51 := by decide) (hok : resOK r = true := by rfl) : AC Tryz.prog f_q8 args r :=
  AC_mk (by kernel_rfl) Tryz.func11 k_q8 hargs hok (by decide) h
def c_q9 : ACode :=
 (.seq
 (.region false [
 oo 1 (.box (.tmp 0)),
 oo 2 (.mov (.const (.pointer none))),
 oo 3 (.mov (.const (.nilIface)))] [0, 2, 3])
 (.seq
 (.seq
 (.region false [
 oo 12 (.load true 7 (.tmp 1)),
 oo 13 (.callm 53 [.tmp 12]),
 om 4 13] [12, 13])
 (.seq
 (.region false [
 om 14 4,
 oo 15 (.eqn true (.tmp 14))] [14])
 (.cond (.tmp 15)
 (.seq
 (.region false [
 om 16 4,
 oo 2 (.mov (.const (.pointer none))),
 om 3 16] [1, 4, 15, 16])
 .ret)
 .skip)))
 (.seq
 (.region true [
 oo 17 (.load true 7 (.tmp 1)),
 oo 18 (.call 54 [.tmp 17]),
 oo 19 (.faddr 1 1 (.tmp 1)),
 oo 20 (.load false 1 (.tmp 19)),
 oo 21 (.lenl (.tmp 20)),
 oo 22 (.mkf false 1 24 [.sl .nil 0 []] (.tmp 21) (.tmp 21)),
 oo 23 (.faddr 0 1 (.tmp 1)),
 oo 24 (.load false 1 (.tmp 23)),
 oo 25 (.lenl (.tmp 24)),
 oo 26 (.mkf false 1 24 [.sl .nil 0 []] (.tmp 25) (.tmp 25)),
 oo 27 (.mkm),
 oo 28 (.faddr 1 1 (.tmp 1)),
 oo 29 (.load false 1 (.tmp 28)),
 oo 30 (.lenl (.tmp 29)),
 oo 31 (.mkf false 1 24 [.sl .nil 0 []] (.tmp 30) (.tmp 30)),
 oo 32 (.build [.sl .nil 0 [], .sl .nil 0 [], .sl .nil 0 [], .sl .nil 0 [], .sl .nil 0 [], .sl .nil 0 [], .sl .nil 0 [], .sl .nil 0 [], .sl .nil 0 [], .lit (.map none), .sl .nil 0 [], .sl .nil 0 []] [(0, 7, .tmp 18), (7, 1, .tmp 22), (8, 1, .tmp 26), (9, 1, .tmp 27), (10, 1, .tmp 31)]),
 oo 33 (.box (.tmp 32)),
 om 5 33] [4, 15, 17, 18, 19, 20, 21, 22, 23, 24, 25, 26, 27, 28, 29, 30, 31, 32, 33])
 (.seq
 (.seq
 (.shift
 (.region false [
 oo 34 (.faddr 2 1 (.tmp 1)),
 oo 35 (.load false 1 (.tmp 34)),
 oo 36 (.lenl (.tmp 35)),
 oo 37 (.mov (.const (.int .i64 0)))] [34]))
 (.block 0
 (.loop
 (.seq
 (.region false [
 oo 38 (.bin .lss 3 (.tmp 37) (.tmp 36))] [])
 (.seq
 (.cond (.tmp 38)
 .skip
 (.exit 0))
 (.seq
 (.block 1
 (.seq
 (.region false [
 om 39 37,
 oo 40 (.iaddr 3 (.tmp 35) (.tmp 37)),
 oo 41 (.load true 3 (.tmp 40)),
 oo 7 (.alloc [.lit (.int .i64 0), .lit (.int .i64 0), .lit (.int .u32 0)]),
 om 6 39,
 ⟨none, .store 3 (.tmp 7) (.tmp 41), none⟩] [38, 39, 40, 41])
 (.seq
 (.region true [
 om 42 5,
 oo 43 (.nilchk (.tmp 42)),
 oo 44 (.faddr 7 1 (.tmp 43)),
 oo 45 (.loadc false 1 (.tmp 44)),
 oo 46 (.faddr 1 1 (.tmp 7)),
 oo 47 (.loadc false 1 (.tmp 46)),
 om 48 5,
 oo 49 (.nilchk (.tmp 48)),
 oo 50 (.faddr 7 1 (.tmp 49)),
 oo 51 (.loadc false 1 (.tmp 50)),
 oo 52 (.faddr 1 1 (.tmp 7)),
 oo 53 (.loadc false 1 (.tmp 52)),
 oo 54 (.iaddr 1 (.tmp 51) (.tmp 53)),
 oo 55 (.loadc false 1 (.tmp 54)),
 om 56 6,
 oo 57 (.bslice 1 1 [.tmp 56]),
 oo 58 (.app 1 8 [] (.tmp 55) (.tmp 57)),
 oo 59 (.iaddr 1 (.tmp 45) (.tmp 47)),
 ⟨none, .store 1 (.tmp 59) (.tmp 58), none⟩] [42, 43, 44, 45, 46, 47, 48, 49, 50, 51, 52, 53, 54, 55, 56, 57, 58, 59])
 (.seq
 (.region true [
 om 60 5,
 oo 61 (.nilchk (.tmp 60)),
 oo 62 (.faddr 8 1 (.tmp 61)),
 oo 63 (.loadc false 1 (.tmp 62)),
 oo 64 (.faddr 0 1 (.tmp 7)),
 oo 65 (.loadc false 1 (.tmp 64)),
 om 66 5,
 oo 67 (.nilchk (.tmp 66)),
 oo 68 (.faddr 8 1 (.tmp 67)),
 oo 69 (.loadc false 1 (.tmp 68)),
 oo 70 (.faddr 0 1 (.tmp 7)),
 oo 71 (.loadc false 1 (.tmp 70)),
 oo 72 (.iaddr 1 (.tmp 69) (.tmp 71)),
 oo 73 (.loadc false 1 (.tmp 72)),
 om 74 6,
 oo 75 (.bslice 1 1 [.tmp 74]),
 oo 76 (.app 1 8 [] (.tmp 73) (.tmp 75)),
 oo 77 (.iaddr 1 (.tmp 63) (.tmp 65)),
 ⟨none, .store 1 (.tmp 77) (.tmp 76), none⟩] [60, 61, 62, 63, 64, 65, 66, 67, 68, 69, 70, 71, 72, 73, 74, 75, 76, 77])
 (.region true [
 om 78 5,
 oo 79 (.nilchk (.tmp 78)),
 oo 80 (.faddr 9 1 (.tmp 79)),
 oo 81 (.load false 1 (.tmp 80)),
 oo 82 (.faddr 2 1 (.tmp 7)),
 oo 83 (.load false 1 (.tmp 82)),
 om 84 6,
 ⟨none, .mup false (.tmp 81) (.tmp 83) (.tmp 84), none⟩] [6, 7, 78, 79, 80, 81, 82, 83, 84])))) [])
 (.shift
 (.region false [
 oo 85 (.bin .add 3 (.tmp 37) (.const (.int .i64 1))),
 om 37 85] [85]))))) [] [7]) [35, 36, 37, 38]))
 (.seq
 (.seq
 (.shift
 (.region false [
 oo 86 (.faddr 6 1 (.tmp 1)),
 oo 87 (.load false 1 (.tmp 86)),
 oo 88 (.lenl (.tmp 87)),
 oo 89 (.mov (.const (.int .i64 0)))] [86]))
 (.block 2
 (.loop
 (.seq
 (.region false [
 oo 90 (.bin .lss 3 (.tmp 89) (.tmp 88))] [])
 (.seq
 (.cond (.tmp 90)
 .skip
 (.exit 2))
 (.seq
 (.block 3
 (.seq
 (.region false [
 om 91 89,
 oo 92 (.iaddr 4 (.tmp 87) (.tmp 89)),
 oo 93 (.load true 4 (.tmp 92)),
 oo 9 (.alloc [.lit (.int .i64 0), .lit (.int .u32 0), .lit (.bool false), .sl .nil 0 []]),
 om 8 91,
 ⟨none, .store 4 (.tmp 9) (.tmp 93), none⟩] [90, 91, 92, 93])
 (.seq
 (.region true [
 om 94 5,
 oo 95 (.nilchk (.tmp 94)),
 oo 96 (.faddr 10 1 (.tmp 95)),
 oo 97 (.loadc false 1 (.tmp 96)),
 oo 98 (.faddr 0 1 (.tmp 9)),
 oo 99 (.loadc false 1 (.tmp 98)),
 om 100 5,
 oo 101 (.nilchk (.tmp 100)),
 oo 102 (.faddr 10 1 (.tmp 101)),
 oo 103 (.loadc false 1 (.tmp 102)),
 oo 104 (.faddr 0 1 (.tmp 9)),
 oo 105 (.loadc false 1 (.tmp 104)),
 oo 106 (.iaddr 1 (.tmp 103) (.tmp 105)),
 oo 107 (.loadc false 1 (.tmp 106)),
 om 108 8,
 oo 109 (.bslice 1 1 [.tmp 108]),
 oo 110 (.app 1 8 [] (.tmp 107) (.tmp 109)),
 oo 111 (.iaddr 1 (.tmp 97) (.tmp 99)),
 ⟨none, .store 1 (.tmp 111) (.tmp 110), none⟩] [8, 94, 95, 96, 97, 98, 99, 100, 101, 102, 103, 104, 105, 106, 107, 108, 109, 110, 111])
 (.region true [
 om 112 5,
 om 113 5,
 oo 114 (.nilchk (.tmp 113)),
 oo 115 (.faddr 11 1 (.tmp 114)),
 oo 116 (.loadc false 1 (.tmp 115)),
 oo 117 (.faddr 1 1 (.tmp 9)),
 oo 118 (.loadc false 1 (.tmp 117)),
 oo 119 (.bslice 1 1 [.tmp 118]),
 oo 120 (.app 1 4 [] (.tmp 116) (.tmp 119)),
 oo 121 (.nilchk (.tmp 112)),
 oo 122 (.faddr 11 1 (.tmp 121)),
 ⟨none, .store 1 (.tmp 122) (.tmp 120), none⟩] [9, 112, 113, 114, 115, 116, 117, 118, 119, 120, 121, 122]))) [])
 (.shift
 (.region false [
 oo 123 (.bin .add 3 (.tmp 89) (.const (.int .i64 1))),
 om 89 123] [123]))))) [] [9]) [87, 88, 89, 90]))
 (.seq
 (.seq
 (.shift
 (.region false [
 oo 124 (.faddr 5 1 (.tmp 1)),
 oo 125 (.load false 1 (.tmp 124)),
 oo 126 (.lenl (.tmp 125)),
 oo 127 (.mov (.const (.int .i64 0)))] [1, 124]))
 (.block 4
 (.loop
 (.seq
 (.region false [
 oo 128 (.bin .lss 3 (.tmp 127) (.tmp 126))] [])
 (.seq
 (.cond (.tmp 128)
 .skip
 (.exit 4))
 (.seq
 (.block 5
 (.seq
 (.region false [
 oo 129 (.iaddr 3 (.tmp 125) (.tmp 127)),
 oo 130 (.load true 3 (.tmp 129)),
 oo 11 (.alloc [.lit (.int .i64 0), .lit (.int .u32 0), .lit (.int .u32 0)]),
 ⟨none, .store 3 (.tmp 11) (.tmp 130), none⟩] [128, 129, 130])
 (.region true [
 om 131 5,
 om 132 5,
 oo 133 (.nilchk (.tmp 132)),
 oo 134 (.faddr 11 1 (.tmp 133)),
 oo 135 (.loadc false 1 (.tmp 134)),
 oo 136 (.faddr 1 2 (.tmp 11)),
 oo 137 (.faddr 1 1 (.tmp 136)),
 oo 138 (.loadc false 1 (.tmp 137)),
 oo 139 (.bslice 1 1 [.tmp 138]),
 oo 140 (.app 1 4 [] (.tmp 135) (.tmp 139)),
 oo 141 (.nilchk (.tmp 131)),
 oo 142 (.faddr 11 1 (.tmp 141)),
 ⟨none, .store 1 (.tmp 142) (.tmp 140), none⟩] [11, 131, 132, 133, 134, 135, 136, 137, 138, 139, 140, 141, 142])) [])
 (.region false [
 oo 143 (.bin .add 3 (.tmp 127) (.const (.int .i64 1))),
 om 127 143] [143])))) [] [11]) [125, 126, 127, 128]))
 (.seq
 (.shift
 (.region false [
 om 144 5,
 oo 145 (.nilchk (.tmp 144)),
 oo 146 (.faddr 11 1 (.tmp 145)),
 oo 147 (.load false 1 (.tmp 146)),
 oo 148 (.callm 55 [.tmp 147])] [144, 145, 146, 147, 148]))
 (.seq
 (.region false [
 om 149 5,
 om 150 5,
 oo 151 (.nilchk (.tmp 150)),
 oo 152 (.faddr 11 1 (.tmp 151)),
 oo 153 (.load false 1 (.tmp 152)),
 oo 154 (.callm 56 [.tmp 153]),
 oo 155 (.nilchk (.tmp 149)),
 oo 156 (.faddr 11 1 (.tmp 155)),
 ⟨none, .store 1 (.tmp 156) (.tmp 154), none⟩] [149, 150, 151, 152, 153, 154, 155, 156])
 (.seq
 (.region false [
 om 157 5,
 om 2 157,
 oo 3 (.mov (.const (.nilIface)))] [5, 157])
 .ret)))))))))
abbrev v_q9 : List RV := [.tmp 2, .tmp 3]
abbrev f_q9 : FuncId := 12
theorem k_q9 : closedOf Tryz.prog Tryz.f12 = (false, some true, some v_q9, some c_q9.plain, 158) := by kernel_rfl
theorem ac_q9 {args : List AV} {r : AV} (h : aw Tryz.prog c_q9 (env0 args) (endQ v_q9 r)) (hargs : args.length ≤ 158 := by decide) (hok : resOK r = true := by rfl) : AC Tryz.prog f_q9 args r :=
  AC_mk (by kernel_rfl) Tryz.func12 k_q9 hargs hok (by decide) h
def c_q10 : ACode :=
 (.seq
 (.region false [
 oo 4 (.mov (.const (.int .u32 0))),
 oo 5 (.mov (.const (.bool false)))] [4, 5])
 (.seq
 (.region false [
 oo 6 (.mov (.const (.int .u32 0))),
 oo 7 (.mov (.const (.int .i64 (-1))))] [])
 (.seq
 (.seq
 (.region false [
 om 10 0,
 oo 11 (.callm 57 [.tmp 10]),
 oo 12 (.nilchk (.tmp 11)),
 oo 13 (.faddr 4 1 (.tmp 12)),
 oo 14 (.load false 1 (.tmp 13)),
 oo 15 (.lenl (.tmp 14)),
 oo 16 (.mov (.const (.int .i64 0)))] [0, 10, 11, 12, 13])
 (.block 0
 (.loop
 (.seq
 (.region false [
 oo 17 (.bin .lss 3 (.tmp 16) (.tmp 15))] [])
 (.seq
 (.cond (.tmp 17)
 .skip
 (.exit 0))
 (.seq
 (.block 1
 (.seq
 (.region false [
 oo 18 (.iaddr 3 (.tmp 14) (.tmp 16)),
 oo 19 (.load true 3 (.tmp 18)),
 oo 9 (.alloc [.lit (.int .u32 0), .lit (.int .i64 0), .lit (.int .u32 0)]),
 ⟨none, .store 3 (.tmp 9) (.tmp 19), none⟩] [17, 18, 19])
 (.seq
 (.region false [
 om 20 1,
 oo 21 (.callm 58 [.tmp 20]),
 om 22 21,
 og 23 (.faddr 0 2 (.tmp 9)) 22 true,
 og 24 (.load true 2 (.tmp 23)) 22 true,
 og 25 (.mov (.tmp 1)) 22 true,
 og 26 (.callm 59 [.tmp 24, .tmp 25]) 22 true,
 oo 27 (.pick (.tmp 22) (.tmp 26) (.const (.bool false))),
 om 28 27,
 og 29 (.faddr 0 2 (.tmp 9)) 28 true,
 og 30 (.faddr 1 1 (.tmp 29)) 28 true,
 og 31 (.load false 1 (.tmp 30)) 28 true,
 og 32 (.mov (.tmp 7)) 28 true,
 og 33 (.bin .gtr 3 (.tmp 31) (.tmp 32)) 28 true,
 oo 34 (.pick (.tmp 28) (.tmp 33) (.const (.bool false)))] [20, 21, 22, 23, 24, 25, 26, 27, 28, 29, 30, 31, 32, 33])
 (.cond (.tmp 34)
 (.region true [
 oo 35 (.faddr 2 1 (.tmp 9)),
 oo 36 (.load false 1 (.tmp 35)),
 oo 37 (.faddr 0 2 (.tmp 9)),
 oo 38 (.faddr 1 1 (.tmp 37)),
 oo 39 (.load false 1 (.tmp 38)),
 om 6 36,
 om 7 39] [9, 34, 35, 36, 37, 38, 39])
 .skip))) [9, 34])
 (.region false [
 oo 40 (.bin .add 3 (.tmp 16) (.const (.int .i64 1))),
 om 16 40] [40])))) [] [9]) [1, 14, 15, 16, 17]))
 (.seq
 (.region false [
 om 41 6,
 om 42 7,
 oo 43 (.bin .geq 3 (.tmp 42) (.const (.int .i64 0))),
 om 4 41,
 om 5 43] [6, 7, 41, 42, 43])
 .ret))))
abbrev v_q10 : List RV := [.tmp 4, .tmp 5]
abbrev f_q10 : FuncId := 13
theorem k_q10 : closedOf Tryz.prog Tryz.f13 = (false, some true, some v_q10, some c_q10.plain, 44) := by kernel_rfl
theorem ac_q10 {args : List AV} {r : AV} (h : aw Tryz.prog c_q10 (env0 args) (endQ v_q10 r)) (hargs : args.length ≤ 44 := by decide) (hok : resOK r = true := by rfl) : AC Tryz.prog f_q10 args r :=
  AC_mk (by kernel_rfl) Tryz.func13 k_q10 hargs hok (by decide) h
def c_q11 : ACode :=
 (.seq
 (.region false [
 oo 2 (.box (.tmp 0)),
 oo 4 (.mov (.const (.int .u32 0))),
 oo 5 (.mov (.const (.bool false)))] [0, 4, 5])
 (.seq
 (.region false [
 oo 6 (.mov (.const (.int .i64 (-1))))] [])
 (.seq
 (.region false [
 oo 7 (.mov (.const (.int .u32 0)))] [])
 (.seq
 (.seq
 (.region false [
 oo 8 (.mov (.const (.int .i64 0)))] [])
 (.block 0
 (.loop
 (.seq
 (.seq
 (.region false [
 om 9 8,
 oo 10 (.faddr 4 1 (.tmp 2)),
 oo 11 (.load false 1 (.tmp 10)),
 oo 12 (.lenl (.tmp 11)),
 oo 13 (.bin .lss 3 (.tmp 9) (.tmp 12))] [9, 10, 11, 12])
 (.cond (.tmp 13)
 .skip
 (.exit 0)))
 (.seq
 (.block 1
 (.seq
 (.region false [
 oo 16 (.faddr 4 1 (.tmp 2)),
 oo 17 (.load false 1 (.tmp 16)),
 om 18 8,
 oo 19 (.iaddr 3 (.tmp 17) (.tmp 18)),
 oo 20 (.faddr 0 2 (.tmp 19)),
 oo 21 (.load true 2 (.tmp 20)),
 om 22 1,
 oo 23 (.callm 60 [.tmp 21, .tmp 22]),
 om 24 23,
 og 25 (.faddr 4 1 (.tmp 2)) 24 true,
 og 26 (.load false 1 (.tmp 25)) 24 true,
 og 27 (.mov (.tmp 8)) 24 true,
 og 28 (.iaddr 3 (.tmp 26) (.tmp 27)) 24 true,
 og 29 (.faddr 0 2 (.tmp 28)) 24 true,
 og 30 (.faddr 1 1 (.tmp 29)) 24 true,
 og 31 (.load false 1 (.tmp 30)) 24 true,
 og 32 (.mov (.tmp 6)) 24 true,
 og 33 (.bin .gtr 3 (.tmp 31) (.tmp 32)) 24 true,
 oo 34 (.pick (.tmp 24) (.tmp 33) (.const (.bool false)))] [13, 16, 17, 18, 19, 20, 21, 22, 23, 24, 25, 26, 27, 28, 29, 30, 31, 32, 33])
 (.cond (.tmp 34)
 (.seq
 (.region false [
 oo 35 (.faddr 4 1 (.tmp 2)),
 oo 36 (.load false 1 (.tmp 35)),
 om 37 8,
 oo 38 (.iaddr 3 (.tmp 36) (.tmp 37)),
 oo 39 (.faddr 0 2 (.tmp 38)),
 oo 40 (.faddr 1 1 (.tmp 39)),
 oo 41 (.load false 1 (.tmp 40)),
 om 6 41] [7, 34, 35, 36, 37, 38, 39, 40, 41])
 (.region false [
 oo 42 (.faddr 4 1 (.tmp 2)),
 oo 43 (.load false 1 (.tmp 42)),
 om 44 8,
 oo 45 (.iaddr 3 (.tmp 43) (.tmp 44)),
 oo 46 (.faddr 2 1 (.tmp 45)),
 oo 47 (.load false 1 (.tmp 46)),
 om 7 47] [42, 43, 44, 45, 46, 47]))
 .skip)) [34])
 (.region false [
 om 14 8,
 oo 15 (.bin .add 3 (.tmp 14) (.const (.int .i64 1))),
 om 8 15] [14, 15]))) [] []) [1, 2, 8, 13]))
 (.seq
 (.region false [
 om 48 7,
 om 49 6,
 oo 50 (.bin .geq 3 (.tmp 49) (.const (.int .i64 0))),
 om 4 48,
 om 5 50] [6, 7, 48, 49, 50])
 .ret)))))
abbrev v_q11 : List RV := [.tmp 4, .tmp 5]
abbrev f_q11 : FuncId := 14
theorem k_q11 : closedOf Tryz.prog Tryz.f14 = (false, some true, some v_q11, some c_q11.plain, 51) := by kernel_rfl
theorem ac_q11 {args : List AV} {r : AV} (h : aw Tryz.prog c_q11 (env0 args) (endQ v_q11 r)) (hargs : args.length ≤ 51 := by decide) (hok : resOK r = true := by rfl) : AC Tryz.prog f_q11 args r :=
  AC_mk (by kernel_rfl) Tryz.func14 k_q11 hargs hok (by decide) h
def c_q12 : ACode :=
 (.seq
 (.region false [
 oo 4 (.mov (.const (.int .i64 0))),
 oo 5 (.mov (.const (.bool false)))] [4, 5])
 (.seq
 (.region false [
 om 10 0,
 om 11 1,
 oo 12 (.callm 13 [.tmp 10, .tmp 11]),
 om 9 12,
 oo 13 (.ext (.tmp 9) 0),
 oo 14 (.ext (.tmp 9) 1),
 om 6 13,
 om 7 14] [1, 9, 10, 11, 12, 13, 14])
 (.seq
 (.seq
 (.region false [
 om 15 7,
 oo 16 (.un .not (.tmp 15))] [7, 15])
 (.cond (.tmp 16)
 (.seq
 (.region false [
 oo 4 (.mov (.const (.int .i64 0))),
 oo 5 (.mov (.const (.bool false)))] [0, 6, 16])
 .ret)
 .skip))
 (.seq
 (.region false [
 om 18 0,
 om 19 6,
 oo 20 (.callm 22 [.tmp 18, .tmp 19]),
 om 17 20,
 oo 21 (.ext (.tmp 17) 0),
 oo 22 (.ext (.tmp 17) 1),
 om 8 21,
 om 7 22] [6, 16, 17, 18, 19, 20, 21, 22])
 (.seq
 (.seq
 (.region false [
 om 23 7,
 oo 24 (.un .not (.tmp 23))] [7, 23])
 (.cond (.tmp 24)
 (.seq
 (.region false [
 oo 4 (.mov (.const (.int .i64 0))),
 oo 5 (.mov (.const (.bool false)))] [0, 8, 24])
 .ret)
 .skip))
 (.seq
 (.region false [
 om 25 0,
 oo 26 (.callm 57 [.tmp 25]),
 oo 27 (.nilchk (.tmp 26)),
 oo 28 (.faddr 2 1 (.tmp 27)),
 oo 29 (.load false 1 (.tmp 28)),
 om 30 8,
 oo 31 (.iaddr 3 (.tmp 29) (.tmp 30)),
 oo 32 (.faddr 0 1 (.tmp 31)),
 oo 33 (.load false 1 (.tmp 32)),
 om 4 33,
 oo 5 (.mov (.const (.bool true)))] [0, 8, 24, 25, 26, 27, 28, 29, 30, 31, 32, 33])
 .ret))))))
abbrev v_q12 : List RV := [.tmp 4, .tmp 5]
abbrev f_q12 : FuncId := 15
theorem k_q12 : closedOf Tryz.prog Tryz.f15 = (false, some true, some v_q12, some c_q12.plain, 34) := by kernel_rfl
theorem ac_q12 {args : List AV} {r : AV} (h : aw Tryz.prog c_q12 (env0 args) (endQ v_q12 r)) (hargs : args.length ≤ 34 := by decide) (hok : resOK r = true := by rfl) : AC Tryz.prog f_q12 args r :=
  AC_mk (by kernel_rfl) Tryz.func15 k_q12 hargs hok (by decide) h
def c_q13 : ACode :=
 (.seq
 (.region false [
 oo 2 (.box (.tmp 0)),
 oo 4 (.mov (.const (.int .i64 0)))] [0, 4])
 (.seq
 (.region false [
 oo 9 (.load true 7 (.tmp 2)),
 om 10 1,
 oo 11 (.callm 14 [.tmp 9, .tmp 10]),
 om 8 11,
 oo 12 (.ext (.tmp 8) 0),
 oo 13 (.ext (.tmp 8) 1),
 om 5 12,
 om 6 13] [1, 8, 9, 10, 11, 12, 13])
 (.seq
 (.seq
 (.region false [
 om 14 6,
 oo 15 (.un .not (.tmp 14))] [6, 14])
 (.cond (.tmp 15)
 (.seq
 (.region false [
 oo 4 (.mov (.const (.int .i64 (-1))))] [2, 5, 15])
 .ret)
 .skip))
 (.seq
 (.region false [
 oo 16 (.load true 7 (.tmp 2)),
 om 17 5,
 oo 18 (.callm 37 [.tmp 16, .tmp 17]),
 om 7 18] [5, 15, 16, 17, 18])
 (.seq
 (.seq
 (.region false [
 om 19 7,
 oo 20 (.bin .lss 3 (.tmp 19) (.const (.int .i64 0)))] [19])
 (.cond (.tmp 20)
 (.seq
 (.region false [
 oo 4 (.mov (.const (.int .i64 (-1))))] [2, 7, 20])
 .ret)
 .skip))
 (.seq
 (.region false [
 oo 21 (.faddr 2 1 (.tmp 2)),
 oo 22 (.load false 1 (.tmp 21)),
 om 23 7,
 oo 24 (.iaddr 3 (.tmp 22) (.tmp 23)),
 oo 25 (.faddr 0 1 (.tmp 24)),
 oo 26 (.load false 1 (.tmp 25)),
 om 4 26] [2, 7, 20, 21, 22, 23, 24, 25, 26])
 .ret))))))
abbrev v_q13 : List RV := [.tmp 4]
abbrev f_q13 : FuncId := 16
theorem k_q13 : closedOf Tryz.prog Tryz.f16 = (false, some true, some v_q13, some c_q13.plain, 27) := by kernel_rfl
theorem ac_q13 {args : List AV} {r : AV} (h : aw Tryz.prog c_q13 (env0 args) (endQ v_q13 r)) (hargs : args.length ≤ 27 := by decide) (hok : resOK r = true := by rfl) : AC Tryz.prog f_q13 args r :=
  AC_mk (by kernel_rfl) Tryz.func16 k_q13 hargs hok (by decide) h
def c_q14 : ACode :=
 (.seq
 (.region false [
 oo 6 (.mov (.const (.bool false)))] [6])
 (.seq
 (.region false [
 om 10 0,
 om 11 2,
 oo 12 (.callm 15 [.tmp 10, .tmp 11]),
 om 9 12,
 oo 13 (.ext (.tmp 9) 0),
 oo 14 (.ext (.tmp 9) 1),
 om 7 13,
 om 8 14] [0, 2, 9, 10, 11, 12, 13, 14])
 (.seq
 (.region false [
 om 15 8,
 om 16 15,
 og 17 (.mov (.tmp 7)) 16 true,
 og 18 (.mov (.tmp 1)) 16 true,
 og 19 (.bin .eql 3 (.tmp 17) (.tmp 18)) 16 true,
 oo 20 (.pick (.tmp 16) (.tmp 19) (.const (.bool false))),
 om 6 20] [1, 7, 8, 15, 16, 17, 18, 19, 20])
 .ret)))
abbrev v_q14 : List RV := [.tmp 6]
abbrev f_q14 : FuncId := 17
theorem k_q14 : closedOf Tryz.prog Tryz.f17 = (false, some true, some v_q14, some c_q14.plain, 21) := by kernel_rfl
theorem ac_q14 {args : List AV} {r : AV} (h : aw Tryz.prog c_q14 (env0 args) (endQ v_q14 r)) (hargs : args.length ≤ 21 := by decide) (hok : resOK r = true := by rfl) : AC Tryz.prog f_q14 args r :=
  AC_mk (by kernel_rfl) Tryz.func17 k_q14 hargs hok (by decide) h
def c_q15 : ACode :=
 (.seq
 (.region false [
 oo 4 (.mov (.const (.int .i64 0)))] [4])
 (.seq
 (.region false [
 om 6 0,
 om 7 1,
 oo 8 (.bin .rem 3 (.tmp 6) (.tmp 7)),
 om 5 8] [0, 6, 7, 8])
 (.seq
 (.seq
 (.region false [
 om 9 5,
 oo 10 (.bin .lss 3 (.tmp 9) (.const (.int .i64 0)))] [9])
 (.cond (.tmp 10)
 (.region false [
 om 11 5,
 om 12 1,
 oo 13 (.bin .add 3 (.tmp 11) (.tmp 12)),
 om 5 13] [1, 10, 11, 12, 13])
 .skip))
 (.seq
 (.region false [
 om 14 5,
 om 4 14] [1, 5, 10, 14])
 .ret))))
abbrev v_q15 : List RV := [.tmp 4]
abbrev f_q15 : FuncId := 18
theorem k_q15 : closedOf Tryz.prog Tryz.f18 = (false, some true, some v_q15, some c_q15.plain, 15) := by kernel_rfl
theorem ac_q15 {args : List AV} {r : AV} (h : aw Tryz.prog c_q15 (env0 args) (endQ v_q15 r)) (hargs : args.length ≤ 15 := by decide) (hok : resOK r = true := by rfl) : AC Tryz.prog f_q15 args r :=
  AC_mk (by kernel_rfl) Tryz.func18 k_q15 hargs hok (by decide) h
def c_q16 : ACode :=
 (.seq
 (.region false [
 oo 4 (.alloc [.sl .nil 0 [], .sl .nil 0 [], .sl .nil 0 [], .sl .nil 0 [], .sl .nil 0 [], .sl .nil 0 [], .sl .nil 0 []])] [])
 (.seq
 (.region false [
 oo 10 (.build [.sl .nil 0 [], .sl .nil 0 [], .sl .nil 0 [], .sl .nil 0 [], .sl .nil 0 [], .sl .nil 0 [], .sl .nil 0 []] []),
 oo 5 (.alloc [.sl .nil 0 [], .sl .nil 0 [], .sl .nil 0 [], .sl .nil 0 [], .sl .nil 0 [], .sl .nil 0 [], .sl .nil 0 []]),
 ⟨none, .store 7 (.tmp 5) (.tmp 10), none⟩] [10])
 (.seq
 (.seq
 (.region false [
 oo 6 (.mov (.const (.int .i64 0)))] [])
 (.block 0
 (.loop
 (.seq
 (.seq
 (.region false [
 om 11 6,
 om 12 0,
 oo 13 (.bin .leq 3 (.tmp 11) (.tmp 12))] [11, 12])
 (.cond (.tmp 13)
 .skip
 (.exit 0)))
 (.seq
 (.block 1
 (.region true [
 oo 16 (.faddr 1 1 (.tmp 5)),
 oo 17 (.loadc false 1 (.tmp 16)),
 om 18 6,
 oo 19 (.call 61 [.tmp 18]),
 oo 20 (.bslice 1 3 [.tmp 19]),
 oo 21 (.app 3 32 [] (.tmp 17) (.tmp 20)),
 oo 22 (.faddr 1 1 (.tmp 5)),
 ⟨none, .store 1 (.tmp 22) (.tmp 21), none⟩] [13, 16, 17, 18, 19, 20, 21, 22]) [])
 (.region false [
 om 14 6,
 oo 15 (.bin .add 3 (.tmp 14) (.const (.int .i64 1))),
 om 6 15] [14, 15]))) [] []) [6, 13]))
 (.seq
 (.seq
 (.region false [
 oo 7 (.mov (.const (.int .i64 0)))] [])
 (.block 2
 (.loop
 (.seq
 (.seq
 (.region false [
 om 23 7,
 om 24 0,
 oo 25 (.bin .lss 3 (.tmp 23) (.tmp 24))] [23, 24])
 (.cond (.tmp 25)
 .skip
 (.exit 2)))
 (.seq
 (.block 3
 (.seq
 (.region true [
 oo 28 (.faddr 0 1 (.tmp 5)),
 oo 29 (.loadc false 1 (.tmp 28)),
 om 30 7,
 oo 31 (.call 62 [.const (.string ⟨#[114]⟩), .tmp 30]),
 oo 32 (.build [.lit (.string ⟨#[]⟩), .lit (.int .i64 0)] [(0, 1, .tmp 31), (1, 1, .const (.int .i64 1))]),
 oo 33 (.bslice 1 2 [.tmp 32]),
 oo 34 (.app 2 24 [] (.tmp 29) (.tmp 33)),
 oo 35 (.faddr 0 1 (.tmp 5)),
 ⟨none, .store 1 (.tmp 35) (.tmp 34), none⟩] [25, 28, 29, 30, 31, 32, 33, 34, 35])
 (.region true [
 oo 36 (.faddr 2 1 (.tmp 5)),
 oo 37 (.loadc false 1 (.tmp 36)),
 om 38 7,
 om 39 7,
 oo 40 (.call 63 [.tmp 38, .tmp 39]),
 om 41 7,
 om 42 7,
 oo 43 (.bin .add 3 (.tmp 42) (.const (.int .i64 1))),
 oo 44 (.call 63 [.tmp 41, .tmp 43]),
 oo 45 (.bslice 2 3 [.tmp 40, .tmp 44]),
 oo 46 (.app 3 24 [] (.tmp 37) (.tmp 45)),
 oo 47 (.faddr 2 1 (.tmp 5)),
 ⟨none, .store 1 (.tmp 47) (.tmp 46), none⟩] [36, 37, 38, 39, 40, 41, 42, 43, 44, 45, 46, 47])) [])
 (.region false [
 om 26 7,
 oo 27 (.bin .add 3 (.tmp 26) (.const (.int .i64 1))),
 om 7 27] [26, 27]))) [] []) [7, 25]))
 (.seq
 (.seq
 (.region false [
 oo 8 (.mov (.const (.int .i64 0)))] [])
 (.block 4
 (.loop
 (.seq
 (.seq
 (.region false [
 om 48 8,
 om 49 0,
 oo 50 (.bin .lss 3 (.tmp 48) (.tmp 49))] [48, 49])
 (.cond (.tmp 50)
 .skip
 (.exit 4)))
 (.seq
 (.block 5
 (.seq
 (.region false [
 oo 9 (.mov (.const (.int .i64 0)))] [50])
 (.block 6
 (.loop
 (.seq
 (.seq
 (.region false [
 om 53 9,
 om 54 0,
 oo 55 (.bin .leq 3 (.tmp 53) (.tmp 54))] [53, 54])
 (.cond (.tmp 55)
 .skip
 (.exit 6)))
 (.seq
 (.block 7
 (.seq
 (.seq
 (.region false [
 om 58 9,
 om 59 8,
 oo 60 (.bin .lss 3 (.tmp 58) (.tmp 59))] [55, 58, 59])
 (.cond (.tmp 60)
 (.region true [
 oo 61 (.faddr 3 1 (.tmp 5)),
 oo 62 (.loadc false 1 (.tmp 61)),
 om 63 8,
 oo 64 (.faddr 1 1 (.tmp 5)),
 oo 65 (.loadc false 1 (.tmp 64)),
 om 66 9,
 oo 67 (.iaddr 3 (.tmp 65) (.tmp 66)),
 oo 68 (.faddr 1 2 (.tmp 67)),
 oo 69 (.loadc true 2 (.tmp 68)),
 om 70 8,
 om 71 8,
 oo 72 (.call 20 [.tmp 70, .tmp 71]),
 om 73 8,
 om 74 9,
 oo 75 (.bin .sub 3 (.tmp 73) (.tmp 74)),
 oo 76 (.build [.lit (.int .i64 0), .lit (.int .u32 0), .lit (.int .i64 0), .lit (.int .u32 0), .lit (.int .i64 0)] [(0, 1, .tmp 63), (1, 2, .tmp 69), (3, 1, .tmp 72), (4, 1, .tmp 75)]),
 oo 77 (.bslice 1 5 [.tmp 76]),
 oo 78 (.app 5 40 [] (.tmp 62) (.tmp 77)),
 oo 79 (.faddr 3 1 (.tmp 5)),
 ⟨none, .store 1 (.tmp 79) (.tmp 78), none⟩] [60, 61, 62, 63, 64, 65, 66, 67, 68, 69, 70, 71, 72, 73, 74, 75, 76, 77, 78, 79])
 .skip))
 (.seq
 (.region false [
 om 80 9,
 om 81 8,
 oo 82 (.bin .add 3 (.tmp 81) (.const (.int .i64 1))),
 oo 83 (.bin .gtr 3 (.tmp 80) (.tmp 82))] [60, 80, 81, 82])
 (.cond (.tmp 83)
 (.region true [
 oo 84 (.faddr 3 1 (.tmp 5)),
 oo 85 (.loadc false 1 (.tmp 84)),
 om 86 8,
 oo 87 (.faddr 1 1 (.tmp 5)),
 oo 88 (.loadc false 1 (.tmp 87)),
 om 89 9,
 oo 90 (.iaddr 3 (.tmp 88) (.tmp 89)),
 oo 91 (.faddr 1 2 (.tmp 90)),
 oo 92 (.loadc true 2 (.tmp 91)),
 om 93 8,
 oo 94 (.bin .add 3 (.tmp 93) (.const (.int .i64 1))),
 om 95 8,
 oo 96 (.bin .add 3 (.tmp 95) (.const (.int .i64 2))),
 oo 97 (.call 20 [.tmp 94, .tmp 96]),
 om 98 9,
 om 99 8,
 oo 100 (.bin .sub 3 (.tmp 98) (.tmp 99)),
 oo 101 (.build [.lit (.int .i64 0), .lit (.int .u32 0), .lit (.int .i64 0), .lit (.int .u32 0), .lit (.int .i64 0)] [(0, 1, .tmp 86), (1, 2, .tmp 92), (3, 1, .tmp 97), (4, 1, .tmp 100)]),
 oo 102 (.bslice 1 5 [.tmp 101]),
 oo 103 (.app 5 40 [] (.tmp 85) (.tmp 102)),
 oo 104 (.faddr 3 1 (.tmp 5)),
 ⟨none, .store 1 (.tmp 104) (.tmp 103), none⟩] [83, 84, 85, 86, 87, 88, 89, 90, 91, 92, 93, 94, 95, 96, 97, 98, 99, 100, 101, 102, 103, 104])
 .skip))) [83])
 (.region false [
 om 56 9,
 oo 57 (.bin .add 3 (.tmp 56) (.const (.int .i64 1))),
 om 9 57] [56, 57]))) [] []) [9, 55])) [])
 (.region false [
 om 51 8,
 oo 52 (.bin .add 3 (.tmp 51) (.const (.int .i64 1))),
 om 8 52] [51, 52]))) [] []) [0, 8, 50]))
 (.seq
 (.region false [
 oo 105 (.callm 64 []),
 om 106 1,
 om 107 1,
 oo 108 (.bin .add 3 (.tmp 107) (.const (.int .i64 1))),
 oo 109 (.callm 20 [.tmp 106, .tmp 108]),
 oo 110 (.build [.lit (.int .u32 0), .lit (.int .i64 0), .lit (.int .u32 0)] [(0, 2, .tmp 105), (2, 1, .tmp 109)]),
 oo 111 (.bslice 1 3 [.tmp 110]),
 oo 112 (.faddr 4 1 (.tmp 5)),
 ⟨none, .store 1 (.tmp 112) (.tmp 111), none⟩] [1, 105, 106, 107, 108, 109, 110, 111, 112])
 (.seq
 (.region false [
 oo 113 (.load true 7 (.tmp 5)),
 ⟨none, .store 7 (.tmp 4) (.tmp 113), none⟩] [5, 113])
 .ret)))))))
abbrev v_q16 : List RV := [.cell true 7 4]
abbrev f_q16 : FuncId := 19
theorem k_q16 : closedOf Tryz.prog Tryz.f19 = (false, some true, some v_q16, some c_q16.plain, 114) := by kernel_rfl
theorem ac_q16 {args : List AV} {r : AV} (h : aw Tryz.prog c_q16 (env0 args) (endQ v_q16 r)) (hargs : args.length ≤ 114 := by decide) (hok : resOK r = true := by rfl) : AC Tryz.prog f_q16 args r :=
  AC_mk (by kernel_rfl) Tryz.func19 k_q16 hargs hok (by decide) h
def c_q17 : ACode :=
 (.seq
 (.region false [
 oo 4 (.mov (.const (.int .u32 0)))] [4])
 (.seq
 (.region false [
 om 5 0,
 oo 6 (.cint .u32 (.tmp 5)),
 oo 7 (.bin .shl 32 (.tmp 6) (.const (.int .u64 8))),
 oo 8 (.bin .or 32 (.const (.int .u32 167772160)) (.tmp 7)),
 om 9 1,
 oo 10 (.cint .u32 (.tmp 9)),
 oo 11 (.bin .or 32 (.tmp 8) (.tmp 10)),
 om 4 11] [0, 1, 5, 6, 7, 8, 9, 10, 11])
 .ret))
abbrev v_q17 : List RV := [.tmp 4]
abbrev f_q17 : FuncId := 20
theorem k_q17 : closedOf Tryz.prog Tryz.f20 = (false, some true, some v_q17, some c_q17.plain, 12) := by kernel_rfl
theorem ac_q17 {args : List AV} {r : AV} (h : aw Tryz.prog c_q17 (env0 args) (endQ v_q17 r)) (hargs : args.length ≤ 12 := by decide) (hok : resOK r = true := by rfl) : AC Tryz.prog f_q17 args r :=
  AC_mk (by kernel_rfl) Tryz.func20 k_q17 hargs hok (by decide) h
def c_q18 : ACode :=
 (.seq
 (.region false [
 oo 1 (.box (.tmp 0)),
 oo 2 (.mov (.const (.int .i64 0)))] [0, 2])
 (.seq
 (.region false [
 oo 9 (.load true 7 (.tmp 1)),
 oo 10 (.callm 65 [.tmp 9]),
 om 8 10,
 oo 11 (.ext (.tmp 8) 0),
 oo 12 (.ext (.tmp 8) 1),
 oo 3 (.alloc [.lit (.int .i64 0), .lit (.int .i64 0), .lit (.int .i64 0), .lit (.int .i64 0), .lit (.int .i64 0), .lit (.int .i64 0), .lit (.int .i64 0)]),
 oo 4 (.alloc [.lit (.int .i64 0), .lit (.int .i64 0), .lit (.int .i64 0), .lit (.int .i64 0), .lit (.int .i64 0), .lit (.int .i64 0), .lit (.int .i64 0)]),
 ⟨none, .store 7 (.tmp 3) (.tmp 11), none⟩,
 ⟨none, .store 7 (.tmp 4) (.tmp 12), none⟩] [8, 9, 10, 11, 12])
 (.seq
 (.seq
 (.region false [
 oo 5 (.mov (.const (.int .i64 0)))] [])
 (.block 0
 (.loop
 (.seq
 (.seq
 (.region false [
 om 13 5,
 oo 14 (.bin .lss 3 (.tmp 13) (.const (.int .i64 7)))] [13])
 (.cond (.tmp 14)
 .skip
 (.exit 0)))
 (.seq
 (.block 1
 (.seq
 (.region false [
 oo 6 (.mov (.const (.int .i64 0)))] [14])
 (.block 2
 (.loop
 (.seq
 (.seq
 (.region false [
 om 17 6,
 om 18 5,
 oo 19 (.iadra 7 1 (.tmp 3) (.tmp 18)),
 oo 20 (.load false 1 (.tmp 19)),
 oo 21 (.bin .lss 3 (.tmp 17) (.tmp 20))] [17, 18, 19, 20])
 (.cond (.tmp 21)
 .skip
 (.exit 2)))
 (.seq
 (.block 3
 (.seq
 (.seq
 (.region false [
 om 24 6,
 om 25 5,
 oo 26 (.iadra 7 1 (.tmp 4) (.tmp 25)),
 oo 27 (.load false 1 (.tmp 26)),
 oo 28 (.bin .geq 3 (.tmp 24) (.tmp 27))] [21, 24, 25, 26, 27])
 (.cond (.tmp 28)
 (.seq
 (.region false [
 oo 2 (.mov (.const (.int .i64 104)))] [1, 3, 4, 5, 6, 28])
 .ret)
 .skip))
 (.seq
 (.region false [
 oo 29 (.load true 7 (.tmp 1)),
 om 30 5,
 om 31 6,
 oo 32 (.callm 66 [.tmp 29, .tmp 30, .tmp 31]),
 om 7 32] [28, 29, 30, 31, 32])
 (.seq
 (.region false [
 om 33 7,
 oo 34 (.bin .neq 3 (.tmp 33) (.const (.int .i64 0)))] [33])
 (.cond (.tmp 34)
 (.seq
 (.region false [
 om 35 7,
 om 2 35] [1, 3, 4, 5, 6, 7, 34, 35])
 .ret)
 .skip)))) [7, 34])
 (.region false [
 om 22 6,
 oo 23 (.bin .add 3 (.tmp 22) (.const (.int .i64 1))),
 om 6 23] [22, 23]))) [] []) [6, 21])) [])
 (.region false [
 om 15 5,
 oo 16 (.bin .add 3 (.tmp 15) (.const (.int .i64 1))),
 om 5 16] [15, 16]))) [] []) [1, 3, 4, 5, 14]))
 (.seq
 (.region false [
 oo 2 (.mov (.const (.int .i64 0)))] [])
 .ret))))
abbrev v_q18 : List RV := [.tmp 2]
abbrev f_q18 : FuncId := 21
theorem k_q18 : closedOf Tryz.prog Tryz.f21 = (false, some true, some v_q18, some c_q18.plain, 36) := by kernel_rfl
theorem ac_q18 {args : List AV} {r : AV} (h : aw Tryz.prog c_q18 (env0 args) (endQ v_q18 r)) (hargs : args.length ≤ 36 := by decide) (hok : resOK r = true := by rfl) : AC Tryz.prog f_q18 args r :=
  AC_mk (by kernel_rfl) Tryz.func21 k_q18 hargs hok (by decide) h
def c_q19 : ACode :=
 (.seq
 (.region false [
 oo 4 (.mov (.const (.int .i64 0))),
 oo 5 (.mov (.const (.bool false)))] [4, 5])
 (.seq
 (.region false [
 om 9 0,
 oo 10 (.nilchk (.tmp 9)),
 oo 11 (.faddr 9 1 (.tmp 10)),
 oo 12 (.load false 1 (.tmp 11)),
 om 13 1,
 oo 14 (.lkp false (ofVal (.int .i64 0)) true (.tmp 12) (.tmp 13)),
 om 8 14,
 oo 15 (.ext (.tmp 8) 0),
 oo 16 (.ext (.tmp 8) 1),
 om 6 15,
 om 7 16] [0, 1, 8, 9, 10, 11, 12, 13, 14, 15, 16])
 (.seq
 (.region false [
 om 17 6,
 om 18 7,
 om 4 17,
 om 5 18] [6, 7, 17, 18])
 .ret)))
abbrev v_q19 : List RV := [.tmp 4, .tmp 5]
abbrev f_q19 : FuncId := 22
theorem k_q19 : closedOf Tryz.prog Tryz.f22 = (false, some true, some v_q19, some c_q19.plain, 19) := by kernel_rfl
theorem ac_q19 {args : List AV} {r : AV} (h : aw Tryz.prog c_q19 (env0 args) (endQ v_q19 r)) (hargs : args.length ≤ 19 := by decide) (hok : resOK r = true := by rfl) : AC Tryz.prog f_q19 args r :=
  AC_mk (by kernel_rfl) Tryz.func22 k_q19 hargs hok (by decide) h
def c_q20 : ACode :=
 (.seq
 (.region false [
 oo 0 (.mov (.const (.bool false)))] [0])
 (.seq
 (.region false [
 oo 4 (.build [.sl .nil 0 [], .sl .nil 0 [], .sl .nil 0 [], .sl .nil 0 [], .sl .nil 0 [], .sl .nil 0 [], .sl .nil 0 []] []),
 oo 5 (.callm 12 [.tmp 4]),
 om 3 5,
 oo 6 (.ext (.tmp 3) 0),
 oo 7 (.ext (.tmp 3) 1),
 om 1 6,
 om 2 7] [3, 4, 5, 6, 7])
 (.seq
 (.region false [
 om 8 1,
 oo 9 (.eqp true (.tmp 8)),
 om 10 9,
 og 11 (.mov (.tmp 2)) 10 true,
 og 12 (.eqn false (.tmp 11)) 10 true,
 oo 13 (.pick (.tmp 10) (.tmp 12) (.const (.bool false))),
 om 14 13,
 og 15 (.mov (.tmp 1)) 14 true,
 og 16 (.callm 44 [.tmp 15]) 14 true,
 og 17 (.lenl (.tmp 16)) 14 true,
 og 18 (.bin .eql 3 (.tmp 17) (.const (.int .i64 0))) 14 true,
 oo 19 (.pick (.tmp 14) (.tmp 18) (.const (.bool false))),
 om 0 19] [1, 2, 8, 9, 10, 11, 12, 13, 14, 15, 16, 17, 18, 19])
 .ret)))
abbrev v_q20 : List RV := [.tmp 0]
abbrev f_q20 : FuncId := 23
theorem k_q20 : closedOf Tryz.prog Tryz.f23 = (false, some true, some v_q20, some c_q20.plain, 20) := by kernel_rfl
theorem ac_q20 {args : List AV} {r : AV} (h : aw Tryz.prog c_q20 (env0 args) (endQ v_q20 r)) (hargs : args.length ≤ 20 := by decide) (hok : resOK r = true := by rfl) : AC Tryz.prog f_q20 args r :=
  AC_mk (by kernel_rfl) Tryz.func23 k_q20 hargs hok (by decide) h
def c_q21 : ACode :=
 (.seq
 (.region false [
 oo 4 (.mov (.const (.slice none 0 0)))] [4])
 (.seq
 (.region false [
 om 5 0,
 oo 6 (.nilchk (.tmp 5)),
 oo 7 (.faddr 8 1 (.tmp 6)),
 oo 8 (.load false 1 (.tmp 7)),
 om 9 1,
 oo 10 (.callm 67 [.tmp 8, .tmp 9]),
 om 4 10] [0, 1, 5, 6, 7, 8, 9, 10])
 .ret))
abbrev v_q21 : List RV := [.tmp 4]
abbrev f_q21 : FuncId := 24
theorem k_q21 : closedOf Tryz.prog Tryz.f24 = (false, some true, some v_q21, some c_q21.plain, 11) := by kernel_rfl
theorem ac_q21 {args : List AV} {r : AV} (h : aw Tryz.prog c_q21 (env0 args) (endQ v_q21 r)) (hargs : args.length ≤ 11 := by decide) (hok : resOK r = true := by rfl) : AC Tryz.prog f_q21 args r :=
  AC_mk (by kernel_rfl) Tryz.func24 k_q21 hargs hok (by decide) h
def c_q22 : ACode :=
 (.seq
 (.region false [
 oo 4 (.mov (.const (.slice none 0 0)))] [4])
 (.seq
 (.region false [
 om 5 0,
 oo 6 (.nilchk (.tmp 5)),
 oo 7 (.faddr 7 1 (.tmp 6)),
 oo 8 (.load false 1 (.tmp 7)),
 om 9 1,
 oo 10 (.callm 67 [.tmp 8, .tmp 9]),
 om 4 10] [0, 1, 5, 6, 7, 8, 9, 10])
 .ret))
abbrev v_q22 : List RV := [.tmp 4]
abbrev f_q22 : FuncId := 25
theorem k_q22 : closedOf Tryz.prog Tryz.f25 = (false, some true, some v_q22, some c_q22.plain, 11) := by kernel_rfl
theorem ac_q22 {args : List AV} {r : AV} (h : aw Tryz.prog c_q22 (env0 args) (endQ v_q22 r)) (hargs : args.length ≤ 11 := by decide) (hok : resOK r = true := by rfl) : AC Tryz.prog f_q22 args r :=
  AC_mk (by kernel_rfl) Tryz.func25 k_q22 hargs hok (by decide) h
def c_q23 : ACode :=
 (.seq
 (.region false [
 oo 4 (.mov (.const (.bool false)))] [4])
 (.seq
 (.seq
 (.region false [
 oo 5 (.mov (.const (.int .i64 0)))] [])
 (.block 0
 (.loop
 (.seq
 (.seq
 (.region false [
 om 6 5,
 om 7 0,
 oo 8 (.lenl (.tmp 7)),
 oo 9 (.bin .lss 3 (.tmp 6) (.tmp 8))] [6, 7, 8])
 (.cond (.tmp 9)
 .skip
 (.exit 0)))
 (.seq
 (.block 1
 (.seq
 (.region false [
 om 12 0,
 om 13 5,
 oo 14 (.iaddr 1 (.tmp 12) (.tmp 13)),
 oo 15 (.load false 1 (.tmp 14)),
 om 16 1,
 oo 17 (.bin .eql 3 (.tmp 15) (.tmp 16))] [9, 12, 13, 14, 15, 16])
 (.cond (.tmp 17)
 (.seq
 (.region false [
 oo 4 (.mov (.const (.bool true)))] [0, 1, 5, 17])
 .ret)
 .skip)) [17])
 (.region false [
 om 10 5,
 oo 11 (.bin .add 3 (.tmp 10) (.const (.int .i64 1))),
 om 5 11] [10, 11]))) [] []) [0, 1, 5, 9]))
 (.seq
 (.region false [
 oo 4 (.mov (.const (.bool false)))] [])
 .ret)))
abbrev v_q23 : List RV := [.tmp 4]
abbrev f_q23 : FuncId := 26
theorem k_q23 : closedOf Tryz.prog Tryz.f26 = (false, some true, some v_q23, some c_q23.plain, 18) := by kernel_rfl
theorem ac_q23 {args : List AV} {r : AV} (h : aw Tryz.prog c_q23 (env0 args) (endQ v_q23 r)) (hargs : args.length ≤ 18 := by decide) (hok : resOK r = true := by rfl) : AC Tryz.prog f_q23 args r :=
  AC_mk (by kernel_rfl) Tryz.func26 k_q23 hargs hok (by decide) h
def c_q24 : ACode :=
 (.seq
 (.region false [
 oo 2 (.box (.tmp 0)),
 oo 4 (.mov (.const (.slice none 0 0)))] [0, 4])
 (.seq
 (.seq
 (.region false [
 om 6 1,
 oo 7 (.bin .lss 3 (.tmp 6) (.const (.int .i64 0))),
 om 8 7,
 og 9 (.mov (.tmp 1)) 8 false,
 og 10 (.load false 1 (.tmp 2)) 8 false,
 og 11 (.nilchk (.tmp 10)) 8 false,
 og 12 (.faddr 0 7 (.tmp 11)) 8 false,
 og 13 (.faddr 2 1 (.tmp 12)) 8 false,
 og 14 (.load false 1 (.tmp 13)) 8 false,
 og 15 (.lenl (.tmp 14)) 8 false,
 og 16 (.bin .geq 3 (.tmp 9) (.tmp 15)) 8 false,
 oo 17 (.pick (.tmp 8) (.const (.bool true)) (.tmp 16))] [6, 7, 8, 9, 10, 11, 12, 13, 14, 15, 16])
 (.cond (.tmp 17)
 (.seq
 (.region false [
 oo 4 (.mov (.const (.slice none 0 0)))] [1, 2, 17])
 .ret)
 .skip))
 (.seq
 (.region false [
 oo 18 (.load false 1 (.tmp 2)),
 oo 19 (.nilchk (.tmp 18)),
 oo 20 (.faddr 0 7 (.tmp 19)),
 oo 21 (.faddr 2 1 (.tmp 20)),
 oo 22 (.load false 1 (.tmp 21)),
 om 23 1,
 oo 24 (.iaddr 3 (.tmp 22) (.tmp 23)),
 oo 25 (.load true 3 (.tmp 24)),
 oo 5 (.alloc [.lit (.int .i64 0), .lit (.int .i64 0), .lit (.int .u32 0)]),
 ⟨none, .store 3 (.tmp 5) (.tmp 25), none⟩] [1, 17, 18, 19, 20, 21, 22, 23, 24, 25])
 (.seq
 (.split [
 oo 26 (.load false 1 (.tmp 2)),
 oo 27 (.faddr 1 1 (.tmp 5)),
 oo 28 (.load false 1 (.tmp 27)),
 oo 29 (.callm 25 [.tmp 26, .tmp 28])] [
 oo 30 (.mkfn (.func 69) [] [.tmp 2, .tmp 5]),
 oo 31 (.callm 68 [.tmp 29, .tmp 30]),
 om 4 31] [2, 5, 26, 27, 28, 29, 30, 31])
 .ret))))
abbrev v_q24 : List RV := [.tmp 4]
abbrev f_q24 : FuncId := 27
theorem k_q24 : closedOf Tryz.prog Tryz.f27 = (false, some true, some v_q24, some c_q24.plain, 32) := by kernel_rfl
theorem ac_q24 {args : List AV} {r : AV} (h : aw Tryz.prog c_q24 (env0 args) (endQ v_q24 r)) (hargs : args.length ≤ 32 := by decide) (hok : resOK r = true := by rfl) : AC Tryz.prog f_q24 args r :=
  AC_mk (by kernel_rfl) Tryz.func27 k_q24 hargs hok (by decide) h
def c_q34 : ACode :=
 (.seq
 (.region false [
 oo 2 (.box (.tmp 0)),
 oo 4 (.mov (.const (.int .i64 0)))] [0, 4])
 (.seq
 (.seq
 (.region false [
 oo 5 (.mov (.const (.int .i64 0)))] [])
 (.block 0
 (.loop
 (.seq
 (.seq
 (.region false [
 om 6 5,
 oo 7 (.faddr 2 1 (.tmp 2)),
 oo 8 (.load false 1 (.tmp 7)),
 oo 9 (.lenl (.tmp 8)),
 oo 10 (.bin .lss 3 (.tmp 6) (.tmp 9))] [6, 7, 8, 9])
 (.cond (.tmp 10)
 .skip
 (.exit 0)))
 (.seq
 (.block 1
 (.seq
 (.region false [
 oo 13 (.faddr 2 1 (.tmp 2)),
 oo 14 (.load false 1 (.tmp 13)),
 om 15 5,
 oo 16 (.iaddr 3 (.tmp 14) (.tmp 15)),
 oo 17 (.faddr 2 1 (.tmp 16)),
 oo 18 (.load false 1 (.tmp 17)),
 om 19 1,
 oo 20 (.bin .eql 32 (.tmp 18) (.tmp 19))] [10, 13, 14, 15, 16, 17, 18, 19])
 (.cond (.tmp 20)
 (.seq
 (.region false [
 om 21 5,
 om 4 21] [1, 2, 5, 20, 21])
 .ret)
 .skip)) [20])
 (.region false [
 om 11 5,
 oo 12 (.bin .add 3 (.tmp 11) (.const (.int .i64 1))),
 om 5 12] [11, 12]))) [] []) [1, 2, 5, 10]))
 (.seq
 (.region false [
 oo 4 (.mov (.const (.int .i64 (-1))))] [])
 .ret)))
abbrev v_q34 : List RV := [.tmp 4]
abbrev f_q34 : FuncId := 37
theorem k_q34 : closedOf Tryz.prog Tryz.f37 = (false, some true, some v_q34, some c_q34.plain, 22) := by kernel_rfl
theorem ac_q34 {args : List AV} {r : AV} (h : aw Tryz.prog c_q34 (env0 args) (endQ v_q34 r)) (hargs : args.length ≤ 22 := by decide) (hok : resOK r = true := by rfl) : AC Tryz.prog f_q34 args r :=
  AC_mk (by kernel_rfl) Tryz.func37 k_q34 hargs hok (by decide) h
def c_q41 : ACode :=
 (.seq
 (.region false [
 oo 2 (.mov (.const (.slice none 0 0)))] [2])
 (.seq
 (.region false [
 om 3 0,
 oo 4 (.nilchk (.tmp 3)),
 oo 5 (.faddr 11 1 (.tmp 4)),
 oo 6 (.load false 1 (.tmp 5)),
 oo 7 (.callm 73 [.tmp 6]),
 om 2 7] [0, 3, 4, 5, 6, 7])
 .ret))
abbrev v_q41 : List RV := [.tmp 2]
abbrev f_q41 : FuncId := 44
theorem k_q41 : closedOf Tryz.prog Tryz.f44 = (false, some true, some v_q41, some c_q41.plain, 8) := by kernel_rfl
theorem ac_q41 {args : List AV} {r : AV} (h : aw Tryz.prog c_q41 (env0 args) (endQ v_q41 r)) (hargs : args.length ≤ 8 := by decide) (hok : resOK r = true := by rfl) : AC Tryz.prog f_q41 args r :=
  AC_mk (by kernel_rfl) Tryz.func44 k_q41 hargs hok (by decide) h
def c_q49 : ACode :=
 (.seq
 (.region false [
 oo 2 (.mov (.const (.int .u32 0)))] [2])
 (.seq
 (.region false [
 om 3 0,
 oo 4 (.cint .u32 (.tmp 3)),
 oo 5 (.bin .or 32 (.const (.int .u32 3758161920)) (.tmp 4)),
 om 2 5] [0, 3, 4, 5])
 .ret))
abbrev v_q49 : List RV := [.tmp 2]
abbrev f_q49 : FuncId := 52
theorem k_q49 : closedOf Tryz.prog Tryz.f52 = (false, some true, some v_q49, some c_q49.plain, 6) := by kernel_rfl
theorem ac_q49 {args : List AV} {r : AV} (h : aw Tryz.prog c_q49 (env0 args) (endQ v_q49 r)) (hargs : args.length ≤ 6 := by decide) (hok : resOK r = true := by rfl) : AC Tryz.prog f_q49 args r :=
  AC_mk (by kernel_rfl) Tryz.func52 k_q49 hargs hok (by decide) h
def c_q50 : ACode :=
 (.seq
 (.region false [
 oo 1 (.box (.tmp 0)),
 oo 2 (.mov (.const (.nilIface)))] [0, 2])
 (.seq
 (.region false [
 oo 8 (.load true 7 (.tmp 1)),
 oo 9 (.build [.sl .nil 0 [], .sl .nil 0 [], .sl .nil 0 [], .sl .nil 0 [], .sl .nil 0 [], .sl .nil 0 [], .sl .nil 0 []] [(0, 7, .tmp 8)]),
 oo 3 (.alloc [.sl .nil 0 [], .sl .nil 0 [], .sl .nil 0 [], .sl .nil 0 [], .sl .nil 0 [], .sl .nil 0 [], .sl .nil 0 []]),
 ⟨none, .store 7 (.tmp 3) (.tmp 9), none⟩] [8, 9])
 (.seq
 (.seq
 (.region false [
 oo 10 (.faddr 0 1 (.tmp 1)),
 oo 11 (.load false 1 (.tmp 10)),
 oo 12 (.lenl (.tmp 11)),
 oo 13 (.load true 7 (.tmp 3)),
 oo 14 (.mkfn (.func 86) [.tmp 13] []),
 oo 15 (.build [.lit (.int .i64 0), .lit (.int .i64 0), .lit (.nilFunc)] [(0, 1, .tmp 12), (1, 1, .const (.int .i64 16)), (2, 1, .tmp 14)]),
 oo 16 (.faddr 1 1 (.tmp 1)),
 oo 17 (.load false 1 (.tmp 16)),
 oo 18 (.lenl (.tmp 17)),
 oo 19 (.load true 7 (.tmp 3)),
 oo 20 (.mkfn (.func 87) [.tmp 19] []),
 oo 21 (.build [.lit (.int .i64 0), .lit (.int .i64 0), .lit (.nilFunc)] [(0, 1, .tmp 18), (1, 1, .const (.int .i64 24)), (2, 1, .tmp 20)]),
 oo 22 (.faddr 2 1 (.tmp 1)),
 oo 23 (.load false 1 (.tmp 22)),
 oo 24 (.lenl (.tmp 23)),
 oo 25 (.load true 7 (.tmp 3)),
 oo 26 (.mkfn (.func 88) [.tmp 25] []),
 oo 27 (.build [.lit (.int .i64 0), .lit (.int .i64 0), .lit (.nilFunc)] [(0, 1, .tmp 24), (1, 1, .const (.int .i64 64)), (2, 1, .tmp 26)]),
 oo 28 (.faddr 3 1 (.tmp 1)),
 oo 29 (.load false 1 (.tmp 28)),
 oo 30 (.lenl (.tmp 29)),
 oo 31 (.load true 7 (.tmp 3)),
 oo 32 (.mkfn (.func 89) [.tmp 31] []),
 oo 33 (.build [.lit (.int .i64 0), .lit (.int .i64 0), .lit (.nilFunc)] [(0, 1, .tmp 30), (1, 1, .const (.int .i64 96)), (2, 1, .tmp 32)]),
 oo 34 (.faddr 4 1 (.tmp 1)),
 oo 35 (.load false 1 (.tmp 34)),
 oo 36 (.lenl (.tmp 35)),
 oo 37 (.load true 7 (.tmp 3)),
 oo 38 (.mkfn (.func 90) [.tmp 37] []),
 oo 39 (.build [.lit (.int .i64 0), .lit (.int .i64 0), .lit (.nilFunc)] [(0, 1, .tmp 36), (1, 1, .const (.int .i64 8)), (2, 1, .tmp 38)]),
 oo 40 (.faddr 5 1 (.tmp 1)),
 oo 41 (.load false 1 (.tmp 40)),
 oo 42 (.lenl (.tmp 41)),
 oo 43 (.load true 7 (.tmp 3)),
 oo 44 (.mkfn (.func 91) [.tmp 43] []),
 oo 45 (.build [.lit (.int .i64 0), .lit (.int .i64 0), .lit (.nilFunc)] [(0, 1, .tmp 42), (1, 1, .const (.int .i64 8)), (2, 1, .tmp 44)]),
 oo 46 (.faddr 6 1 (.tmp 1)),
 oo 47 (.load false 1 (.tmp 46)),
 oo 48 (.lenl (.tmp 47)),
 oo 49 (.load true 7 (.tmp 3)),
 oo 50 (.mkfn (.func 92) [.tmp 49] []),
 oo 51 (.build [.lit (.int .i64 0), .lit (.int .i64 0), .lit (.nilFunc)] [(0, 1, .tmp 48), (1, 1, .const (.int .i64 24)), (2, 1, .tmp 50)]),
 oo 52 (.bslice 7 3 [.tmp 15, .tmp 21, .tmp 27, .tmp 33, .tmp 39, .tmp 45, .tmp 51]),
 oo 53 (.lenl (.tmp 52)),
 oo 54 (.mov (.const (.int .i64 0)))] [1, 3, 10, 11, 12, 13, 14, 15, 16, 17, 18, 19, 20, 21, 22, 23, 24, 25, 26, 27, 28, 29, 30, 31, 32, 33, 34, 35, 36, 37, 38, 39, 40, 41, 42, 43, 44, 45, 46, 47, 48, 49, 50, 51])
 (.block 0
 (.loop
 (.seq
 (.region false [
 oo 55 (.bin .lss 3 (.tmp 54) (.tmp 53))] [])
 (.seq
 (.cond (.tmp 55)
 .skip
 (.exit 0))
 (.seq
 (.block 1
 (.seq
 (.region false [
 oo 56 (.iaddr 3 (.tmp 52) (.tmp 54)),
 oo 57 (.load true 3 (.tmp 56)),
 oo 5 (.alloc [.lit (.int .i64 0), .lit (.int .i64 0), .lit (.nilFunc)]),
 ⟨none, .store 3 (.tmp 5) (.tmp 57), none⟩] [55, 56, 57])
 (.seq
 (.region false [
 oo 58 (.faddr 0 1 (.tmp 5)),
 oo 59 (.load false 1 (.tmp 58)),
 oo 60 (.mov (.const (.int .i64 0)))] [58])
 (.block 2
 (.loop
 (.seq
 (.region false [
 oo 61 (.bin .lss 3 (.tmp 60) (.tmp 59))] [])
 (.seq
 (.cond (.tmp 61)
 .skip
 (.exit 2))
 (.seq
 (.block 3
 (.seq
 (.region false [
 om 62 60,
 om 6 62] [61, 62])
 (.seq
 (.seq
 (.region false [
 om 63 6,
 oo 64 (.faddr 1 1 (.tmp 5)),
 oo 65 (.load false 1 (.tmp 64)),
 oo 66 (.bin .geq 3 (.tmp 63) (.tmp 65))] [63, 64, 65])
 (.cond (.tmp 66)
 (.seq
 (.region false [
 oo 67 (.load false 1 (.global 0)),
 om 2 67] [5, 6, 52, 53, 54, 59, 60, 66, 67])
 .ret)
 .skip))
 (.seq
 (.region false [
 oo 68 (.faddr 2 1 (.tmp 5)),
 oo 69 (.load false 1 (.tmp 68)),
 om 70 6,
 oo 71 (.callvm (.tmp 69) [.tmp 70]),
 om 7 71] [6, 66, 68, 69, 70, 71])
 (.seq
 (.region false [
 om 72 7,
 oo 73 (.eqn true (.tmp 72))] [72])
 (.cond (.tmp 73)
 (.seq
 (.region false [
 om 74 7,
 om 2 74] [5, 7, 52, 53, 54, 59, 60, 73, 74])
 .ret)
 .skip))))) [7, 73])
 (.region false [
 oo 75 (.bin .add 3 (.tmp 60) (.const (.int .i64 1))),
 om 60 75] [75])))) [] []) [5, 59, 60, 61]))) [])
 (.region false [
 oo 76 (.bin .add 3 (.tmp 54) (.const (.int .i64 1))),
 om 54 76] [76])))) [] [5]) [52, 53, 54, 55]))
 (.seq
 (.region false [
 oo 2 (.mov (.const (.nilIface)))] [])
 .ret))))
abbrev v_q50 : List RV := [.tmp 2]
abbrev f_q50 : FuncId := 53
theorem k_q50 : closedOf Tryz.prog Tryz.f53 = (false, some true, some v_q50, some c_q50.plain, 77) := by kernel_rfl
theorem ac_q50 {args : List AV} {r : AV} (h : aw Tryz.prog c_q50 (env0 args) (endQ v_q50 r)) (hargs : args.length ≤ 77 := by decide) (hok : resOK r = true := by rfl) : AC Tryz.prog f_q50 args r :=
  AC_mk (by kernel_rfl) Tryz.func53 k_q50 hargs hok (by decide) h
def c_q51 : ACode :=
 (.seq
 (.region false [
 oo 1 (.box (.tmp 0)),
 oo 2 (.alloc [.sl .nil 0 [], .sl .nil 0 [], .sl .nil 0 [], .sl .nil 0 [], .sl .nil 0 [], .sl .nil 0 [], .sl .nil 0 []])] [0])
 (.seq
 (.region true [
 oo 5 (.faddr 0 1 (.tmp 1)),
 oo 6 (.load false 1 (.tmp 5)),
 oo 7 (.call 93 [.tmp 6]),
 oo 8 (.faddr 1 1 (.tmp 1)),
 oo 9 (.load false 1 (.tmp 8)),
 oo 10 (.call 94 [.tmp 9]),
 oo 11 (.faddr 2 1 (.tmp 1)),
 oo 12 (.load false 1 (.tmp 11)),
 oo 13 (.call 95 [.tmp 12]),
 oo 14 (.faddr 3 1 (.tmp 1)),
 oo 15 (.load false 1 (.tmp 14)),
 oo 16 (.call 96 [.tmp 15]),
 oo 17 (.faddr 4 1 (.tmp 1)),
 oo 18 (.load false 1 (.tmp 17)),
 oo 19 (.call 97 [.tmp 18]),
 oo 20 (.faddr 5 1 (.tmp 1)),
 oo 21 (.load false 1 (.tmp 20)),
 oo 22 (.call 98 [.tmp 21]),
 oo 23 (.faddr 6 1 (.tmp 1)),
 oo 24 (.load false 1 (.tmp 23)),
 oo 25 (.call 99 [.tmp 24]),
 oo 26 (.build [.sl .nil 0 [], .sl .nil 0 [], .sl .nil 0 [], .sl .nil 0 [], .sl .nil 0 [], .sl .nil 0 [], .sl .nil 0 []] [(0, 1, .tmp 7), (1, 1, .tmp 10), (2, 1, .tmp 13), (3, 1, .tmp 16), (4, 1, .tmp 19), (5, 1, .tmp 22), (6, 1, .tmp 25)]),
 oo 3 (.alloc [.sl .nil 0 [], .sl .nil 0 [], .sl .nil 0 [], .sl .nil 0 [], .sl .nil 0 [], .sl .nil 0 [], .sl .nil 0 []]),
 ⟨none, .store 7 (.tmp 3) (.tmp 26), none⟩] [1, 5, 6, 7, 8, 9, 10, 11, 12, 13, 14, 15, 16, 17, 18, 19, 20, 21, 22, 23, 24, 25, 26])
 (.seq
 (.seq
 (.shift
 (.region false [
 oo 27 (.faddr 6 1 (.tmp 3)),
 oo 28 (.load false 1 (.tmp 27)),
 oo 29 (.lenl (.tmp 28)),
 oo 30 (.mov (.const (.int .i64 0)))] [27, 28]))
 (.block 0
 (.loop
 (.seq
 (.region false [
 oo 31 (.bin .lss 3 (.tmp 30) (.tmp 29))] [])
 (.seq
 (.cond (.tmp 31)
 .skip
 (.exit 0))
 (.seq
 (.block 1
 (.seq
 (.region false [
 om 32 30,
 om 4 32] [31, 32])
 (.region true [
 oo 33 (.faddr 6 1 (.tmp 3)),
 oo 34 (.load false 1 (.tmp 33)),
 om 35 4,
 oo 36 (.faddr 6 1 (.tmp 3)),
 oo 37 (.load false 1 (.tmp 36)),
 om 38 4,
 oo 39 (.iaddr 4 (.tmp 37) (.tmp 38)),
 oo 40 (.faddr 3 1 (.tmp 39)),
 oo 41 (.load false 1 (.tmp 40)),
 oo 42 (.call 73 [.tmp 41]),
 oo 43 (.iaddr 4 (.tmp 34) (.tmp 35)),
 oo 44 (.faddr 3 1 (.tmp 43)),
 ⟨none, .store 1 (.tmp 44) (.tmp 42), none⟩] [4, 33, 34, 35, 36, 37, 38, 39, 40, 41, 42, 43, 44])) [])
 (.region false [
 oo 45 (.bin .add 3 (.tmp 30) (.const (.int .i64 1))),
 om 30 45] [45])))) [] []) [29, 30, 31]))
 (.seq
 (.region false [
 oo 46 (.load true 7 (.tmp 3)),
 ⟨none, .store 7 (.tmp 2) (.tmp 46), none⟩] [3, 46])
 .ret))))
abbrev v_q51 : List RV := [.cell true 7 2]
abbrev f_q51 : FuncId := 54
theorem k_q51 : closedOf Tryz.prog Tryz.f54 = (false, some true, some v_q51, some c_q51.plain, 47) := by kernel_rfl
theorem ac_q51 {args : List AV} {r : AV} (h : aw Tryz.prog c_q51 (env0 args) (endQ v_q51 r)) (hargs : args.length ≤ 47 := by decide) (hok : resOK r = true := by rfl) : AC Tryz.prog f_q51 args r :=
  AC_mk (by kernel_rfl) Tryz.func54 k_q51 hargs hok (by decide) h
def c_q52 : ACode :=
 (.seq
 (.region false [
 om 3 0,
 oo 4 (.lenl (.tmp 3)),
 om 2 4] [3, 4])
 (.region false [
 om 5 0,
 om 6 2,
 om 7 2,
 oo 8 (.cint .u64 (.tmp 7)),
 oo 9 (.callm 101 [.tmp 8]),
 oo 10 (.callm 100 [.tmp 5, .const (.int .i64 0), .tmp 6, .tmp 9])] [0, 2, 5, 6, 7, 8, 9, 10]))
abbrev v_q52 : List RV := []
abbrev f_q52 : FuncId := 55
theorem k_q52 : closedOf Tryz.prog Tryz.f55 = (false, some true, some v_q52, some c_q52.plain, 11) := by kernel_rfl
theorem ac_q52 {args : List AV} {r : AV} (h : aw Tryz.prog c_q52 (env0 args) (endQ v_q52 r)) (hargs : args.length ≤ 11 := by decide) (hok : resOK r = true := by rfl) : AC Tryz.prog f_q52 args r :=
  AC_mk (by kernel_rfl) Tryz.func55 k_q52 hargs hok (by decide) h
theorem am_q52 {args : List AV} {c0 c1 : List (Nat × List AV)} {r : AV} (h : aw Tryz.prog c_q52 (env0M args c0) (endM v_q52 r (c0.map (·.1)) c1)) (hc0 : ∀ q ∈ c0, 100000 ≤ q.1) (hargs : args.length ≤ 11 := by decide) (hok : resOK r = true := by rfl) : AM Tryz.prog f_q52 args c0 r c1 :=
  AM_mk (by kernel_rfl) Tryz.func55 k_q52 hargs hok (by decide) hc0 h
def c_q53 : ACode :=
 (.seq
 (.region false [
 oo 2 (.mov (.const (.slice none 0 0)))] [2])
 (.seq
 (.seq
 (.region false [
 om 6 0,
 oo 7 (.lenl (.tmp 6)),
 oo 8 (.bin .lss 3 (.tmp 7) (.const (.int .i64 2)))] [6, 7])
 (.cond (.tmp 8)
 (.seq
 (.shift
 (.region false [
 om 9 0,
 om 2 9] [0, 8, 9]))
 .ret)
 .skip))
 (.seq
 (.seq
 (.region false [
 oo 3 (.mov (.const (.int .i64 1)))] [8])
 (.block 0
 (.loop
 (.seq
 (.seq
 (.region false [
 om 10 3,
 om 11 0,
 oo 12 (.lenl (.tmp 11)),
 oo 13 (.bin .lss 3 (.tmp 10) (.tmp 12))] [10, 11, 12])
 (.cond (.tmp 13)
 .skip
 (.exit 0)))
 (.seq
 (.block 1
 (.seq
 (.region true [
 om 16 0,
 om 17 3,
 oo 18 (.iaddr 1 (.tmp 16) (.tmp 17)),
 oo 19 (.load false 1 (.tmp 18)),
 om 20 0,
 om 21 3,
 oo 22 (.bin .sub 3 (.tmp 21) (.const (.int .i64 1))),
 oo 23 (.iaddr 1 (.tmp 20) (.tmp 22)),
 oo 24 (.load false 1 (.tmp 23)),
 oo 25 (.bin .eql 32 (.tmp 19) (.tmp 24))] [13, 16, 17, 18, 19, 20, 21, 22, 23, 24])
 (.cond (.tmp 25)
 (.seq
 (.region false [
 om 26 0,
 om 27 3,
 oo 28 (.slc 1 (.tmp 26) (some (.tmp 27)) none),
 om 4 28] [25, 26, 27, 28])
 (.seq
 (.seq
 (.region false [
 oo 5 (.mov (.const (.int .i64 1)))] [])
 (.block 2
 (.loop
 (.seq
 (.seq
 (.region false [
 om 29 5,
 om 30 4,
 oo 31 (.lenl (.tmp 30)),
 oo 32 (.bin .lss 3 (.tmp 29) (.tmp 31))] [29, 30, 31])
 (.cond (.tmp 32)
 .skip
 (.exit 2)))
 (.seq
 (.block 3
 (.seq
 (.region true [
 om 35 4,
 om 36 5,
 oo 37 (.iaddr 1 (.tmp 35) (.tmp 36)),
 oo 38 (.load false 1 (.tmp 37)),
 om 39 4,
 om 40 5,
 oo 41 (.bin .sub 3 (.tmp 40) (.const (.int .i64 1))),
 oo 42 (.iaddr 1 (.tmp 39) (.tmp 41)),
 oo 43 (.load false 1 (.tmp 42)),
 oo 44 (.bin .neq 32 (.tmp 38) (.tmp 43))] [32, 35, 36, 37, 38, 39, 40, 41, 42, 43])
 (.cond (.tmp 44)
 (.seq
 (.region false [
 om 45 0,
 om 46 3,
 om 47 4,
 om 48 5,
 oo 49 (.iaddr 1 (.tmp 47) (.tmp 48)),
 oo 50 (.load false 1 (.tmp 49)),
 oo 51 (.iaddr 1 (.tmp 45) (.tmp 46)),
 ⟨none, .store 1 (.tmp 51) (.tmp 50), none⟩] [44, 45, 46, 47, 48, 49, 50, 51])
 (.region false [
 om 52 3,
 oo 53 (.bin .add 3 (.tmp 52) (.const (.int .i64 1))),
 om 3 53] [52, 53]))
 .skip)) [44])
 (.region false [
 om 33 5,
 oo 34 (.bin .add 3 (.tmp 33) (.const (.int .i64 1))),
 om 5 34] [33, 34]))) [] []) [4, 5, 32]))
 (.seq
 (.region false [
 om 54 0,
 om 55 3,
 oo 56 (.slc 1 (.tmp 54) (some (.tmp 55)) none),
 ⟨none, .clr [.lit (.int .u32 0)] (.tmp 56), none⟩] [54, 55, 56])
 (.seq
 (.region false [
 om 57 0,
 om 58 3,
 oo 59 (.slc 1 (.tmp 57) none (some (.tmp 58))),
 om 2 59] [0, 3, 57, 58, 59])
 .ret))))
 .skip)) [25])
 (.region false [
 om 14 3,
 oo 15 (.bin .add 3 (.tmp 14) (.const (.int .i64 1))),
 om 3 15] [14, 15]))) [] []) [3, 13]))
 (.seq
 (.region false [
 om 60 0,
 om 2 60] [0, 60])
 .ret))))
abbrev v_q53 : List RV := [.tmp 2]
abbrev f_q53 : FuncId := 56
theorem k_q53 : closedOf Tryz.prog Tryz.f56 = (false, some true, some v_q53, some c_q53.plain, 61) := by kernel_rfl
theorem ac_q53 {args : List AV} {r : AV} (h : aw Tryz.prog c_q53 (env0 args) (endQ v_q53 r)) (hargs : args.length ≤ 61 := by decide) (hok : resOK r = true := by rfl) : AC Tryz.prog f_q53 args r :=
  AC_mk (by kernel_rfl) Tryz.func56 k_q53 hargs hok (by decide) h
theorem am_q53 {args : List AV} {c0 c1 : List (Nat × List AV)} {r : AV} (h : aw Tryz.prog c_q53 (env0M args c0) (endM v_q53 r (c0.map (·.1)) c1)) (hc0 : ∀ q ∈ c0, 100000 ≤ q.1) (hargs : args.length ≤ 61 := by decide) (hok : resOK r = true := by rfl) : AM Tryz.prog f_q53 args c0 r c1 :=
  AM_mk (by kernel_rfl) Tryz.func56 k_q53 hargs hok (by decide) hc0 h
def c_q54 : ACode :=
 (.seq
 (.region false [
 oo 2 (.mov (.const (.pointer none)))] [2])
 (.seq
 (.region false [
 om 3 0,
 oo 4 (.nilchk (.tmp 3)),
 oo 5 (.faddr 0 7 (.tmp 4)),
 om 2 5] [0, 3, 4, 5])
 .ret))
abbrev v_q54 : List RV := [.tmp 2]
abbrev f_q54 : FuncId := 57
theorem k_q54 : closedOf Tryz.prog Tryz.f57 = (false, some true, some v_q54, some c_q54.plain, 6) := by kernel_rfl
theorem ac_q54 {args : List AV} {r : AV} (h : aw Tryz.prog c_q54 (env0 args) (endQ v_q54 r)) (hargs : args.length ≤ 6 := by decide) (hok : resOK r = true := by rfl) : AC Tryz.prog f_q54 args r :=
  AC_mk (by kernel_rfl) Tryz.func57 k_q54 hargs hok (by decide) h
def c_q55 : ACode :=
 (.seq
 (.region false [
 oo 2 (.mov (.const (.bool false)))] [2])
 (.seq
 (.region false [
 om 4 0,
 oo 5 (.callm 102 [.tmp 4]),
 oo 3 (.alloc [.lit (.int .u8 0), .lit (.int .u8 0), .lit (.int .u8 0), .lit (.int .u8 0)]),
 ⟨none, .store 4 (.tmp 3) (.tmp 5), none⟩] [0, 4, 5])
 (.seq
 (.region false [
 oo 6 (.iadra 4 1 (.tmp 3) (.const (.int .i64 0))),
 oo 7 (.load false 1 (.tmp 6)),
 oo 8 (.bin .geq 5 (.tmp 7) (.const (.int .u8 224))),
 om 9 8,
 og 10 (.iadra 4 1 (.tmp 3) (.const (.int .i64 0))) 9 true,
 og 11 (.load false 1 (.tmp 10)) 9 true,
 og 12 (.bin .leq 5 (.tmp 11) (.const (.int .u8 239))) 9 true,
 oo 13 (.pick (.tmp 9) (.tmp 12) (.const (.bool false))),
 om 2 13] [3, 6, 7, 8, 9, 10, 11, 12, 13])
 .ret)))
abbrev v_q55 : List RV := [.tmp 2]
abbrev f_q55 : FuncId := 58
theorem k_q55 : closedOf Tryz.prog Tryz.f58 = (false, some true, some v_q55, some c_q55.plain, 14) := by kernel_rfl
theorem ac_q55 {args : List AV} {r : AV} (h : aw Tryz.prog c_q55 (env0 args) (endQ v_q55 r)) (hargs : args.length ≤ 14 := by decide) (hok : resOK r = true := by rfl) : AC Tryz.prog f_q55 args r :=
  AC_mk (by kernel_rfl) Tryz.func58 k_q55 hargs hok (by decide) h
def c_q56 : ACode :=
 (.seq
 (.region false [
 oo 2 (.box (.tmp 0)),
 oo 4 (.mov (.const (.bool false)))] [0, 4])
 (.seq
 (.region true [
 oo 5 (.load true 2 (.tmp 2)),
 oo 6 (.call 103 [.tmp 5]),
 om 7 6,
 og 8 (.mov (.tmp 1)) 7 true,
 og 9 (.faddr 1 1 (.tmp 2)) 7 true,
 og 10 (.load false 1 (.tmp 9)) 7 true,
 og 11 (.call 104 [.tmp 10]) 7 true,
 og 12 (.bin .and 32 (.tmp 8) (.tmp 11)) 7 true,
 og 13 (.faddr 0 1 (.tmp 2)) 7 true,
 og 14 (.load false 1 (.tmp 13)) 7 true,
 og 15 (.bin .eql 32 (.tmp 12) (.tmp 14)) 7 true,
 oo 16 (.pick (.tmp 7) (.tmp 15) (.const (.bool false))),
 om 4 16] [1, 2, 5, 6, 7, 8, 9, 10, 11, 12, 13, 14, 15, 16])
 .ret))
abbrev v_q56 : List RV := [.tmp 4]
abbrev f_q56 : FuncId := 59
theorem k_q56 : closedOf Tryz.prog Tryz.f59 = (false, some true, some v_q56, some c_q56.plain, 17) := by kernel_rfl
theorem ac_q56 {args : List AV} {r : AV} (h : aw Tryz.prog c_q56 (env0 args) (endQ v_q56 r)) (hargs : args.length ≤ 17 := by decide) (hok : resOK r = true := by rfl) : AC Tryz.prog f_q56 args r :=
  AC_mk (by kernel_rfl) Tryz.func59 k_q56 hargs hok (by decide) h
def c_q57 : ACode :=
 (.seq
 (.region false [
 oo 2 (.box (.tmp 0)),
 oo 4 (.mov (.const (.bool false)))] [0, 4])
 (.seq
 (.region true [
 oo 5 (.load true 2 (.tmp 2)),
 oo 6 (.call 105 [.tmp 5]),
 om 7 6,
 og 8 (.mov (.tmp 1)) 7 true,
 og 9 (.faddr 1 1 (.tmp 2)) 7 true,
 og 10 (.load false 1 (.tmp 9)) 7 true,
 og 11 (.call 106 [.tmp 10]) 7 true,
 og 12 (.bin .and 32 (.tmp 8) (.tmp 11)) 7 true,
 og 13 (.faddr 0 1 (.tmp 2)) 7 true,
 og 14 (.load false 1 (.tmp 13)) 7 true,
 og 15 (.bin .eql 32 (.tmp 12) (.tmp 14)) 7 true,
 oo 16 (.pick (.tmp 7) (.tmp 15) (.const (.bool false))),
 om 4 16] [1, 2, 5, 6, 7, 8, 9, 10, 11, 12, 13, 14, 15, 16])
 .ret))
abbrev v_q57 : List RV := [.tmp 4]
abbrev f_q57 : FuncId := 60
theorem k_q57 : closedOf Tryz.prog Tryz.f60 = (false, some true, some v_q57, some c_q57.plain, 17) := by kernel_rfl
theorem ac_q57 {args : List AV} {r : AV} (h : aw Tryz.prog c_q57 (env0 args) (endQ v_q57 r)) (hargs : args.length ≤ 17 := by decide) (hok : resOK r = true := by rfl) : AC Tryz.prog f_q57 args r :=
  AC_mk (by kernel_rfl) Tryz.func60 k_q57 hargs hok (by decide) h
def c_q58 : ACode :=
 (.seq
 (.region false [
 oo 2 (.alloc [.lit (.string ⟨#[]⟩), .lit (.int .u32 0), .lit (.int .i64 0)])] [])
 (.seq
 (.region false [
 om 3 0,
 oo 4 (.callm 62 [.const (.string ⟨#[108]⟩), .tmp 3]),
 om 5 0,
 oo 6 (.callm 20 [.tmp 5, .const (.int .i64 0)]),
 oo 7 (.build [.lit (.int .u32 0), .lit (.int .i64 0)] [(0, 1, .tmp 6), (1, 1, .const (.int .i64 24))]),
 oo 8 (.build [.lit (.string ⟨#[]⟩), .lit (.int .u32 0), .lit (.int .i64 0)] [(0, 1, .tmp 4), (1, 2, .tmp 7)]),
 ⟨none, .store 3 (.tmp 2) (.tmp 8), none⟩] [0, 3, 4, 5, 6, 7, 8])
 .ret))
abbrev v_q58 : List RV := [.cell true 3 2]
abbrev f_q58 : FuncId := 61
theorem k_q58 : closedOf Tryz.prog Tryz.f61 = (false, some true, some v_q58, some c_q58.plain, 9) := by kernel_rfl
theorem ac_q58 {args : List AV} {r : AV} (h : aw Tryz.prog c_q58 (env0 args) (endQ v_q58 r)) (hargs : args.length ≤ 9 := by decide) (hok : resOK r = true := by rfl) : AC Tryz.prog f_q58 args r :=
  AC_mk (by kernel_rfl) Tryz.func61 k_q58 hargs hok (by decide) h
def c_q59 : ACode :=
 (.seq
 (.region false [
 oo 4 (.mov (.const (.string ⟨#[]⟩)))] [4])
 (.seq
 (.seq
 (.region false [
 om 5 1,
 oo 6 (.bin .lss 3 (.tmp 5) (.const (.int .i64 10)))] [5])
 (.cond (.tmp 6)
 (.seq
 (.region false [
 om 7 0,
 om 8 1,
 oo 9 (.bin .add 3 (.const (.int .i64 48)) (.tmp 8)),
 oo 10 (.cint .i32 (.tmp 9)),
 oo 11 (.i2s (.tmp 10)),
 oo 12 (.bin .add 9 (.tmp 7) (.tmp 11)),
 om 4 12] [0, 1, 6, 7, 8, 9, 10, 11, 12])
 .ret)
 .skip))
 (.seq
 (.region false [
 om 13 0,
 om 14 1,
 oo 15 (.bin .quo 3 (.tmp 14) (.const (.int .i64 10))),
 oo 16 (.bin .add 3 (.const (.int .i64 48)) (.tmp 15)),
 oo 17 (.cint .i32 (.tmp 16)),
 oo 18 (.i2s (.tmp 17)),
 oo 19 (.bin .add 9 (.tmp 13) (.tmp 18)),
 om 20 1,
 oo 21 (.bin .rem 3 (.tmp 20) (.const (.int .i64 10))),
 oo 22 (.bin .add 3 (.const (.int .i64 48)) (.tmp 21)),
 oo 23 (.cint .i32 (.tmp 22)),
 oo 24 (.i2s (.tmp 23)),
 oo 25 (.bin .add 9 (.tmp 19) (.tmp 24)),
 om 4 25] [0, 1, 6, 13, 14, 15, 16, 17, 18, 19, 20, 21, 22, 23, 24, 25])
 .ret)))
abbrev v_q59 : List RV := [.tmp 4]
abbrev f_q59 : FuncId := 62
theorem k_q59 : closedOf Tryz.prog Tryz.f62 = (false, some true, some v_q59, some c_q59.plain, 26) := by kernel_rfl
theorem ac_q59 {args : List AV} {r : AV} (h : aw Tryz.prog c_q59 (env0 args) (endQ v_q59 r)) (hargs : args.length ≤ 26 := by decide) (hok : resOK r = true := by rfl) : AC Tryz.prog f_q59 args r :=
  AC_mk (by kernel_rfl) Tryz.func62 k_q59 hargs hok (by decide) h
def c_q60 : ACode :=
 (.seq
 (.region false [
 oo 4 (.alloc [.lit (.int .i64 0), .lit (.int .i64 0), .lit (.int .u32 0)])] [])
 (.seq
 (.region false [
 om 5 0,
 om 6 1,
 om 7 1,
 om 8 0,
 oo 9 (.bin .add 3 (.tmp 8) (.const (.int .i64 1))),
 oo 10 (.callm 20 [.tmp 7, .tmp 9]),
 oo 11 (.build [.lit (.int .i64 0), .lit (.int .i64 0), .lit (.int .u32 0)] [(0, 1, .tmp 5), (1, 1, .tmp 6), (2, 1, .tmp 10)]),
 ⟨none, .store 3 (.tmp 4) (.tmp 11), none⟩] [0, 1, 5, 6, 7, 8, 9, 10, 11])
 .ret))
abbrev v_q60 : List RV := [.cell true 3 4]
abbrev f_q60 : FuncId := 63
theorem k_q60 : closedOf Tryz.prog Tryz.f63 = (false, some true, some v_q60, some c_q60.plain, 12) := by kernel_rfl
theorem ac_q60 {args : List AV} {r : AV} (h : aw Tryz.prog c_q60 (env0 args) (endQ v_q60 r)) (hargs : args.length ≤ 12 := by decide) (hok : resOK r = true := by rfl) : AC Tryz.prog f_q60 args r :=
  AC_mk (by kernel_rfl) Tryz.func63 k_q60 hargs hok (by decide) h
def c_q61 : ACode :=
 (.seq
 (.region false [
 oo 0 (.alloc [.lit (.int .u32 0), .lit (.int .i64 0)])] [])
 (.seq
 (.region false [
 oo 1 (.build [.lit (.int .u32 0), .lit (.int .i64 0)] [(0, 1, .const (.int .u32 3758096384)), (1, 1, .const (.int .i64 4))]),
 ⟨none, .store 2 (.tmp 0) (.tmp 1), none⟩] [1])
 .ret))
abbrev v_q61 : List RV := [.cell true 2 0]
abbrev f_q61 : FuncId := 64
theorem k_q61 : closedOf Tryz.prog Tryz.f64 = (false, some true, some v_q61, some c_q61.plain, 2) := by kernel_rfl
theorem ac_q61 {args : List AV} {r : AV} (h : aw Tryz.prog c_q61 (env0 args) (endQ v_q61 r)) (hargs : args.length ≤ 2 := by decide) (hok : resOK r = true := by rfl) : AC Tryz.prog f_q61 args r :=
  AC_mk (by kernel_rfl) Tryz.func64 k_q61 hargs hok (by decide) h
def c_q62 : ACode :=
 (.seq
 (.region false [
 oo 1 (.box (.tmp 0)),
 oo 2 (.alloc [.lit (.int .i64 0), .lit (.int .i64 0), .lit (.int .i64 0), .lit (.int .i64 0), .lit (.int .i64 0), .lit (.int .i64 0), .lit (.int .i64 0)]),
 oo 3 (.alloc [.lit (.int .i64 0), .lit (.int .i64 0), .lit (.int .i64 0), .lit (.int .i64 0), .lit (.int .i64 0), .lit (.int .i64 0), .lit (.int .i64 0)])] [0])
 (.seq
 (.region false [
 oo 4 (.faddr 0 1 (.tmp 1)),
 oo 5 (.load false 1 (.tmp 4)),
 oo 6 (.lenl (.tmp 5)),
 oo 7 (.faddr 1 1 (.tmp 1)),
 oo 8 (.load false 1 (.tmp 7)),
 oo 9 (.lenl (.tmp 8)),
 oo 10 (.faddr 2 1 (.tmp 1)),
 oo 11 (.load false 1 (.tmp 10)),
 oo 12 (.lenl (.tmp 11)),
 oo 13 (.faddr 3 1 (.tmp 1)),
 oo 14 (.load false 1 (.tmp 13)),
 oo 15 (.lenl (.tmp 14)),
 oo 16 (.faddr 4 1 (.tmp 1)),
 oo 17 (.load false 1 (.tmp 16)),
 oo 18 (.lenl (.tmp 17)),
 oo 19 (.faddr 5 1 (.tmp 1)),
 oo 20 (.load false 1 (.tmp 19)),
 oo 21 (.lenl (.tmp 20)),
 oo 22 (.faddr 6 1 (.tmp 1)),
 oo 23 (.load false 1 (.tmp 22)),
 oo 24 (.lenl (.tmp 23)),
 oo 25 (.build [.lit (.int .i64 0), .lit (.int .i64 0), .lit (.int .i64 0), .lit (.int .i64 0), .lit (.int .i64 0), .lit (.int .i64 0), .lit (.int .i64 0)] [(0, 1, .tmp 6), (1, 1, .tmp 9), (2, 1, .tmp 12), (3, 1, .tmp 15), (4, 1, .tmp 18), (5, 1, .tmp 21), (6, 1, .tmp 24)]),
 oo 26 (.build [.lit (.int .i64 0), .lit (.int .i64 0), .lit (.int .i64 0), .lit (.int .i64 0), .lit (.int .i64 0), .lit (.int .i64 0), .lit (.int .i64 0)] [(0, 1, .const (.int .i64 16)), (1, 1, .const (.int .i64 24)), (2, 1, .const (.int .i64 64)), (3, 1, .const (.int .i64 96)), (4, 1, .const (.int .i64 8)), (5, 1, .const (.int .i64 8)), (6, 1, .const (.int .i64 24))]),
 ⟨none, .store 7 (.tmp 2) (.tmp 25), none⟩,
 ⟨none, .store 7 (.tmp 3) (.tmp 26), none⟩] [1, 4, 5, 6, 7, 8, 9, 10, 11, 12, 13, 14, 15, 16, 17, 18, 19, 20, 21, 22, 23, 24, 25, 26])
 .ret))
abbrev v_q62 : List RV := [.cell true 7 2, .cell true 7 3]
abbrev f_q62 : FuncId := 65
theorem k_q62 : closedOf Tryz.prog Tryz.f65 = (false, some true, some v_q62, some c_q62.plain, 27) := by kernel_rfl
theorem ac_q62 {args : List AV} {r : AV} (h : aw Tryz.prog c_q62 (env0 args) (endQ v_q62 r)) (hargs : args.length ≤ 27 := by decide) (hok : resOK r = true := by rfl) : AC Tryz.prog f_q62 args r :=
  AC_mk (by kernel_rfl) Tryz.func65 k_q62 hargs hok (by decide) h
def c_q63 : ACode :=
 (.seq
 (.region false [
 oo 3 (.box (.tmp 0)),
 oo 6 (.mov (.const (.int .i64 0)))] [0, 6])
 (.seq
 (.seq
 (.region false [
 om 7 1] [1])
 (.block 0
 (.seq
 (.region false [
 oo 9 (.bin .eql 3 (.tmp 7) (.const (.int .i64 0))),
 om 8 9] [9])
 (.cond (.tmp 8)
 (.seq
 (.region false [
 oo 10 (.load true 7 (.tmp 3)),
 om 11 2,
 oo 12 (.callm 107 [.tmp 10, .tmp 11]),
 om 6 12] [2, 3, 7, 8, 10, 11, 12])
 .ret)
 (.seq
 (.region false [
 oo 14 (.bin .eql 3 (.tmp 7) (.const (.int .i64 1))),
 om 13 14] [8, 14])
 (.cond (.tmp 13)
 (.seq
 (.region false [
 oo 15 (.load true 7 (.tmp 3)),
 om 16 2,
 oo 17 (.callm 108 [.tmp 15, .tmp 16]),
 om 6 17] [2, 3, 7, 13, 15, 16, 17])
 .ret)
 (.seq
 (.region false [
 oo 19 (.bin .eql 3 (.tmp 7) (.const (.int .i64 2))),
 om 18 19] [13, 19])
 (.cond (.tmp 18)
 (.seq
 (.region false [
 oo 20 (.load true 7 (.tmp 3)),
 om 21 2,
 oo 22 (.callm 109 [.tmp 20, .tmp 21]),
 om 6 22] [2, 3, 7, 18, 20, 21, 22])
 .ret)
 (.seq
 (.region false [
 oo 24 (.bin .eql 3 (.tmp 7) (.const (.int .i64 3))),
 om 23 24] [18, 24])
 (.cond (.tmp 23)
 (.seq
 (.region false [
 oo 25 (.load true 7 (.tmp 3)),
 om 26 2,
 oo 27 (.callm 110 [.tmp 25, .tmp 26]),
 om 6 27] [2, 3, 7, 23, 25, 26, 27])
 .ret)
 (.seq
 (.region false [
 oo 29 (.bin .eql 3 (.tmp 7) (.const (.int .i64 4))),
 om 28 29] [23, 29])
 (.cond (.tmp 28)
 (.seq
 (.region false [
 oo 30 (.load true 7 (.tmp 3)),
 om 31 2,
 oo 32 (.callm 111 [.tmp 30, .tmp 31]),
 om 6 32] [2, 3, 7, 28, 30, 31, 32])
 .ret)
 (.seq
 (.region false [
 oo 34 (.bin .eql 3 (.tmp 7) (.const (.int .i64 5))),
 om 33 34] [7, 28, 34])
 (.cond (.tmp 33)
 (.seq
 (.region false [
 oo 35 (.load true 7 (.tmp 3)),
 om 36 2,
 oo 37 (.callm 112 [.tmp 35, .tmp 36]),
 om 6 37] [2, 3, 33, 35, 36, 37])
 .ret)
 .skip)))))))))))) [33]))
 (.seq
 (.region false [
 oo 38 (.load true 7 (.tmp 3)),
 om 39 2,
 oo 40 (.callm 113 [.tmp 38, .tmp 39]),
 om 6 40] [2, 3, 38, 39, 40])
 .ret)))
abbrev v_q63 : List RV := [.tmp 6]
abbrev f_q63 : FuncId := 66
theorem k_q63 : closedOf Tryz.prog Tryz.f66 = (false, some true, some v_q63, some c_q63.plain, 41) := by kernel_rfl
theorem ac_q63 {args : List AV} {r : AV} (h : aw Tryz.prog c_q63 (env0 args) (endQ v_q63 r)) (hargs : args.length ≤ 41 := by decide) (hok : resOK r = true := by rfl) : AC Tryz.prog f_q63 args r :=
  AC_mk (by kernel_rfl) Tryz.func66 k_q63 hargs hok (by decide) h
def c_q64 : ACode :=
 (.seq
 (.region false [
 oo 4 (.mov (.const (.slice none 0 0)))] [4])
 (.seq
 (.seq
 (.region false [
 om 5 1,
 oo 6 (.bin .lss 3 (.tmp 5) (.const (.int .i64 0))),
 om 7 6,
 og 8 (.mov (.tmp 1)) 7 false,
 og 9 (.mov (.tmp 0)) 7 false,
 og 10 (.lenl (.tmp 9)) 7 false,
 og 11 (.bin .geq 3 (.tmp 8) (.tmp 10)) 7 false,
 oo 12 (.pick (.tmp 7) (.const (.bool true)) (.tmp 11))] [5, 6, 7, 8, 9, 10, 11])
 (.cond (.tmp 12)
 (.seq
 (.region false [
 oo 4 (.mov (.const (.slice none 0 0)))] [0, 1, 12])
 .ret)
 .skip))
 (.seq
 (.region false [
 om 13 0,
 om 14 1,
 oo 15 (.iaddr 1 (.tmp 13) (.tmp 14)),
 oo 16 (.load false 1 (.tmp 15)),
 oo 17 (.callm 114 [.tmp 16]),
 om 4 17] [0, 1, 12, 13, 14, 15, 16, 17])
 .ret)))
abbrev v_q64 : List RV := [.tmp 4]
abbrev f_q64 : FuncId := 67
theorem k_q64 : closedOf Tryz.prog Tryz.f67 = (false, some true, some v_q64, some c_q64.plain, 18) := by kernel_rfl
theorem ac_q64 {args : List AV} {r : AV} (h : aw Tryz.prog c_q64 (env0 args) (endQ v_q64 r)) (hargs : args.length ≤ 18 := by decide) (hok : resOK r = true := by rfl) : AC Tryz.prog f_q64 args r :=
  AC_mk (by kernel_rfl) Tryz.func67 k_q64 hargs hok (by decide) h
def c_q65 : ACode :=
 (.seq
 (.region false [
 oo 4 (.mov (.const (.slice none 0 0)))] [4])
 (.seq
 (.region false [
 om 8 0,
 om 9 1,
 oo 10 (.callm 115 [.tmp 8, .tmp 9]),
 om 5 10] [8, 9, 10])
 (.seq
 (.seq
 (.shift
 (.region false [
 om 11 5,
 oo 12 (.bin .eql 3 (.tmp 11) (.const (.int .i64 (-1))))] [11]))
 (.cond (.tmp 12)
 (.seq
 (.region false [
 om 13 0,
 om 4 13] [0, 1, 5, 12, 13])
 .ret)
 .skip))
 (.seq
 (.seq
 (.region false [
 om 14 5,
 oo 15 (.bin .add 3 (.tmp 14) (.const (.int .i64 1))),
 om 6 15] [12, 14, 15])
 (.block 0
 (.loop
 (.seq
 (.seq
 (.region false [
 om 16 6,
 om 17 0,
 oo 18 (.lenl (.tmp 17)),
 oo 19 (.bin .lss 3 (.tmp 16) (.tmp 18))] [16, 17, 18])
 (.cond (.tmp 19)
 .skip
 (.exit 0)))
 (.seq
 (.block 1
 (.seq
 (.region false [
 om 22 0,
 om 23 6,
 oo 24 (.iaddr 1 (.tmp 22) (.tmp 23)),
 oo 25 (.load false 1 (.tmp 24)),
 om 7 25] [19, 22, 23, 24, 25])
 (.seq
 (.region false [
 om 26 1,
 om 27 7,
 oo 28 (.callvm (.tmp 26) [.tmp 27]),
 oo 29 (.un .not (.tmp 28))] [26, 27, 28])
 (.cond (.tmp 29)
 (.seq
 (.region false [
 om 30 0,
 om 31 5,
 om 32 7,
 oo 33 (.iaddr 1 (.tmp 30) (.tmp 31)),
 ⟨none, .store 1 (.tmp 33) (.tmp 32), none⟩] [7, 29, 30, 31, 32, 33])
 (.region false [
 om 34 5,
 oo 35 (.bin .add 3 (.tmp 34) (.const (.int .i64 1))),
 om 5 35] [34, 35]))
 .skip))) [7, 29])
 (.region false [
 om 20 6,
 oo 21 (.bin .add 3 (.tmp 20) (.const (.int .i64 1))),
 om 6 21] [20, 21]))) [] []) [1, 6, 19]))
 (.seq
 (.region false [
 om 36 0,
 om 37 5,
 oo 38 (.slc 1 (.tmp 36) (some (.tmp 37)) none),
 ⟨none, .clr [.lit (.int .i64 0)] (.tmp 38), none⟩] [36, 37, 38])
 (.seq
 (.region false [
 om 39 0,
 om 40 5,
 oo 41 (.slc 1 (.tmp 39) none (some (.tmp 40))),
 om 4 41] [0, 5, 39, 40, 41])
 .ret))))))
abbrev v_q65 : List RV := [.tmp 4]
abbrev f_q65 : FuncId := 68
theorem k_q65 : closedOf Tryz.prog Tryz.f68 = (false, some true, some v_q65, some c_q65.plain, 42) := by kernel_rfl
theorem am_q65 {args : List AV} {c0 c1 : List (Nat × List AV)} {r : AV} (h : aw Tryz.prog c_q65 (env0M args c0) (endM v_q65 r (c0.map (·.1)) c1)) (hc0 : ∀ q ∈ c0, 100000 ≤ q.1) (hargs : args.length ≤ 42 := by decide) (hok : resOK r = true := by rfl) : AM Tryz.prog f_q65 args c0 r c1 :=
  AM_mk (by kernel_rfl) Tryz.func68 k_q65 hargs hok (by decide) hc0 h
def c_q66 : ACode :=
 (.seq
 (.region false [
 oo 4 (.mov (.const (.bool false)))] [4])
 (.seq
 (.region true [
 oo 5 (.load false 1 (.tmp 1)),
 oo 6 (.nilchk (.tmp 5)),
 oo 7 (.faddr 0 7 (.tmp 6)),
 oo 8 (.faddr 2 1 (.tmp 7)),
 oo 9 (.load false 1 (.tmp 8)),
 om 10 0,
 oo 11 (.iaddr 3 (.tmp 9) (.tmp 10)),
 oo 12 (.faddr 0 1 (.tmp 11)),
 oo 13 (.load false 1 (.tmp 12)),
 oo 14 (.faddr 0 1 (.tmp 2)),
 oo 15 (.load false 1 (.tmp 14)),
 oo 16 (.bin .eql 3 (.tmp 13) (.tmp 15)),
 om 4 16] [0, 1, 2, 5, 6, 7, 8, 9, 10, 11, 12, 13, 14, 15, 16])
 .ret))
abbrev v_q66 : List RV := [.tmp 4]
abbrev f_q66 : FuncId := 69
theorem k_q66 : closedOf Tryz.prog Tryz.f69 = (false, some true, some v_q66, some c_q66.plain, 17) := by kernel_rfl
theorem ac_q66 {args : List AV} {r : AV} (h : aw Tryz.prog c_q66 (env0 args) (endQ v_q66 r)) (hargs : args.length ≤ 17 := by decide) (hok : resOK r = true := by rfl) : AC Tryz.prog f_q66 args r :=
  AC_mk (by kernel_rfl) Tryz.func69 k_q66 hargs hok (by decide) h
def c_q70 : ACode :=
 (.seq
 (.region false [
 oo 2 (.mov (.const (.slice none 0 0)))] [2])
 (.seq
 (.seq
 (.region false [
 om 3 0,
 oo 4 (.eqs false (.tmp 3))] [3])
 (.cond (.tmp 4)
 (.seq
 (.region false [
 oo 2 (.mov (.const (.slice none 0 0)))] [0, 4])
 .ret)
 .skip))
 (.seq
 (.shift
 (.region false [
 oo 5 (.bsl0 1),
 om 6 0,
 oo 7 (.app 1 4 [] (.tmp 5) (.tmp 6)),
 om 2 7] [0, 4, 5, 6, 7]))
 .ret)))
abbrev v_q70 : List RV := [.tmp 2]
abbrev f_q70 : FuncId := 73
theorem k_q70 : closedOf Tryz.prog Tryz.f73 = (false, some true, some v_q70, some c_q70.plain, 8) := by kernel_rfl
theorem ac_q70 {args : List AV} {r : AV} (h : aw Tryz.prog c_q70 (env0 args) (endQ v_q70 r)) (hargs : args.length ≤ 8 := by decide) (hok : resOK r = true := by rfl) : AC Tryz.prog f_q70 args r :=
  AC_mk (by kernel_rfl) Tryz.func73 k_q70 hargs hok (by decide) h
end Go.Proofs.YtbgfkdpjnabhkaaGreatDoor.VL
end

