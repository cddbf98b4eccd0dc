import Derived.Test.YtbgfkdpjnabhkaaGreatDoorProg
import Derived.Test.YtbgfkdpjnabhkaaGreatDoorGb7
set_option linter.unusedVariables false
set_option linter.unusedSimpArgs false
section
set_option maxRecDepth 100000
namespace Go.Proofs.YtbgfkdpjnabhkaaGreatDoor.VL
open Go.Proofs
def om (d s : Nat) : AOper := ⟨some d, .mov (.tmp s), none⟩
def oo (d : Nat) (x : AOp) : AOper := ⟨some d, x, none⟩
def og (d : Nat) (x : AOp) (g : Nat) (b : Bool) : AOper := ⟨some d, x, some (g, b)⟩
@[go_sem] theorem x_om {P : Program} {D : Bool} {d s : Nat} {os : List AOper} {E : Env} {K : Env → Prop} : awX D P (om d s :: os) E K = awX D P (⟨some d, .mov (.tmp s), none⟩ :: os) E K := rfl
@[go_sem] theorem x_oo {P : Program} {D : Bool} {d : Nat} {x : AOp} {os : List AOper} {E : Env} {K : Env → Prop} : awX D P (oo d x :: os) E K = awX D P (⟨some d, x, none⟩ :: os) E K := rfl
@[go_sem] theorem x_og {P : Program} {D : Bool} {d g : Nat} {b : Bool} {x : AOp} {os : List AOper} {E : Env} {K : Env → Prop} : awX D P (og d x g b :: os) E K = awX D P (⟨some d, x, some (g, b)⟩ :: os) E K := rfl
@[go_sem] theorem l_om {d s : Nat} {os : List AOper} : allocs (om d s :: os) = allocs os := rfl
@[go_sem] theorem l_oo {d : Nat} {x : AOp} {os : List AOper} : allocs (oo d x :: os) = allocs (⟨some d, x, none⟩ :: os) := rfl
@[go_sem] theorem l_og {d g : Nat} {x : AOp} {b : Bool} {os : List AOper} : allocs (og d x g b :: os) = allocs (⟨some d, x, some (g, b)⟩ :: os) := rfl
def c_q4 : ACode :=
 (.seq
 (.region false [
 oo 4 (.box (.tmp 1)),
 oo 6 (.mov (.const (.bool false)))] [1, 6])
 (.seq
 (.region false [
 oo 17 (.callm 28 []),
 om 7 17] [17])
 (.seq
 (.seq
 (.region false [
 om 18 7,
 oo 19 (.un .not (.tmp 18))] [7, 18])
 (.cond (.tmp 19)
 (.seq
 (.region false [
 oo 6 (.mov (.const (.bool false)))] [0, 2, 4, 19])
 .ret)
 .skip))
 (.seq
 (.seq
 (.region false [
 om 20 0,
 oo 21 (.lenl (.tmp 20)),
 oo 22 (.bin .gtr 3 (.tmp 21) (.const (.int .i64 20))),
 om 23 22,
 og 24 (.load true 7 (.tmp 4)) 23 false,
 og 25 (.callm 11 [.tmp 24, .const (.int .i64 8)]) 23 false,
 og 26 (.un .not (.tmp 25)) 23 false,
 oo 27 (.pick (.tmp 23) (.const (.bool true)) (.tmp 26))] [19, 20, 21, 22, 23, 24, 25, 26])
 (.cond (.tmp 27)
 (.seq
 (.region false [
 oo 6 (.mov (.const (.bool true)))] [0, 2, 4, 27])
 .ret)
 .skip))
 (.seq
 (.region false [
 oo 8 (.mov (.const (.int .i64 (-1))))] [27])
 (.seq
 (.seq
 (.region false [
 oo 9 (.mov (.const (.int .i64 0)))] [])
 (.block 0
 (.loop
 (.seq
 (.seq
 (.region false [
 om 28 9,
 om 29 0,
 oo 30 (.lenl (.tmp 29)),
 oo 31 (.bin .lss 3 (.tmp 28) (.tmp 30))] [28, 29, 30])
 (.cond (.tmp 31)
 .skip
 (.exit 0)))
 (.seq
 (.block 1
 (.seq
 (.seq
 (.region true [
 om 34 0,
 om 35 9,
 oo 36 (.iaddr 2 (.tmp 34) (.tmp 35)),
 oo 37 (.load true 2 (.tmp 36)),
 om 38 0,
 oo 39 (.iaddr 2 (.tmp 38) (.const (.int .i64 0))),
 oo 40 (.load true 2 (.tmp 39)),
 oo 41 (.call 29 [.tmp 37, .tmp 40]),
 om 42 0,
 om 43 9,
 oo 44 (.iaddr 2 (.tmp 42) (.tmp 43)),
 oo 45 (.load true 2 (.tmp 44)),
 oo 46 (.call 31 [.tmp 45]),
 om 47 0,
 oo 48 (.iaddr 2 (.tmp 47) (.const (.int .i64 0))),
 oo 49 (.load true 2 (.tmp 48)),
 oo 50 (.call 31 [.tmp 49]),
 oo 51 (.call 30 [.tmp 46, .tmp 50]),
 oo 52 (.eqb true 4 (.tmp 41) (.tmp 51))] [31, 34, 35, 36, 37, 38, 39, 40, 41, 42, 43, 44, 45, 46, 47, 48, 49, 50, 51])
 (.cond (.tmp 52)
 (.seq
 (.region false [
 oo 6 (.mov (.const (.bool false)))] [0, 2, 4, 8, 9, 52])
 .ret)
 .skip))
 (.seq
 (.region true [
 om 53 8,
 oo 54 (.bin .lss 3 (.tmp 53) (.const (.int .i64 0))),
 om 55 54,
 og 56 (.mov (.tmp 0)) 55 false,
 og 57 (.mov (.tmp 9)) 55 false,
 og 58 (.iaddr 2 (.tmp 56) (.tmp 57)) 55 false,
 og 59 (.load true 2 (.tmp 58)) 55 false,
 og 60 (.call 31 [.tmp 59]) 55 false,
 og 61 (.mov (.tmp 0)) 55 false,
 og 62 (.mov (.tmp 8)) 55 false,
 og 63 (.iaddr 2 (.tmp 61) (.tmp 62)) 55 false,
 og 64 (.load true 2 (.tmp 63)) 55 false,
 og 65 (.call 31 [.tmp 64]) 55 false,
 og 66 (.call 30 [.tmp 60, .tmp 65]) 55 false,
 oo 67 (.pick (.tmp 55) (.const (.bool true)) (.tmp 66))] [52, 53, 54, 55, 56, 57, 58, 59, 60, 61, 62, 63, 64, 65, 66])
 (.cond (.tmp 67)
 (.region false [
 om 68 9,
 om 8 68] [67, 68])
 .skip))) [67])
 (.region false [
 om 32 9,
 oo 33 (.bin .add 3 (.tmp 32) (.const (.int .i64 1))),
 om 9 33] [32, 33]))) [] []) [9, 31]))
 (.seq
 (.region false [
 om 70 0,
 oo 71 (.callm 32 [.tmp 70]),
 om 69 71,
 oo 72 (.ext (.tmp 69) 0),
 oo 73 (.ext (.tmp 69) 1),
 om 10 72,
 om 11 73] [0, 69, 70, 71, 72, 73])
 (.seq
 (.region false [
 oo 75 (.load true 7 (.tmp 4)),
 oo 76 (.callm 12 [.tmp 75]),
 om 74 76,
 oo 77 (.ext (.tmp 74) 0),
 oo 78 (.ext (.tmp 74) 1),
 om 12 77,
 om 13 78] [74, 75, 76, 77, 78])
 (.seq
 (.seq
 (.region false [
 om 79 11,
 om 80 8,
 oo 81 (.bin .geq 3 (.tmp 80) (.const (.int .i64 0))),
 oo 82 (.eqb true 4 (.tmp 79) (.tmp 81)),
 om 83 82,
 og 84 (.mov (.tmp 11)) 83 false,
 og 85 (.mov (.tmp 84)) 83 false,
 og 86 (.mov (.tmp 10)) 85 true,
 og 87 (.mov (.tmp 8)) 85 true,
 og 88 (.bin .neq 3 (.tmp 86) (.tmp 87)) 85 true,
 og 89 (.pick (.tmp 85) (.tmp 88) (.const (.bool false))) 83 false,
 oo 90 (.pick (.tmp 83) (.const (.bool true)) (.tmp 89)),
 om 91 90,
 og 92 (.mov (.tmp 12)) 91 false,
 og 93 (.eqp false (.tmp 92)) 91 false,
 oo 94 (.pick (.tmp 91) (.const (.bool true)) (.tmp 93)),
 om 95 94,
 og 96 (.mov (.tmp 13)) 95 false,
 og 97 (.eqn true (.tmp 96)) 95 false,
 oo 98 (.pick (.tmp 95) (.const (.bool true)) (.tmp 97))] [8, 10, 11, 13, 79, 80, 81, 82, 83, 84, 85, 86, 87, 88, 89, 90, 91, 92, 93, 94, 95, 96, 97])
 (.cond (.tmp 98)
 (.seq
 (.region false [
 oo 6 (.mov (.const (.bool false)))] [2, 4, 12, 98])
 .ret)
 .skip))
 (.seq
 (.region false [
 om 100 12,
 om 101 2,
 oo 102 (.callm 33 [.tmp 100, .tmp 101]),
 om 99 102,
 oo 103 (.ext (.tmp 99) 0),
 oo 104 (.ext (.tmp 99) 1),
 om 14 103,
 om 15 104] [12, 98, 99, 100, 101, 102, 103, 104])
 (.seq
 (.region false [
 oo 16 (.mov (.const (.int .i64 (-1))))] [])
 (.seq
 (.seq
 (.region false [
 om 105 2,
 oo 106 (.bin .geq 3 (.tmp 105) (.const (.int .i64 0))),
 om 107 106,
 og 108 (.mov (.tmp 2)) 107 true,
 og 109 (.faddr 1 1 (.tmp 4)) 107 true,
 og 110 (.load false 1 (.tmp 109)) 107 true,
 og 111 (.lenl (.tmp 110)) 107 true,
 og 112 (.bin .lss 3 (.tmp 108) (.tmp 111)) 107 true,
 oo 113 (.pick (.tmp 107) (.tmp 112) (.const (.bool false)))] [105, 106, 107, 108, 109, 110, 111, 112])
 (.cond (.tmp 113)
 (.region false [
 oo 114 (.load true 7 (.tmp 4)),
 om 115 2,
 oo 116 (.callm 34 [.tmp 114, .tmp 115]),
 om 16 116] [2, 4, 113, 114, 115, 116])
 .skip))
 (.seq
 (.region false [
 om 117 15,
 om 118 16,
 oo 119 (.bin .geq 3 (.tmp 118) (.const (.int .i64 0))),
 oo 120 (.eqb false 4 (.tmp 117) (.tmp 119)),
 om 121 120,
 og 122 (.mov (.tmp 15)) 121 true,
 og 123 (.un .not (.tmp 122)) 121 true,
 og 124 (.mov (.tmp 123)) 121 true,
 og 125 (.mov (.tmp 14)) 124 false,
 og 126 (.mov (.tmp 16)) 124 false,
 og 127 (.bin .eql 3 (.tmp 125) (.tmp 126)) 124 false,
 og 128 (.pick (.tmp 124) (.const (.bool true)) (.tmp 127)) 121 true,
 oo 129 (.pick (.tmp 121) (.tmp 128) (.const (.bool false))),
 om 6 129] [2, 4, 14, 15, 16, 113, 117, 118, 119, 120, 121, 122, 123, 124, 125, 126, 127, 128, 129])
 .ret)))))))))))))
abbrev v_q4 : List RV := [.tmp 6]
abbrev f_q4 : FuncId := 7
theorem k_q4 : closedOf Tryz.prog Tryz.f7 = (false, some true, some v_q4, some c_q4.plain, 130) := by kernel_rfl
theorem ac_q4 {args : List AV} {r : AV} (h : aw Tryz.prog c_q4 (env0 args) (endQ v_q4 r)) (hargs : args.length ≤ 130 := by decide) (hok : resOK r = true := by rfl) : AC Tryz.prog f_q4 args r :=
  AC_mk (by kernel_rfl) Tryz.func7 k_q4 hargs hok (by decide) h
def c_q6 : ACode :=
 (.seq
 (.region false [
 oo 6 (.box (.tmp 1)),
 oo 8 (.box (.tmp 3)),
 oo 10 (.mov (.const (.bool false)))] [1, 3, 10])
 (.seq
 (.region false [
 oo 26 (.callm 48 []),
 om 11 26] [26])
 (.seq
 (.seq
 (.region false [
 om 27 11,
 oo 28 (.un .not (.tmp 27))] [11, 27])
 (.cond (.tmp 28)
 (.seq
 (.region false [
 oo 10 (.mov (.const (.bool false)))] [0, 2, 4, 6, 8, 28])
 .ret)
 .skip))
 (.seq
 (.seq
 (.region false [
 om 29 0,
 oo 30 (.lenl (.tmp 29)),
 oo 31 (.bin .gtr 3 (.tmp 30) (.const (.int .i64 20))),
 om 32 31,
 og 33 (.load true 7 (.tmp 8)) 32 false,
 og 34 (.callm 11 [.tmp 33, .const (.int .i64 8)]) 32 false,
 og 35 (.un .not (.tmp 34)) 32 false,
 oo 36 (.pick (.tmp 32) (.const (.bool true)) (.tmp 35)),
 om 37 36,
 og 38 (.faddr 1 1 (.tmp 6)) 37 false,
 og 39 (.load false 1 (.tmp 38)) 37 false,
 og 40 (.bin .gtr 3 (.tmp 39) (.const (.int .i64 1099511627776))) 37 false,
 oo 41 (.pick (.tmp 37) (.const (.bool true)) (.tmp 40)),
 om 42 41,
 og 43 (.faddr 1 1 (.tmp 6)) 42 false,
 og 44 (.load false 1 (.tmp 43)) 42 false,
 og 45 (.bin .lss 3 (.tmp 44) (.const (.int .i64 (-1099511627776)))) 42 false,
 oo 46 (.pick (.tmp 42) (.const (.bool true)) (.tmp 45))] [28, 29, 30, 31, 32, 33, 34, 35, 36, 37, 38, 39, 40, 41, 42, 43, 44, 45])
 (.cond (.tmp 46)
 (.seq
 (.region false [
 oo 10 (.mov (.const (.bool true)))] [0, 2, 4, 6, 8, 46])
 .ret)
 .skip))
 (.seq
 (.region false [
 oo 12 (.mov (.const (.int .i64 (-1))))] [46])
 (.seq
 (.region false [
 oo 13 (.mov (.const (.bool false)))] [])
 (.seq
 (.seq
 (.region false [
 oo 14 (.mov (.const (.int .i64 0)))] [])
 (.block 0
 (.loop
 (.seq
 (.seq
 (.region false [
 om 47 14,
 om 48 0,
 oo 49 (.lenl (.tmp 48)),
 oo 50 (.bin .lss 3 (.tmp 47) (.tmp 49))] [47, 48, 49])
 (.cond (.tmp 50)
 .skip
 (.exit 0)))
 (.seq
 (.block 1
 (.seq
 (.seq
 (.region true [
 om 53 12,
 oo 54 (.bin .lss 3 (.tmp 53) (.const (.int .i64 0))),
 om 55 54,
 og 56 (.mov (.tmp 0)) 55 false,
 og 57 (.mov (.tmp 14)) 55 false,
 og 58 (.iaddr 1 (.tmp 56) (.tmp 57)) 55 false,
 og 59 (.load false 1 (.tmp 58)) 55 false,
 og 60 (.mov (.tmp 0)) 55 false,
 og 61 (.mov (.tmp 12)) 55 false,
 og 62 (.iaddr 1 (.tmp 60) (.tmp 61)) 55 false,
 og 63 (.load false 1 (.tmp 62)) 55 false,
 og 64 (.bin .lss 32 (.tmp 59) (.tmp 63)) 55 false,
 oo 65 (.pick (.tmp 55) (.const (.bool true)) (.tmp 64))] [50, 53, 54, 55, 56, 57, 58, 59, 60, 61, 62, 63, 64])
 (.cond (.tmp 65)
 (.region false [
 om 66 14,
 om 12 66] [65, 66])
 .skip))
 (.region false [
 om 67 13,
 om 68 67,
 og 69 (.mov (.tmp 0)) 68 false,
 og 70 (.mov (.tmp 14)) 68 false,
 og 71 (.iaddr 1 (.tmp 69) (.tmp 70)) 68 false,
 og 72 (.load false 1 (.tmp 71)) 68 false,
 og 73 (.mov (.tmp 2)) 68 false,
 og 74 (.bin .lss 32 (.tmp 72) (.tmp 73)) 68 false,
 oo 75 (.pick (.tmp 68) (.const (.bool true)) (.tmp 74)),
 om 13 75] [65, 67, 68, 69, 70, 71, 72, 73, 74, 75])) [])
 (.region false [
 om 51 14,
 oo 52 (.bin .add 3 (.tmp 51) (.const (.int .i64 1))),
 om 14 52] [51, 52]))) [] []) [14, 50]))
 (.seq
 (.region false [
 om 77 0,
 oo 78 (.callm 49 [.tmp 77]),
 om 76 78,
 oo 79 (.ext (.tmp 76) 0),
 oo 80 (.ext (.tmp 76) 1),
 om 15 79,
 om 16 80] [76, 77, 78, 79, 80])
 (.seq
 (.region false [
 oo 81 (.load true 2 (.tmp 6)),
 om 82 2,
 om 83 0,
 oo 84 (.callm 50 [.tmp 81, .tmp 82, .tmp 83]),
 oo 17 (.alloc [.lit (.int .i64 0), .lit (.int .i64 0)]),
 ⟨none, .store 2 (.tmp 17) (.tmp 84), none⟩] [0, 2, 81, 82, 83, 84])
 (.seq
 (.region false [
 oo 85 (.build [.lit (.int .i64 0), .lit (.int .i64 0)] [(1, 1, .const (.int .i64 3))]),
 oo 18 (.alloc [.lit (.int .i64 0), .lit (.int .i64 0)]),
 ⟨none, .store 2 (.tmp 18) (.tmp 85), none⟩] [85])
 (.seq
 (.seq
 (.region false [
 om 86 13,
 oo 87 (.un .not (.tmp 86))] [13, 86])
 (.cond (.tmp 87)
 (.seq
 (.region false [
 oo 88 (.faddr 1 1 (.tmp 6)),
 oo 89 (.load false 1 (.tmp 88)),
 oo 90 (.bin .sub 3 (.tmp 89) (.const (.int .i64 1))),
 oo 91 (.mnmx true [.const (.int .i64 0), .tmp 90]),
 oo 92 (.faddr 1 1 (.tmp 18)),
 ⟨none, .store 1 (.tmp 92) (.tmp 91), none⟩] [6, 87, 88, 89, 90, 91, 92])
 (.seq
 (.region false [
 oo 93 (.faddr 1 1 (.tmp 18)),
 oo 94 (.load false 1 (.tmp 93)),
 oo 95 (.bin .eql 3 (.tmp 94) (.const (.int .i64 0)))] [93, 94])
 (.cond (.tmp 95)
 (.region false [
 oo 96 (.faddr 0 1 (.tmp 18)),
 ⟨none, .store 1 (.tmp 96) (.const (.int .i64 1)), none⟩] [95, 96])
 .skip)))
 .skip))
 (.seq
 (.region false [
 oo 98 (.load true 7 (.tmp 8)),
 oo 99 (.callm 12 [.tmp 98]),
 om 97 99,
 oo 100 (.ext (.tmp 97) 0),
 oo 101 (.ext (.tmp 97) 1),
 om 19 100,
 om 20 101] [6, 87, 95, 97, 98, 99, 100, 101])
 (.seq
 (.seq
 (.region false [
 om 102 16,
 om 103 12,
 oo 104 (.bin .geq 3 (.tmp 103) (.const (.int .i64 0))),
 oo 105 (.eqb true 4 (.tmp 102) (.tmp 104)),
 om 106 105,
 og 107 (.mov (.tmp 16)) 106 false,
 og 108 (.mov (.tmp 107)) 106 false,
 og 109 (.mov (.tmp 15)) 108 true,
 og 110 (.mov (.tmp 12)) 108 true,
 og 111 (.bin .neq 3 (.tmp 109) (.tmp 110)) 108 true,
 og 112 (.pick (.tmp 108) (.tmp 111) (.const (.bool false))) 106 false,
 oo 113 (.pick (.tmp 106) (.const (.bool true)) (.tmp 112)),
 om 114 113,
 og 115 (.faddr 0 1 (.tmp 17)) 114 false,
 og 116 (.load false 1 (.tmp 115)) 114 false,
 og 117 (.faddr 0 1 (.tmp 18)) 114 false,
 og 118 (.load false 1 (.tmp 117)) 114 false,
 og 119 (.bin .neq 3 (.tmp 116) (.tmp 118)) 114 false,
 oo 120 (.pick (.tmp 114) (.const (.bool true)) (.tmp 119)),
 om 121 120,
 og 122 (.faddr 1 1 (.tmp 17)) 121 false,
 og 123 (.load false 1 (.tmp 122)) 121 false,
 og 124 (.faddr 1 1 (.tmp 18)) 121 false,
 og 125 (.load false 1 (.tmp 124)) 121 false,
 og 126 (.bin .neq 3 (.tmp 123) (.tmp 125)) 121 false,
 oo 127 (.pick (.tmp 121) (.const (.bool true)) (.tmp 126)),
 om 128 127,
 og 129 (.mov (.tmp 19)) 128 false,
 og 130 (.eqp false (.tmp 129)) 128 false,
 oo 131 (.pick (.tmp 128) (.const (.bool true)) (.tmp 130)),
 om 132 131,
 og 133 (.mov (.tmp 20)) 132 false,
 og 134 (.eqn true (.tmp 133)) 132 false,
 oo 135 (.pick (.tmp 132) (.const (.bool true)) (.tmp 134))] [12, 15, 16, 17, 18, 20, 102, 103, 104, 105, 106, 107, 108, 109, 110, 111, 112, 113, 114, 115, 116, 117, 118, 119, 120, 121, 122, 123, 124, 125, 126, 127, 128, 129, 130, 131, 132, 133, 134])
 (.cond (.tmp 135)
 (.seq
 (.region false [
 oo 10 (.mov (.const (.bool false)))] [4, 8, 19, 135])
 .ret)
 .skip))
 (.seq
 (.region false [
 om 137 19,
 om 138 4,
 oo 139 (.callm 51 [.tmp 137, .tmp 138]),
 om 136 139,
 oo 140 (.ext (.tmp 136) 0),
 oo 141 (.ext (.tmp 136) 1),
 om 21 140,
 om 22 141] [19, 135, 136, 137, 138, 139, 140, 141])
 (.seq
 (.region false [
 oo 23 (.mov (.const (.int .i64 (-1))))] [])
 (.seq
 (.region false [
 oo 142 (.load true 7 (.tmp 8)),
 om 143 4,
 oo 144 (.callm 38 [.tmp 142, .tmp 143]),
 om 24 144] [4, 142, 143, 144])
 (.seq
 (.seq
 (.region false [
 oo 25 (.mov (.const (.int .i64 0)))] [])
 (.block 2
 (.loop
 (.seq
 (.seq
 (.region false [
 om 145 25,
 om 146 24,
 oo 147 (.lenl (.tmp 146)),
 oo 148 (.bin .lss 3 (.tmp 145) (.tmp 147))] [145, 146, 147])
 (.cond (.tmp 148)
 .skip
 (.exit 2)))
 (.seq
 (.block 3
 (.seq
 (.region true [
 om 151 23,
 oo 152 (.bin .lss 3 (.tmp 151) (.const (.int .i64 0))),
 om 153 152,
 og 154 (.faddr 2 1 (.tmp 8)) 153 false,
 og 155 (.load false 1 (.tmp 154)) 153 false,
 og 156 (.mov (.tmp 24)) 153 false,
 og 157 (.mov (.tmp 25)) 153 false,
 og 158 (.iaddr 1 (.tmp 156) (.tmp 157)) 153 false,
 og 159 (.load false 1 (.tmp 158)) 153 false,
 og 160 (.iaddr 3 (.tmp 155) (.tmp 159)) 153 false,
 og 161 (.faddr 2 1 (.tmp 160)) 153 false,
 og 162 (.load false 1 (.tmp 161)) 153 false,
 og 163 (.faddr 2 1 (.tmp 8)) 153 false,
 og 164 (.load false 1 (.tmp 163)) 153 false,
 og 165 (.mov (.tmp 23)) 153 false,
 og 166 (.iaddr 3 (.tmp 164) (.tmp 165)) 153 false,
 og 167 (.faddr 2 1 (.tmp 166)) 153 false,
 og 168 (.load false 1 (.tmp 167)) 153 false,
 og 169 (.bin .lss 32 (.tmp 162) (.tmp 168)) 153 false,
 oo 170 (.pick (.tmp 153) (.const (.bool true)) (.tmp 169))] [148, 151, 152, 153, 154, 155, 156, 157, 158, 159, 160, 161, 162, 163, 164, 165, 166, 167, 168, 169])
 (.cond (.tmp 170)
 (.region false [
 om 171 24,
 om 172 25,
 oo 173 (.iaddr 1 (.tmp 171) (.tmp 172)),
 oo 174 (.load false 1 (.tmp 173)),
 om 23 174] [170, 171, 172, 173, 174])
 .skip)) [170])
 (.region false [
 om 149 25,
 oo 150 (.bin .add 3 (.tmp 149) (.const (.int .i64 1))),
 om 25 150] [149, 150]))) [] []) [8, 24, 25, 148]))
 (.seq
 (.region false [
 om 175 22,
 om 176 23,
 oo 177 (.bin .geq 3 (.tmp 176) (.const (.int .i64 0))),
 oo 178 (.eqb false 4 (.tmp 175) (.tmp 177)),
 om 179 178,
 og 180 (.mov (.tmp 22)) 179 true,
 og 181 (.un .not (.tmp 180)) 179 true,
 og 182 (.mov (.tmp 181)) 179 true,
 og 183 (.mov (.tmp 21)) 182 false,
 og 184 (.mov (.tmp 23)) 182 false,
 og 185 (.bin .eql 3 (.tmp 183) (.tmp 184)) 182 false,
 og 186 (.pick (.tmp 182) (.const (.bool true)) (.tmp 185)) 179 true,
 oo 187 (.pick (.tmp 179) (.tmp 186) (.const (.bool false))),
 om 10 187] [21, 22, 23, 175, 176, 177, 178, 179, 180, 181, 182, 183, 184, 185, 186, 187])
 .ret))))))))))))))))))
abbrev v_q6 : List RV := [.tmp 10]
abbrev f_q6 : FuncId := 9
theorem k_q6 : closedOf Tryz.prog Tryz.f9 = (false, some true, some v_q6, some c_q6.plain, 188) := by kernel_rfl
theorem ac_q6 {args : List AV} {r : AV} (h : aw Tryz.prog c_q6 (env0 args) (endQ v_q6 r)) (hargs : args.length ≤ 188 := by decide) (hok : resOK r = true := by rfl) : AC Tryz.prog f_q6 args r :=
  AC_mk (by kernel_rfl) Tryz.func9 k_q6 hargs hok (by decide) h
def c_q8 : ACode :=
 (.seq
 (.region false [
 oo 2 (.box (.tmp 0)),
 oo 4 (.mov (.const (.bool false)))] [0, 4])
 (.seq
 (.region false [
 oo 5 (.faddr 0 1 (.tmp 2)),
 oo 6 (.load false 1 (.tmp 5)),
 oo 7 (.lenl (.tmp 6)),
 om 8 1,
 oo 9 (.bin .leq 3 (.tmp 7) (.tmp 8)),
 om 10 9,
 og 11 (.faddr 1 1 (.tmp 2)) 10 true,
 og 12 (.load false 1 (.tmp 11)) 10 true,
 og 13 (.lenl (.tmp 12)) 10 true,
 og 14 (.bin .leq 3 (.tmp 13) (.const (.int .i64 12))) 10 true,
 oo 15 (.pick (.tmp 10) (.tmp 14) (.const (.bool false))),
 om 16 15,
 og 17 (.faddr 2 1 (.tmp 2)) 16 true,
 og 18 (.load false 1 (.tmp 17)) 16 true,
 og 19 (.lenl (.tmp 18)) 16 true,
 og 20 (.bin .leq 3 (.tmp 19) (.const (.int .i64 24))) 16 true,
 oo 21 (.pick (.tmp 16) (.tmp 20) (.const (.bool false))),
 om 22 21,
 og 23 (.faddr 3 1 (.tmp 2)) 22 true,
 og 24 (.load false 1 (.tmp 23)) 22 true,
 og 25 (.lenl (.tmp 24)) 22 true,
 og 26 (.bin .leq 3 (.tmp 25) (.const (.int .i64 30))) 22 true,
 oo 27 (.pick (.tmp 22) (.tmp 26) (.const (.bool false))),
 om 28 27,
 og 29 (.faddr 4 1 (.tmp 2)) 28 true,
 og 30 (.load false 1 (.tmp 29)) 28 true,
 og 31 (.lenl (.tmp 30)) 28 true,
 og 32 (.bin .leq 3 (.tmp 31) (.const (.int .i64 4))) 28 true,
 oo 33 (.pick (.tmp 28) (.tmp 32) (.const (.bool false))),
 om 34 33,
 og 35 (.faddr 5 1 (.tmp 2)) 34 true,
 og 36 (.load false 1 (.tmp 35)) 34 true,
 og 37 (.lenl (.tmp 36)) 34 true,
 og 38 (.bin .leq 3 (.tmp 37) (.const (.int .i64 5))) 34 true,
 oo 39 (.pick (.tmp 34) (.tmp 38) (.const (.bool false))),
 om 40 39,
 og 41 (.faddr 6 1 (.tmp 2)) 40 true,
 og 42 (.load false 1 (.tmp 41)) 40 true,
 og 43 (.lenl (.tmp 42)) 40 true,
 og 44 (.bin .leq 3 (.tmp 43) (.const (.int .i64 10))) 40 true,
 oo 45 (.pick (.tmp 40) (.tmp 44) (.const (.bool false))),
 om 46 45,
 og 47 (.load true 7 (.tmp 2)) 46 true,
 og 48 (.callm 21 [.tmp 47]) 46 true,
 og 49 (.bin .eql 3 (.tmp 48) (.const (.int .i64 0))) 46 true,
 oo 50 (.pick (.tmp 46) (.tmp 49) (.const (.bool false))),
 om 4 50] [1, 2, 5, 6, 7, 8, 9, 10, 11, 12, 13, 14, 15, 16, 17, 18, 19, 20, 21, 22, 23, 24, 25, 26, 27, 28, 29, 30, 31, 32, 33, 34, 35, 36, 37, 38, 39, 40, 41, 42, 43, 44, 45, 46, 47, 48, 49, 50])
 .ret))
abbrev v_q8 : List RV := [.tmp 4]
abbrev f_q8 : FuncId := 11
theorem k_q8 : closedOf Tryz.prog Tryz.f11 = (false, some true, some v_q8, some c_q8.plain, 51) := by kernel_rfl
theorem ac_q8 {args : List AV} {r : AV} (h : aw Tryz.prog c_q8 (env0 args) (endQ v_q8 r)) (hargs : args.length ≤ 51 := by decide) (hok : resOK r = true := by rfl) : AC Tryz.prog f_q8 args r :=
  AC_mk (by kernel_rfl) Tryz.func11 k_q8 hargs hok (by decide) h
def c_q9 : ACode :=
 (.seq
 (.region false [
 oo 1 (.box (.tmp 0)),
 oo 2 (.mov (.const (.pointer none))),
 oo 3 (.mov (.const (.nilIface)))] [0, 2, 3])
 (.seq
 (.seq
 (.region false [
 oo 12 (.load true 7 (.tmp 1)),
 oo 13 (.callm 53 [.tmp 12]),
 om 4 13] [12, 13])
 (.seq
 (.region false [
 om 14 4,
 oo 15 (.eqn true (.tmp 14))] [14])
 (.cond (.tmp 15)
 (.seq
 (.region false [
 om 16 4,
 oo 2 (.mov (.const (.pointer none))),
 om 3 16] [1, 4, 15, 16])
 .ret)
 .skip)))
 (.seq
 (.region true [
 oo 17 (.load true 7 (.tmp 1)),
 oo 18 (.call 54 [.tmp 17]),
 oo 19 (.faddr 1 1 (.tmp 1)),
 oo 20 (.load false 1 (.tmp 19)),
 oo 21 (.lenl (.tmp 20)),
 oo 22 (.mkf false 1 24 [.sl .nil 0 []] (.tmp 21) (.tmp 21)),
 oo 23 (.faddr 0 1 (.tmp 1)),
 oo 24 (.load false 1 (.tmp 23)),
 oo 25 (.lenl (.tmp 24)),
 oo 26 (.mkf false 1 24 [.sl .nil 0 []] (.tmp 25) (.tmp 25)),
 oo 27 (.mkm),
 oo 28 (.faddr 1 1 (.tmp 1)),
 oo 29 (.load false 1 (.tmp 28)),
 oo 30 (.lenl (.tmp 29)),
 oo 31 (.mkf false 1 24 [.sl .nil 0 []] (.tmp 30) (.tmp 30)),
 oo 32 (.build [.sl .nil 0 [], .sl .nil 0 [], .sl .nil 0 [], .sl .nil 0 [], .sl .nil 0 [], .sl .nil 0 [], .sl .nil 0 [], .sl .nil 0 [], .sl .nil 0 [], .lit (.map none), .sl .nil 0 [], .sl .nil 0 []] [(0, 7, .tmp 18), (7, 1, .tmp 22), (8, 1, .tmp 26), (9, 1, .tmp 27), (10, 1, .tmp 31)]),
 oo 33 (.box (.tmp 32)),
 om 5 33] [4, 15, 17, 18, 19, 20, 21, 22, 23, 24, 25, 26, 27, 28, 29, 30, 31, 32, 33])
 (.seq
 (.seq
 (.shift
 (.region false [
 oo 34 (.faddr 2 1 (.tmp 1)),
 oo 35 (.load false 1 (.tmp 34)),
 oo 36 (.lenl (.tmp 35)),
 oo 37 (.mov (.const (.int .i64 0)))] [34]))
 (.block 0
 (.loop
 (.seq
 (.region false [
 oo 38 (.bin .lss 3 (.tmp 37) (.tmp 36))] [])
 (.seq
 (.cond (.tmp 38)
 .skip
 (.exit 0))
 (.seq
 (.block 1
 (.seq
 (.region false [
 om 39 37,
 oo 40 (.iaddr 3 (.tmp 35) (.tmp 37)),
 oo 41 (.load true 3 (.tmp 40)),
 oo 7 (.alloc [.lit (.int .i64 0), .lit (.int .i64 0), .lit (.int .u32 0)]),
 om 6 39,
 ⟨none, .store 3 (.tmp 7) (.tmp 41), none⟩] [38, 39, 40, 41])
 (.seq
 (.region true [
 om 42 5,
 oo 43 (.nilchk (.tmp 42)),
 oo 44 (.faddr 7 1 (.tmp 43)),
 oo 45 (.loadc false 1 (.tmp 44)),
 oo 46 (.faddr 1 1 (.tmp 7)),
 oo 47 (.loadc false 1 (.tmp 46)),
 om 48 5,
 oo 49 (.nilchk (.tmp 48)),
 oo 50 (.faddr 7 1 (.tmp 49)),
 oo 51 (.loadc false 1 (.tmp 50)),
 oo 52 (.faddr 1 1 (.tmp 7)),
 oo 53 (.loadc false 1 (.tmp 52)),
 oo 54 (.iaddr 1 (.tmp 51) (.tmp 53)),
 oo 55 (.loadc false 1 (.tmp 54)),
 om 56 6,
 oo 57 (.bslice 1 1 [.tmp 56]),
 oo 58 (.app 1 8 [] (.tmp 55) (.tmp 57)),
 oo 59 (.iaddr 1 (.tmp 45) (.tmp 47)),
 ⟨none, .store 1 (.tmp 59) (.tmp 58), none⟩] [42, 43, 44, 45, 46, 47, 48, 49, 50, 51, 52, 53, 54, 55, 56, 57, 58, 59])
 (.seq
 (.region true [
 om 60 5,
 oo 61 (.nilchk (.tmp 60)),
 oo 62 (.faddr 8 1 (.tmp 61)),
 oo 63 (.loadc false 1 (.tmp 62)),
 oo 64 (.faddr 0 1 (.tmp 7)),
 oo 65 (.loadc false 1 (.tmp 64)),
 om 66 5,
 oo 67 (.nilchk (.tmp 66)),
 oo 68 (.faddr 8 1 (.tmp 67)),
 oo 69 (.loadc false 1 (.tmp 68)),
 oo 70 (.faddr 0 1 (.tmp 7)),
 oo 71 (.loadc false 1 (.tmp 70)),
 oo 72 (.iaddr 1 (.tmp 69) (.tmp 71)),
 oo 73 (.loadc false 1 (.tmp 72)),
 om 74 6,
 oo 75 (.bslice 1 1 [.tmp 74]),
 oo 76 (.app 1 8 [] (.tmp 73) (.tmp 75)),
 oo 77 (.iaddr 1 (.tmp 63) (.tmp 65)),
 ⟨none, .store 1 (.tmp 77) (.tmp 76), none⟩] [60, 61, 62, 63, 64, 65, 66, 67, 68, 69, 70, 71, 72, 73, 74, 75, 76, 77])
 (.region true [
 om 78 5,
 oo 79 (.nilchk (.tmp 78)),
 oo 80 (.faddr 9 1 (.tmp 79)),
 oo 81 (.load false 1 (.tmp 80)),
 oo 82 (.faddr 2 1 (.tmp 7)),
 oo 83 (.load false 1 (.tmp 82)),
 om 84 6,
 ⟨none, .mup false (.tmp 81) (.tmp 83) (.tmp 84), none⟩] [6, 7, 78, 79, 80, 81, 82, 83, 84])))) [])
 (.shift
 (.region false [
 oo 85 (.bin .add 3 (.tmp 37) (.const (.int .i64 1))),
 om 37 85] [85]))))) [] [7]) [35, 36, 37, 38]))
 (.seq
 (.seq
 (.shift
 (.region false [
 oo 86 (.faddr 6 1 (.tmp 1)),
 oo 87 (.load false 1 (.tmp 86)),
 oo 88 (.lenl (.tmp 87)),
 oo 89 (.mov (.const (.int .i64 0)))] [86]))
 (.block 2
 (.loop
 (.seq
 (.region false [
 oo 90 (.bin .lss 3 (.tmp 89) (.tmp 88))] [])
 (.seq
 (.cond (.tmp 90)
 .skip
 (.exit 2))
 (.seq
 (.block 3
 (.seq
 (.region false [
 om 91 89,
 oo 92 (.iaddr 4 (.tmp 87) (.tmp 89)),
 oo 93 (.load true 4 (.tmp 92)),
 oo 9 (.alloc [.lit (.int .i64 0), .lit (.int .u32 0), .lit (.bool false), .sl .nil 0 []]),
 om 8 91,
 ⟨none, .store 4 (.tmp 9) (.tmp 93), none⟩] [90, 91, 92, 93])
 (.seq
 (.region true [
 om 94 5,
 oo 95 (.nilchk (.tmp 94)),
 oo 96 (.faddr 10 1 (.tmp 95)),
 oo 97 (.loadc false 1 (.tmp 96)),
 oo 98 (.faddr 0 1 (.tmp 9)),
 oo 99 (.loadc false 1 (.tmp 98)),
 om 100 5,
 oo 101 (.nilchk (.tmp 100)),
 oo 102 (.faddr 10 1 (.tmp 101)),
 oo 103 (.loadc false 1 (.tmp 102)),
 oo 104 (.faddr 0 1 (.tmp 9)),
 oo 105 (.loadc false 1 (.tmp 104)),
 oo 106 (.iaddr 1 (.tmp 103) (.tmp 105)),
 oo 107 (.loadc false 1 (.tmp 106)),
 om 108 8,
 oo 109 (.bslice 1 1 [.tmp 108]),
 oo 110 (.app 1 8 [] (.tmp 107) (.tmp 109)),
 oo 111 (.iaddr 1 (.tmp 97) (.tmp 99)),
 ⟨none, .store 1 (.tmp 111) (.tmp 110), none⟩] [8, 94, 95, 96, 97, 98, 99, 100, 101, 102, 103, 104, 105, 106, 107, 108, 109, 110, 111])
 (.region true [
 om 112 5,
 om 113 5,
 oo 114 (.nilchk (.tmp 113)),
 oo 115 (.faddr 11 1 (.tmp 114)),
 oo 116 (.loadc false 1 (.tmp 115)),
 oo 117 (.faddr 1 1 (.tmp 9)),
 oo 118 (.loadc false 1 (.tmp 117)),
 oo 119 (.bslice 1 1 [.tmp 118]),
 oo 120 (.app 1 4 [] (.tmp 116) (.tmp 119)),
 oo 121 (.nilchk (.tmp 112)),
 oo 122 (.faddr 11 1 (.tmp 121)),
 ⟨none, .store 1 (.tmp 122) (.tmp 120), none⟩] [9, 112, 113, 114, 115, 116, 117, 118, 119, 120, 121, 122]))) [])
 (.shift
 (.region false [
 oo 123 (.bin .add 3 (.tmp 89) (.const (.int .i64 1))),
 om 89 123] [123]))))) [] [9]) [87, 88, 89, 90]))
 (.seq
 (.seq
 (.shift
 (.region false [
 oo 124 (.faddr 5 1 (.tmp 1)),
 oo 125 (.load false 1 (.tmp 124)),
 oo 126 (.lenl (.tmp 125)),
 oo 127 (.mov (.const (.int .i64 0)))] [1, 124]))
 (.block 4
 (.loop
 (.seq
 (.region false [
 oo 128 (.bin .lss 3 (.tmp 127) (.tmp 126))] [])
 (.seq
 (.cond (.tmp 128)
 .skip
 (.exit 4))
 (.seq
 (.block 5
 (.seq
 (.region false [
 oo 129 (.iaddr 3 (.tmp 125) (.tmp 127)),
 oo 130 (.load true 3 (.tmp 129)),
 oo 11 (.alloc [.lit (.int .i64 0), .lit (.int .u32 0), .lit (.int .u32 0)]),
 ⟨none, .store 3 (.tmp 11) (.tmp 130), none⟩] [128, 129, 130])
 (.region true [
 om 131 5,
 om 132 5,
 oo 133 (.nilchk (.tmp 132)),
 oo 134 (.faddr 11 1 (.tmp 133)),
 oo 135 (.loadc false 1 (.tmp 134)),
 oo 136 (.faddr 1 2 (.tmp 11)),
 oo 137 (.faddr 1 1 (.tmp 136)),
 oo 138 (.loadc false 1 (.tmp 137)),
 oo 139 (.bslice 1 1 [.tmp 138]),
 oo 140 (.app 1 4 [] (.tmp 135) (.tmp 139)),
 oo 141 (.nilchk (.tmp 131)),
 oo 142 (.faddr 11 1 (.tmp 141)),
 ⟨none, .store 1 (.tmp 142) (.tmp 140), none⟩] [11, 131, 132, 133, 134, 135, 136, 137, 138, 139, 140, 141, 142])) [])
 (.region false [
 oo 143 (.bin .add 3 (.tmp 127) (.const (.int .i64 1))),
 om 127 143] [143])))) [] [11]) [125, 126, 127, 128]))
 (.seq
 (.shift
 (.region false [
 om 144 5,
 oo 145 (.nilchk (.tmp 144)),
 oo 146 (.faddr 11 1 (.tmp 145)),
 oo 147 (.load false 1 (.tmp 146)),
 oo 148 (.callm 55 [.tmp 147])] [144, 145, 146, 147, 148]))
 (.seq
 (.region false [
 om 149 5,
 om 150 5,
 oo 151 (.nilchk (.tmp 150)),
 oo 152 (.faddr 11 1 (.tmp 151)),
 oo 153 (.load false 1 (.tmp 152)),
 oo 154 (.callm 56 [.tmp 153]),
 oo 155 (.nilchk (.tmp 149)),
 oo 156 (.faddr 11 1 (.tmp 155)),
 ⟨none, .store 1 (.tmp 156) (.tmp 154), none⟩] [149, 150, 151, 152, 153, 154, 155, 156])
 (.seq
 (.region false [
 om 157 5,
 om 2 157,
 oo 3 (.mov (.const (.nilIface)))] [5, 157])
 .ret)))))))))
abbrev v_q9 : List RV := [.tmp 2, .tmp 3]
abbrev f_q9 : FuncId := 12
theorem k_q9 : closedOf Tryz.prog Tryz.f12 = (false, some true, some v_q9, some c_q9.plain, 158) := by kernel_rfl
theorem ac_q9 {args : List AV} {r : AV} (h : aw Tryz.prog c_q9 (env0 args) (endQ v_q9 r)) (hargs : args.length ≤ 158 := by decide) (hok : resOK r = true := by rfl) : AC Tryz.prog f_q9 args r :=
  AC_mk (by kernel_rfl) Tryz.func12 k_q9 hargs hok (by decide) h
def c_q18 : ACode :=
 (.seq
 (.region false [
 oo 1 (.box (.tmp 0)),
 oo 2 (.mov (.const (.int .i64 0)))] [0, 2])
 (.seq
 (.region false [
 oo 9 (.load true 7 (.tmp 1)),
 oo 10 (.callm 65 [.tmp 9]),
 om 8 10,
 oo 11 (.ext (.tmp 8) 0),
 oo 12 (.ext (.tmp 8) 1),
 oo 3 (.alloc [.lit (.int .i64 0), .lit (.int .i64 0), .lit (.int .i64 0), .lit (.int .i64 0), .lit (.int .i64 0), .lit (.int .i64 0), .lit (.int .i64 0)]),
 oo 4 (.alloc [.lit (.int .i64 0), .lit (.int .i64 0), .lit (.int .i64 0), .lit (.int .i64 0), .lit (.int .i64 0), .lit (.int .i64 0), .lit (.int .i64 0)]),
 ⟨none, .store 7 (.tmp 3) (.tmp 11), none⟩,
 ⟨none, .store 7 (.tmp 4) (.tmp 12), none⟩] [8, 9, 10, 11, 12])
 (.seq
 (.seq
 (.region false [
 oo 5 (.mov (.const (.int .i64 0)))] [])
 (.block 0
 (.loop
 (.seq
 (.seq
 (.region false [
 om 13 5,
 oo 14 (.bin .lss 3 (.tmp 13) (.const (.int .i64 7)))] [13])
 (.cond (.tmp 14)
 .skip
 (.exit 0)))
 (.seq
 (.block 1
 (.seq
 (.region false [
 oo 6 (.mov (.const (.int .i64 0)))] [14])
 (.block 2
 (.loop
 (.seq
 (.seq
 (.region false [
 om 17 6,
 om 18 5,
 oo 19 (.iadra 7 1 (.tmp 3) (.tmp 18)),
 oo 20 (.load false 1 (.tmp 19)),
 oo 21 (.bin .lss 3 (.tmp 17) (.tmp 20))] [17, 18, 19, 20])
 (.cond (.tmp 21)
 .skip
 (.exit 2)))
 (.seq
 (.block 3
 (.seq
 (.seq
 (.region false [
 om 24 6,
 om 25 5,
 oo 26 (.iadra 7 1 (.tmp 4) (.tmp 25)),
 oo 27 (.load false 1 (.tmp 26)),
 oo 28 (.bin .geq 3 (.tmp 24) (.tmp 27))] [21, 24, 25, 26, 27])
 (.cond (.tmp 28)
 (.seq
 (.region false [
 oo 2 (.mov (.const (.int .i64 104)))] [1, 3, 4, 5, 6, 28])
 .ret)
 .skip))
 (.seq
 (.region false [
 oo 29 (.load true 7 (.tmp 1)),
 om 30 5,
 om 31 6,
 oo 32 (.callm 66 [.tmp 29, .tmp 30, .tmp 31]),
 om 7 32] [28, 29, 30, 31, 32])
 (.seq
 (.region false [
 om 33 7,
 oo 34 (.bin .neq 3 (.tmp 33) (.const (.int .i64 0)))] [33])
 (.cond (.tmp 34)
 (.seq
 (.region false [
 om 35 7,
 om 2 35] [1, 3, 4, 5, 6, 7, 34, 35])
 .ret)
 .skip)))) [7, 34])
 (.region false [
 om 22 6,
 oo 23 (.bin .add 3 (.tmp 22) (.const (.int .i64 1))),
 om 6 23] [22, 23]))) [] []) [6, 21])) [])
 (.region false [
 om 15 5,
 oo 16 (.bin .add 3 (.tmp 15) (.const (.int .i64 1))),
 om 5 16] [15, 16]))) [] []) [1, 3, 4, 5, 14]))
 (.seq
 (.region false [
 oo 2 (.mov (.const (.int .i64 0)))] [])
 .ret))))
abbrev v_q18 : List RV := [.tmp 2]
abbrev f_q18 : FuncId := 21
theorem k_q18 : closedOf Tryz.prog Tryz.f21 = (false, some true, some v_q18, some c_q18.plain, 36) := by kernel_rfl
theorem ac_q18 {args : List AV} {r : AV} (h : aw Tryz.prog c_q18 (env0 args) (endQ v_q18 r)) (hargs : args.length ≤ 36 := by decide) (hok : resOK r = true := by rfl) : AC Tryz.prog f_q18 args r :=
  AC_mk (by kernel_rfl) Tryz.func21 k_q18 hargs hok (by decide) h
def c_q22 : ACode :=
 (.seq
 (.region false [
 oo 4 (.mov (.const (.slice none 0 0)))] [4])
 (.seq
 (.region false [
 om 5 0,
 oo 6 (.nilchk (.tmp 5)),
 oo 7 (.faddr 7 1 (.tmp 6)),
 oo 8 (.load false 1 (.tmp 7)),
 om 9 1,
 oo 10 (.callm 67 [.tmp 8, .tmp 9]),
 om 4 10] [0, 1, 5, 6, 7, 8, 9, 10])
 .ret))
abbrev v_q22 : List RV := [.tmp 4]
abbrev f_q22 : FuncId := 25
theorem k_q22 : closedOf Tryz.prog Tryz.f25 = (false, some true, some v_q22, some c_q22.plain, 11) := by kernel_rfl
theorem ac_q22 {args : List AV} {r : AV} (h : aw Tryz.prog c_q22 (env0 args) (endQ v_q22 r)) (hargs : args.length ≤ 11 := by decide) (hok : resOK r = true := by rfl) : AC Tryz.prog f_q22 args r :=
  AC_mk (by kernel_rfl) Tryz.func25 k_q22 hargs hok (by decide) h
def c_q25 : ACode :=
 (.seq
 (.region false [
 oo 0 (.mov (.const (.bool false)))] [0])
 (.seq
 (.region false [
 oo 6 (.build [.lit (.int .i64 0), .lit (.int .u32 0)] [(0, 1, .const (.int .i64 1))]),
 oo 7 (.bslice 1 2 [.tmp 6]),
 oo 8 (.callm 32 [.tmp 7]),
 om 5 8,
 oo 9 (.ext (.tmp 5) 0),
 oo 10 (.ext (.tmp 5) 1),
 om 1 9,
 om 2 10] [5, 6, 7, 8, 9, 10])
 (.seq
 (.region false [
 oo 12 (.callm 32 [.const (.slice none 0 0)]),
 om 11 12,
 oo 13 (.ext (.tmp 11) 0),
 oo 14 (.ext (.tmp 11) 1),
 om 3 13,
 om 4 14] [3, 11, 12, 13, 14])
 (.seq
 (.region false [
 om 15 2,
 om 16 15,
 og 17 (.mov (.tmp 1)) 16 true,
 og 18 (.bin .eql 3 (.tmp 17) (.const (.int .i64 0))) 16 true,
 oo 19 (.pick (.tmp 16) (.tmp 18) (.const (.bool false))),
 om 20 19,
 og 21 (.mov (.tmp 4)) 20 true,
 og 22 (.un .not (.tmp 21)) 20 true,
 oo 23 (.pick (.tmp 20) (.tmp 22) (.const (.bool false))),
 om 0 23] [1, 2, 4, 15, 16, 17, 18, 19, 20, 21, 22, 23])
 .ret))))
abbrev v_q25 : List RV := [.tmp 0]
abbrev f_q25 : FuncId := 28
theorem k_q25 : closedOf Tryz.prog Tryz.f28 = (false, some true, some v_q25, some c_q25.plain, 24) := by kernel_rfl
theorem ac_q25 {args : List AV} {r : AV} (h : aw Tryz.prog c_q25 (env0 args) (endQ v_q25 r)) (hargs : args.length ≤ 24 := by decide) (hok : resOK r = true := by rfl) : AC Tryz.prog f_q25 args r :=
  AC_mk (by kernel_rfl) Tryz.func28 k_q25 hargs hok (by decide) h
def c_q26 : ACode :=
 (.seq
 (.region false [
 oo 2 (.box (.tmp 0)),
 oo 3 (.box (.tmp 1)),
 oo 4 (.mov (.const (.bool false)))] [0, 1, 4])
 (.seq
 (.region false [
 oo 5 (.faddr 0 1 (.tmp 2)),
 oo 6 (.load false 1 (.tmp 5)),
 oo 7 (.faddr 0 1 (.tmp 3)),
 oo 8 (.load false 1 (.tmp 7)),
 oo 9 (.bin .gtr 3 (.tmp 6) (.tmp 8)),
 om 10 9,
 og 11 (.faddr 0 1 (.tmp 2)) 10 false,
 og 12 (.load false 1 (.tmp 11)) 10 false,
 og 13 (.faddr 0 1 (.tmp 3)) 10 false,
 og 14 (.load false 1 (.tmp 13)) 10 false,
 og 15 (.bin .eql 3 (.tmp 12) (.tmp 14)) 10 false,
 og 16 (.mov (.tmp 15)) 10 false,
 og 17 (.faddr 1 1 (.tmp 2)) 16 true,
 og 18 (.load false 1 (.tmp 17)) 16 true,
 og 19 (.faddr 1 1 (.tmp 3)) 16 true,
 og 20 (.load false 1 (.tmp 19)) 16 true,
 og 21 (.bin .gtr 32 (.tmp 18) (.tmp 20)) 16 true,
 og 22 (.pick (.tmp 16) (.tmp 21) (.const (.bool false))) 10 false,
 oo 23 (.pick (.tmp 10) (.const (.bool true)) (.tmp 22)),
 om 4 23] [2, 3, 5, 6, 7, 8, 9, 10, 11, 12, 13, 14, 15, 16, 17, 18, 19, 20, 21, 22, 23])
 .ret))
abbrev v_q26 : List RV := [.tmp 4]
abbrev f_q26 : FuncId := 29
theorem k_q26 : closedOf Tryz.prog Tryz.f29 = (false, some true, some v_q26, some c_q26.plain, 24) := by kernel_rfl
theorem ac_q26 {args : List AV} {r : AV} (h : aw Tryz.prog c_q26 (env0 args) (endQ v_q26 r)) (hargs : args.length ≤ 24 := by decide) (hok : resOK r = true := by rfl) : AC Tryz.prog f_q26 args r :=
  AC_mk (by kernel_rfl) Tryz.func29 k_q26 hargs hok (by decide) h
def c_q27 : ACode :=
 (.seq
 (.region false [
 oo 2 (.box (.tmp 0)),
 oo 3 (.box (.tmp 1)),
 oo 4 (.mov (.const (.bool false)))] [0, 1, 4])
 (.seq
 (.region false [
 oo 5 (.faddr 0 1 (.tmp 2)),
 oo 6 (.load false 1 (.tmp 5)),
 oo 7 (.faddr 0 1 (.tmp 3)),
 oo 8 (.load false 1 (.tmp 7)),
 oo 9 (.bin .gtr 3 (.tmp 6) (.tmp 8)),
 om 10 9,
 og 11 (.faddr 0 1 (.tmp 2)) 10 false,
 og 12 (.load false 1 (.tmp 11)) 10 false,
 og 13 (.faddr 0 1 (.tmp 3)) 10 false,
 og 14 (.load false 1 (.tmp 13)) 10 false,
 og 15 (.bin .eql 3 (.tmp 12) (.tmp 14)) 10 false,
 og 16 (.mov (.tmp 15)) 10 false,
 og 17 (.faddr 1 1 (.tmp 2)) 16 true,
 og 18 (.load false 1 (.tmp 17)) 16 true,
 og 19 (.faddr 1 1 (.tmp 3)) 16 true,
 og 20 (.load false 1 (.tmp 19)) 16 true,
 og 21 (.bin .gtr 32 (.tmp 18) (.tmp 20)) 16 true,
 og 22 (.pick (.tmp 16) (.tmp 21) (.const (.bool false))) 10 false,
 oo 23 (.pick (.tmp 10) (.const (.bool true)) (.tmp 22)),
 om 4 23] [2, 3, 5, 6, 7, 8, 9, 10, 11, 12, 13, 14, 15, 16, 17, 18, 19, 20, 21, 22, 23])
 .ret))
abbrev v_q27 : List RV := [.tmp 4]
abbrev f_q27 : FuncId := 30
theorem k_q27 : closedOf Tryz.prog Tryz.f30 = (false, some true, some v_q27, some c_q27.plain, 24) := by kernel_rfl
theorem ac_q27 {args : List AV} {r : AV} (h : aw Tryz.prog c_q27 (env0 args) (endQ v_q27 r)) (hargs : args.length ≤ 24 := by decide) (hok : resOK r = true := by rfl) : AC Tryz.prog f_q27 args r :=
  AC_mk (by kernel_rfl) Tryz.func30 k_q27 hargs hok (by decide) h
def c_q28 : ACode :=
 (.seq
 (.region false [
 oo 1 (.box (.tmp 0)),
 oo 2 (.alloc [.lit (.int .i64 0), .lit (.int .u32 0)])] [0])
 (.seq
 (.region false [
 oo 3 (.faddr 0 1 (.tmp 1)),
 oo 4 (.load false 1 (.tmp 3)),
 oo 5 (.faddr 1 1 (.tmp 1)),
 oo 6 (.load false 1 (.tmp 5)),
 oo 7 (.build [.lit (.int .i64 0), .lit (.int .u32 0)] [(0, 1, .tmp 4), (1, 1, .tmp 6)]),
 ⟨none, .store 2 (.tmp 2) (.tmp 7), none⟩] [1, 3, 4, 5, 6, 7])
 .ret))
abbrev v_q28 : List RV := [.cell true 2 2]
abbrev f_q28 : FuncId := 31
theorem k_q28 : closedOf Tryz.prog Tryz.f31 = (false, some true, some v_q28, some c_q28.plain, 8) := by kernel_rfl
theorem ac_q28 {args : List AV} {r : AV} (h : aw Tryz.prog c_q28 (env0 args) (endQ v_q28 r)) (hargs : args.length ≤ 8 := by decide) (hok : resOK r = true := by rfl) : AC Tryz.prog f_q28 args r :=
  AC_mk (by kernel_rfl) Tryz.func31 k_q28 hargs hok (by decide) h
def c_q29 : ACode :=
 (.seq
 (.region false [
 oo 2 (.mov (.const (.int .i64 0))),
 oo 3 (.mov (.const (.bool false)))] [2, 3])
 (.seq
 (.region false [
 oo 4 (.mov (.const (.int .i64 0)))] [])
 (.seq
 (.seq
 (.region false [
 om 7 0,
 oo 8 (.lenl (.tmp 7)),
 oo 9 (.mov (.const (.int .i64 0)))] [])
 (.block 0
 (.loop
 (.seq
 (.region false [
 oo 10 (.bin .lss 3 (.tmp 9) (.tmp 8))] [])
 (.seq
 (.cond (.tmp 10)
 .skip
 (.exit 0))
 (.seq
 (.block 1
 (.seq
 (.region false [
 om 11 9,
 oo 12 (.iaddr 2 (.tmp 7) (.tmp 9)),
 oo 13 (.load true 2 (.tmp 12)),
 oo 6 (.alloc [.lit (.int .i64 0), .lit (.int .u32 0)]),
 om 5 11,
 ⟨none, .store 2 (.tmp 6) (.tmp 13), none⟩] [10, 11, 12, 13])
 (.seq
 (.region true [
 oo 14 (.load true 2 (.tmp 6)),
 om 15 0,
 om 16 4,
 oo 17 (.iaddr 2 (.tmp 15) (.tmp 16)),
 oo 18 (.load true 2 (.tmp 17)),
 oo 19 (.call 29 [.tmp 14, .tmp 18])] [6, 14, 15, 16, 17, 18])
 (.cond (.tmp 19)
 (.region false [
 om 20 5,
 om 4 20] [5, 19, 20])
 .skip))) [5, 19])
 (.region false [
 oo 21 (.bin .add 3 (.tmp 9) (.const (.int .i64 1))),
 om 9 21] [21])))) [] [6]) [7, 8, 9, 10]))
 (.seq
 (.region false [
 om 22 4,
 om 23 0,
 oo 24 (.lenl (.tmp 23)),
 oo 25 (.bin .gtr 3 (.tmp 24) (.const (.int .i64 0))),
 om 2 22,
 om 3 25] [0, 4, 22, 23, 24, 25])
 .ret))))
abbrev v_q29 : List RV := [.tmp 2, .tmp 3]
abbrev f_q29 : FuncId := 32
theorem k_q29 : closedOf Tryz.prog Tryz.f32 = (false, some true, some v_q29, some c_q29.plain, 26) := by kernel_rfl
theorem ac_q29 {args : List AV} {r : AV} (h : aw Tryz.prog c_q29 (env0 args) (endQ v_q29 r)) (hargs : args.length ≤ 26 := by decide) (hok : resOK r = true := by rfl) : AC Tryz.prog f_q29 args r :=
  AC_mk (by kernel_rfl) Tryz.func32 k_q29 hargs hok (by decide) h
def c_q30 : ACode :=
 (.seq
 (.region false [
 oo 4 (.mov (.const (.int .i64 0))),
 oo 5 (.mov (.const (.bool false)))] [4, 5])
 (.seq
 (.region false [
 om 13 0,
 oo 14 (.callm 57 [.tmp 13]),
 om 6 14] [13, 14])
 (.seq
 (.region false [
 om 15 0,
 om 16 1,
 oo 17 (.callm 25 [.tmp 15, .tmp 16]),
 om 7 17] [0, 1, 15, 16, 17])
 (.seq
 (.region false [
 oo 8 (.mov (.const (.slice none 0 0)))] [])
 (.seq
 (.seq
 (.region false [
 om 18 7,
 oo 19 (.lenl (.tmp 18)),
 oo 20 (.mov (.const (.int .i64 0)))] [])
 (.block 0
 (.loop
 (.seq
 (.region false [
 oo 21 (.bin .lss 3 (.tmp 20) (.tmp 19))] [])
 (.seq
 (.cond (.tmp 21)
 .skip
 (.exit 0))
 (.seq
 (.block 1
 (.seq
 (.region false [
 oo 22 (.iaddr 1 (.tmp 18) (.tmp 20)),
 oo 23 (.load false 1 (.tmp 22)),
 om 10 23] [21, 22, 23])
 (.region true [
 om 24 8,
 om 25 6,
 oo 26 (.nilchk (.tmp 25)),
 oo 27 (.faddr 0 1 (.tmp 26)),
 oo 28 (.loadc false 1 (.tmp 27)),
 om 29 6,
 oo 30 (.nilchk (.tmp 29)),
 oo 31 (.faddr 2 1 (.tmp 30)),
 oo 32 (.loadc false 1 (.tmp 31)),
 om 33 10,
 oo 34 (.iaddr 3 (.tmp 32) (.tmp 33)),
 oo 35 (.faddr 0 1 (.tmp 34)),
 oo 36 (.loadc false 1 (.tmp 35)),
 oo 37 (.iaddr 2 (.tmp 28) (.tmp 36)),
 oo 38 (.faddr 1 1 (.tmp 37)),
 oo 39 (.loadc false 1 (.tmp 38)),
 om 40 6,
 oo 41 (.nilchk (.tmp 40)),
 oo 42 (.faddr 2 1 (.tmp 41)),
 oo 43 (.loadc false 1 (.tmp 42)),
 om 44 10,
 oo 45 (.iaddr 3 (.tmp 43) (.tmp 44)),
 oo 46 (.faddr 2 1 (.tmp 45)),
 oo 47 (.loadc false 1 (.tmp 46)),
 oo 48 (.build [.lit (.int .i64 0), .lit (.int .u32 0)] [(0, 1, .tmp 39), (1, 1, .tmp 47)]),
 oo 49 (.bslice 1 2 [.tmp 48]),
 oo 50 (.app 2 16 [] (.tmp 24) (.tmp 49)),
 om 8 50] [10, 24, 25, 26, 27, 28, 29, 30, 31, 32, 33, 34, 35, 36, 37, 38, 39, 40, 41, 42, 43, 44, 45, 46, 47, 48, 49, 50])) [])
 (.region false [
 oo 51 (.bin .add 3 (.tmp 20) (.const (.int .i64 1))),
 om 20 51] [51])))) [] []) [6, 18, 19, 20, 21]))
 (.seq
 (.region false [
 om 53 8,
 oo 54 (.callm 32 [.tmp 53]),
 om 52 54,
 oo 55 (.ext (.tmp 52) 0),
 oo 56 (.ext (.tmp 52) 1),
 om 11 55,
 om 12 56] [8, 52, 53, 54, 55, 56])
 (.seq
 (.seq
 (.region false [
 om 57 12,
 oo 58 (.un .not (.tmp 57))] [12, 57])
 (.cond (.tmp 58)
 (.seq
 (.region false [
 oo 4 (.mov (.const (.int .i64 0))),
 oo 5 (.mov (.const (.bool false)))] [7, 11, 58])
 .ret)
 .skip))
 (.seq
 (.region false [
 om 59 7,
 om 60 11,
 oo 61 (.iaddr 1 (.tmp 59) (.tmp 60)),
 oo 62 (.load false 1 (.tmp 61)),
 om 4 62,
 oo 5 (.mov (.const (.bool true)))] [7, 11, 58, 59, 60, 61, 62])
 .ret))))))))
abbrev v_q30 : List RV := [.tmp 4, .tmp 5]
abbrev f_q30 : FuncId := 33
theorem k_q30 : closedOf Tryz.prog Tryz.f33 = (false, some true, some v_q30, some c_q30.plain, 63) := by kernel_rfl
theorem ac_q30 {args : List AV} {r : AV} (h : aw Tryz.prog c_q30 (env0 args) (endQ v_q30 r)) (hargs : args.length ≤ 63 := by decide) (hok : resOK r = true := by rfl) : AC Tryz.prog f_q30 args r :=
  AC_mk (by kernel_rfl) Tryz.func33 k_q30 hargs hok (by decide) h
def c_q31 : ACode :=
 (.seq
 (.region false [
 oo 2 (.box (.tmp 0)),
 oo 4 (.mov (.const (.int .i64 0)))] [0, 4])
 (.seq
 (.region false [
 oo 5 (.mov (.const (.int .i64 (-1))))] [])
 (.seq
 (.region false [
 oo 8 (.load true 7 (.tmp 2)),
 om 9 1,
 oo 10 (.callm 38 [.tmp 8, .tmp 9]),
 om 6 10] [1, 8, 9, 10])
 (.seq
 (.seq
 (.region false [
 oo 7 (.mov (.const (.int .i64 0)))] [])
 (.block 0
 (.loop
 (.seq
 (.seq
 (.region false [
 om 11 7,
 om 12 6,
 oo 13 (.lenl (.tmp 12)),
 oo 14 (.bin .lss 3 (.tmp 11) (.tmp 13))] [11, 12, 13])
 (.cond (.tmp 14)
 .skip
 (.exit 0)))
 (.seq
 (.block 1
 (.seq
 (.region true [
 om 17 5,
 oo 18 (.bin .lss 3 (.tmp 17) (.const (.int .i64 0))),
 om 19 18,
 og 20 (.load true 7 (.tmp 2)) 19 false,
 og 21 (.mov (.tmp 6)) 19 false,
 og 22 (.mov (.tmp 7)) 19 false,
 og 23 (.iaddr 1 (.tmp 21) (.tmp 22)) 19 false,
 og 24 (.load false 1 (.tmp 23)) 19 false,
 og 25 (.call 70 [.tmp 20, .tmp 24]) 19 false,
 og 26 (.load true 7 (.tmp 2)) 19 false,
 og 27 (.mov (.tmp 5)) 19 false,
 og 28 (.call 70 [.tmp 26, .tmp 27]) 19 false,
 og 29 (.call 30 [.tmp 25, .tmp 28]) 19 false,
 oo 30 (.pick (.tmp 19) (.const (.bool true)) (.tmp 29))] [14, 17, 18, 19, 20, 21, 22, 23, 24, 25, 26, 27, 28, 29])
 (.cond (.tmp 30)
 (.region false [
 om 31 6,
 om 32 7,
 oo 33 (.iaddr 1 (.tmp 31) (.tmp 32)),
 oo 34 (.load false 1 (.tmp 33)),
 om 5 34] [30, 31, 32, 33, 34])
 .skip)) [30])
 (.region false [
 om 15 7,
 oo 16 (.bin .add 3 (.tmp 15) (.const (.int .i64 1))),
 om 7 16] [15, 16]))) [] []) [2, 6, 7, 14]))
 (.seq
 (.region false [
 om 35 5,
 om 4 35] [5, 35])
 .ret)))))
abbrev v_q31 : List RV := [.tmp 4]
abbrev f_q31 : FuncId := 34
theorem k_q31 : closedOf Tryz.prog Tryz.f34 = (false, some true, some v_q31, some c_q31.plain, 36) := by kernel_rfl
theorem ac_q31 {args : List AV} {r : AV} (h : aw Tryz.prog c_q31 (env0 args) (endQ v_q31 r)) (hargs : args.length ≤ 36 := by decide) (hok : resOK r = true := by rfl) : AC Tryz.prog f_q31 args r :=
  AC_mk (by kernel_rfl) Tryz.func34 k_q31 hargs hok (by decide) h
def c_q35 : ACode :=
 (.seq
 (.region false [
 oo 2 (.box (.tmp 0)),
 oo 4 (.mov (.const (.slice none 0 0)))] [0, 4])
 (.seq
 (.region false [
 oo 5 (.mov (.const (.slice none 0 0)))] [])
 (.seq
 (.seq
 (.region false [
 oo 6 (.mov (.const (.int .i64 0)))] [])
 (.block 0
 (.loop
 (.seq
 (.seq
 (.region false [
 om 7 6,
 oo 8 (.faddr 2 1 (.tmp 2)),
 oo 9 (.load false 1 (.tmp 8)),
 oo 10 (.lenl (.tmp 9)),
 oo 11 (.bin .lss 3 (.tmp 7) (.tmp 10))] [7, 8, 9, 10])
 (.cond (.tmp 11)
 .skip
 (.exit 0)))
 (.seq
 (.block 1
 (.seq
 (.region false [
 oo 14 (.faddr 2 1 (.tmp 2)),
 oo 15 (.load false 1 (.tmp 14)),
 om 16 6,
 oo 17 (.iaddr 3 (.tmp 15) (.tmp 16)),
 oo 18 (.faddr 1 1 (.tmp 17)),
 oo 19 (.load false 1 (.tmp 18)),
 om 20 1,
 oo 21 (.bin .eql 3 (.tmp 19) (.tmp 20))] [11, 14, 15, 16, 17, 18, 19, 20])
 (.cond (.tmp 21)
 (.region false [
 om 22 5,
 om 23 6,
 oo 24 (.bslice 1 1 [.tmp 23]),
 oo 25 (.app 1 8 [] (.tmp 22) (.tmp 24)),
 om 5 25] [21, 22, 23, 24, 25])
 .skip)) [21])
 (.region false [
 om 12 6,
 oo 13 (.bin .add 3 (.tmp 12) (.const (.int .i64 1))),
 om 6 13] [12, 13]))) [] []) [1, 2, 6, 11]))
 (.seq
 (.region false [
 om 26 5,
 om 4 26] [5, 26])
 .ret))))
abbrev v_q35 : List RV := [.tmp 4]
abbrev f_q35 : FuncId := 38
theorem k_q35 : closedOf Tryz.prog Tryz.f38 = (false, some true, some v_q35, some c_q35.plain, 27) := by kernel_rfl
theorem ac_q35 {args : List AV} {r : AV} (h : aw Tryz.prog c_q35 (env0 args) (endQ v_q35 r)) (hargs : args.length ≤ 27 := by decide) (hok : resOK r = true := by rfl) : AC Tryz.prog f_q35 args r :=
  AC_mk (by kernel_rfl) Tryz.func38 k_q35 hargs hok (by decide) h
def c_q45 : ACode :=
 (.seq
 (.region false [
 oo 0 (.mov (.const (.bool false)))] [0])
 (.seq
 (.region false [
 oo 2 (.build [.lit (.int .i64 0), .lit (.int .i64 0)] []),
 oo 3 (.callm 50 [.tmp 2, .const (.int .u32 5), .const (.slice none 0 0)]),
 oo 1 (.alloc [.lit (.int .i64 0), .lit (.int .i64 0)]),
 ⟨none, .store 2 (.tmp 1) (.tmp 3), none⟩] [2, 3])
 (.seq
 (.region false [
 oo 4 (.faddr 0 1 (.tmp 1)),
 oo 5 (.load false 1 (.tmp 4)),
 oo 6 (.bin .eql 3 (.tmp 5) (.const (.int .i64 1))),
 om 7 6,
 og 8 (.faddr 1 1 (.tmp 1)) 7 true,
 og 9 (.load false 1 (.tmp 8)) 7 true,
 og 10 (.bin .eql 3 (.tmp 9) (.const (.int .i64 0))) 7 true,
 oo 11 (.pick (.tmp 7) (.tmp 10) (.const (.bool false))),
 om 0 11] [1, 4, 5, 6, 7, 8, 9, 10, 11])
 .ret)))
abbrev v_q45 : List RV := [.tmp 0]
abbrev f_q45 : FuncId := 48
theorem k_q45 : closedOf Tryz.prog Tryz.f48 = (false, some true, some v_q45, some c_q45.plain, 12) := by kernel_rfl
theorem ac_q45 {args : List AV} {r : AV} (h : aw Tryz.prog c_q45 (env0 args) (endQ v_q45 r)) (hargs : args.length ≤ 12 := by decide) (hok : resOK r = true := by rfl) : AC Tryz.prog f_q45 args r :=
  AC_mk (by kernel_rfl) Tryz.func48 k_q45 hargs hok (by decide) h
def c_q46 : ACode :=
 (.seq
 (.region false [
 oo 2 (.mov (.const (.int .i64 0))),
 oo 3 (.mov (.const (.bool false)))] [2, 3])
 (.seq
 (.seq
 (.region false [
 om 4 0,
 oo 5 (.lenl (.tmp 4)),
 oo 6 (.bin .eql 3 (.tmp 5) (.const (.int .i64 0)))] [4, 5])
 (.cond (.tmp 6)
 (.seq
 (.region false [
 oo 2 (.mov (.const (.int .i64 0))),
 oo 3 (.mov (.const (.bool false)))] [0, 6])
 .ret)
 .skip))
 (.seq
 (.region false [
 om 7 0,
 om 8 0,
 oo 9 (.callm 83 [.tmp 8]),
 oo 10 (.callm 82 [.tmp 7, .tmp 9]),
 om 2 10,
 oo 3 (.mov (.const (.bool true)))] [0, 6, 7, 8, 9, 10])
 .ret)))
abbrev v_q46 : List RV := [.tmp 2, .tmp 3]
abbrev f_q46 : FuncId := 49
theorem k_q46 : closedOf Tryz.prog Tryz.f49 = (false, some true, some v_q46, some c_q46.plain, 11) := by kernel_rfl
theorem ac_q46 {args : List AV} {r : AV} (h : aw Tryz.prog c_q46 (env0 args) (endQ v_q46 r)) (hargs : args.length ≤ 11 := by decide) (hok : resOK r = true := by rfl) : AC Tryz.prog f_q46 args r :=
  AC_mk (by kernel_rfl) Tryz.func49 k_q46 hargs hok (by decide) h
def c_q47 : ACode :=
 (.seq
 (.region false [
 oo 3 (.box (.tmp 0)),
 oo 4 (.box (.tmp 1)),
 oo 6 (.alloc [.lit (.int .i64 0), .lit (.int .i64 0)])] [0, 1])
 (.seq
 (.seq
 (.region false [
 om 7 2,
 oo 8 (.mkfn (.func 85) [] [.tmp 4]),
 oo 9 (.callm 84 [.tmp 7, .tmp 8])] [2, 4, 7, 8])
 (.cond (.tmp 9)
 (.seq
 (.region false [
 oo 10 (.build [.lit (.int .i64 0), .lit (.int .i64 0)] [(0, 1, .const (.int .i64 0)), (1, 1, .const (.int .i64 3))]),
 ⟨none, .store 2 (.tmp 6) (.tmp 10), none⟩] [3, 9, 10])
 .ret)
 .skip))
 (.seq
 (.seq
 (.region false [
 oo 11 (.faddr 1 1 (.tmp 3)),
 oo 12 (.load false 1 (.tmp 11)),
 oo 13 (.bin .gtr 3 (.tmp 12) (.const (.int .i64 1)))] [9, 11, 12])
 (.cond (.tmp 13)
 (.seq
 (.region false [
 oo 14 (.faddr 1 1 (.tmp 3)),
 oo 15 (.load false 1 (.tmp 14)),
 oo 16 (.bin .sub 3 (.tmp 15) (.const (.int .i64 1))),
 oo 17 (.build [.lit (.int .i64 0), .lit (.int .i64 0)] [(0, 1, .const (.int .i64 0)), (1, 1, .tmp 16)]),
 ⟨none, .store 2 (.tmp 6) (.tmp 17), none⟩] [3, 13, 14, 15, 16, 17])
 .ret)
 .skip))
 (.seq
 (.region false [
 oo 18 (.build [.lit (.int .i64 0), .lit (.int .i64 0)] [(0, 1, .const (.int .i64 1)), (1, 1, .const (.int .i64 0))]),
 ⟨none, .store 2 (.tmp 6) (.tmp 18), none⟩] [3, 13, 18])
 .ret))))
abbrev v_q47 : List RV := [.cell true 2 6]
abbrev f_q47 : FuncId := 50
theorem k_q47 : closedOf Tryz.prog Tryz.f50 = (false, some true, some v_q47, some c_q47.plain, 19) := by kernel_rfl
theorem ac_q47 {args : List AV} {r : AV} (h : aw Tryz.prog c_q47 (env0 args) (endQ v_q47 r)) (hargs : args.length ≤ 19 := by decide) (hok : resOK r = true := by rfl) : AC Tryz.prog f_q47 args r :=
  AC_mk (by kernel_rfl) Tryz.func50 k_q47 hargs hok (by decide) h
def c_q48 : ACode :=
 (.seq
 (.region false [
 oo 4 (.mov (.const (.int .i64 0))),
 oo 5 (.mov (.const (.bool false)))] [4, 5])
 (.seq
 (.region false [
 om 12 0,
 om 13 1,
 oo 14 (.callm 25 [.tmp 12, .tmp 13]),
 om 6 14] [1, 12, 13, 14])
 (.seq
 (.region false [
 oo 7 (.mov (.const (.slice none 0 0)))] [])
 (.seq
 (.seq
 (.region false [
 om 15 6,
 oo 16 (.lenl (.tmp 15)),
 oo 17 (.mov (.const (.int .i64 0)))] [])
 (.block 0
 (.loop
 (.seq
 (.region false [
 oo 18 (.bin .lss 3 (.tmp 17) (.tmp 16))] [])
 (.seq
 (.cond (.tmp 18)
 .skip
 (.exit 0))
 (.seq
 (.block 1
 (.seq
 (.region false [
 oo 19 (.iaddr 1 (.tmp 15) (.tmp 17)),
 oo 20 (.load false 1 (.tmp 19)),
 om 9 20] [18, 19, 20])
 (.region false [
 om 21 7,
 om 22 0,
 oo 23 (.callm 57 [.tmp 22]),
 oo 24 (.nilchk (.tmp 23)),
 oo 25 (.faddr 2 1 (.tmp 24)),
 oo 26 (.load false 1 (.tmp 25)),
 om 27 9,
 oo 28 (.iaddr 3 (.tmp 26) (.tmp 27)),
 oo 29 (.faddr 2 1 (.tmp 28)),
 oo 30 (.load false 1 (.tmp 29)),
 oo 31 (.bslice 1 1 [.tmp 30]),
 oo 32 (.app 1 4 [] (.tmp 21) (.tmp 31)),
 om 7 32] [9, 21, 22, 23, 24, 25, 26, 27, 28, 29, 30, 31, 32])) [])
 (.region false [
 oo 33 (.bin .add 3 (.tmp 17) (.const (.int .i64 1))),
 om 17 33] [33])))) [] []) [0, 15, 16, 17, 18]))
 (.seq
 (.region false [
 om 35 7,
 oo 36 (.callm 49 [.tmp 35]),
 om 34 36,
 oo 37 (.ext (.tmp 34) 0),
 oo 38 (.ext (.tmp 34) 1),
 om 10 37,
 om 11 38] [7, 34, 35, 36, 37, 38])
 (.seq
 (.seq
 (.region false [
 om 39 11,
 oo 40 (.un .not (.tmp 39))] [11, 39])
 (.cond (.tmp 40)
 (.seq
 (.region false [
 oo 4 (.mov (.const (.int .i64 0))),
 oo 5 (.mov (.const (.bool false)))] [6, 10, 40])
 .ret)
 .skip))
 (.seq
 (.region false [
 om 41 6,
 om 42 10,
 oo 43 (.iaddr 1 (.tmp 41) (.tmp 42)),
 oo 44 (.load false 1 (.tmp 43)),
 om 4 44,
 oo 5 (.mov (.const (.bool true)))] [6, 10, 40, 41, 42, 43, 44])
 .ret)))))))
abbrev v_q48 : List RV := [.tmp 4, .tmp 5]
abbrev f_q48 : FuncId := 51
theorem k_q48 : closedOf Tryz.prog Tryz.f51 = (false, some true, some v_q48, some c_q48.plain, 45) := by kernel_rfl
theorem ac_q48 {args : List AV} {r : AV} (h : aw Tryz.prog c_q48 (env0 args) (endQ v_q48 r)) (hargs : args.length ≤ 45 := by decide) (hok : resOK r = true := by rfl) : AC Tryz.prog f_q48 args r :=
  AC_mk (by kernel_rfl) Tryz.func51 k_q48 hargs hok (by decide) h
def c_q50 : ACode :=
 (.seq
 (.region false [
 oo 1 (.box (.tmp 0)),
 oo 2 (.mov (.const (.nilIface)))] [0, 2])
 (.seq
 (.region false [
 oo 8 (.load true 7 (.tmp 1)),
 oo 9 (.build [.sl .nil 0 [], .sl .nil 0 [], .sl .nil 0 [], .sl .nil 0 [], .sl .nil 0 [], .sl .nil 0 [], .sl .nil 0 []] [(0, 7, .tmp 8)]),
 oo 3 (.alloc [.sl .nil 0 [], .sl .nil 0 [], .sl .nil 0 [], .sl .nil 0 [], .sl .nil 0 [], .sl .nil 0 [], .sl .nil 0 []]),
 ⟨none, .store 7 (.tmp 3) (.tmp 9), none⟩] [8, 9])
 (.seq
 (.seq
 (.region false [
 oo 10 (.faddr 0 1 (.tmp 1)),
 oo 11 (.load false 1 (.tmp 10)),
 oo 12 (.lenl (.tmp 11)),
 oo 13 (.load true 7 (.tmp 3)),
 oo 14 (.mkfn (.func 86) [.tmp 13] []),
 oo 15 (.build [.lit (.int .i64 0), .lit (.int .i64 0), .lit (.nilFunc)] [(0, 1, .tmp 12), (1, 1, .const (.int .i64 16)), (2, 1, .tmp 14)]),
 oo 16 (.faddr 1 1 (.tmp 1)),
 oo 17 (.load false 1 (.tmp 16)),
 oo 18 (.lenl (.tmp 17)),
 oo 19 (.load true 7 (.tmp 3)),
 oo 20 (.mkfn (.func 87) [.tmp 19] []),
 oo 21 (.build [.lit (.int .i64 0), .lit (.int .i64 0), .lit (.nilFunc)] [(0, 1, .tmp 18), (1, 1, .const (.int .i64 24)), (2, 1, .tmp 20)]),
 oo 22 (.faddr 2 1 (.tmp 1)),
 oo 23 (.load false 1 (.tmp 22)),
 oo 24 (.lenl (.tmp 23)),
 oo 25 (.load true 7 (.tmp 3)),
 oo 26 (.mkfn (.func 88) [.tmp 25] []),
 oo 27 (.build [.lit (.int .i64 0), .lit (.int .i64 0), .lit (.nilFunc)] [(0, 1, .tmp 24), (1, 1, .const (.int .i64 64)), (2, 1, .tmp 26)]),
 oo 28 (.faddr 3 1 (.tmp 1)),
 oo 29 (.load false 1 (.tmp 28)),
 oo 30 (.lenl (.tmp 29)),
 oo 31 (.load true 7 (.tmp 3)),
 oo 32 (.mkfn (.func 89) [.tmp 31] []),
 oo 33 (.build [.lit (.int .i64 0), .lit (.int .i64 0), .lit (.nilFunc)] [(0, 1, .tmp 30), (1, 1, .const (.int .i64 96)), (2, 1, .tmp 32)]),
 oo 34 (.faddr 4 1 (.tmp 1)),
 oo 35 (.load false 1 (.tmp 34)),
 oo 36 (.lenl (.tmp 35)),
 oo 37 (.load true 7 (.tmp 3)),
 oo 38 (.mkfn (.func 90) [.tmp 37] []),
 oo 39 (.build [.lit (.int .i64 0), .lit (.int .i64 0), .lit (.nilFunc)] [(0, 1, .tmp 36), (1, 1, .const (.int .i64 8)), (2, 1, .tmp 38)]),
 oo 40 (.faddr 5 1 (.tmp 1)),
 oo 41 (.load false 1 (.tmp 40)),
 oo 42 (.lenl (.tmp 41)),
 oo 43 (.load true 7 (.tmp 3)),
 oo 44 (.mkfn (.func 91) [.tmp 43] []),
 oo 45 (.build [.lit (.int .i64 0), .lit (.int .i64 0), .lit (.nilFunc)] [(0, 1, .tmp 42), (1, 1, .const (.int .i64 8)), (2, 1, .tmp 44)]),
 oo 46 (.faddr 6 1 (.tmp 1)),
 oo 47 (.load false 1 (.tmp 46)),
 oo 48 (.lenl (.tmp 47)),
 oo 49 (.load true 7 (.tmp 3)),
 oo 50 (.mkfn (.func 92) [.tmp 49] []),
 oo 51 (.build [.lit (.int .i64 0), .lit (.int .i64 0), .lit (.nilFunc)] [(0, 1, .tmp 48), (1, 1, .const (.int .i64 24)), (2, 1, .tmp 50)]),
 oo 52 (.bslice 7 3 [.tmp 15, .tmp 21, .tmp 27, .tmp 33, .tmp 39, .tmp 45, .tmp 51]),
 oo 53 (.lenl (.tmp 52)),
 oo 54 (.mov (.const (.int .i64 0)))] [1, 3, 10, 11, 12, 13, 14, 15, 16, 17, 18, 19, 20, 21, 22, 23, 24, 25, 26, 27, 28, 29, 30, 31, 32, 33, 34, 35, 36, 37, 38, 39, 40, 41, 42, 43, 44, 45, 46, 47, 48, 49, 50, 51])
 (.block 0
 (.loop
 (.seq
 (.region false [
 oo 55 (.bin .lss 3 (.tmp 54) (.tmp 53))] [])
 (.seq
 (.cond (.tmp 55)
 .skip
 (.exit 0))
 (.seq
 (.block 1
 (.seq
 (.region false [
 oo 56 (.iaddr 3 (.tmp 52) (.tmp 54)),
 oo 57 (.load true 3 (.tmp 56)),
 oo 5 (.alloc [.lit (.int .i64 0), .lit (.int .i64 0), .lit (.nilFunc)]),
 ⟨none, .store 3 (.tmp 5) (.tmp 57), none⟩] [55, 56, 57])
 (.seq
 (.region false [
 oo 58 (.faddr 0 1 (.tmp 5)),
 oo 59 (.load false 1 (.tmp 58)),
 oo 60 (.mov (.const (.int .i64 0)))] [58])
 (.block 2
 (.loop
 (.seq
 (.region false [
 oo 61 (.bin .lss 3 (.tmp 60) (.tmp 59))] [])
 (.seq
 (.cond (.tmp 61)
 .skip
 (.exit 2))
 (.seq
 (.block 3
 (.seq
 (.region false [
 om 62 60,
 om 6 62] [61, 62])
 (.seq
 (.seq
 (.region false [
 om 63 6,
 oo 64 (.faddr 1 1 (.tmp 5)),
 oo 65 (.load false 1 (.tmp 64)),
 oo 66 (.bin .geq 3 (.tmp 63) (.tmp 65))] [63, 64, 65])
 (.cond (.tmp 66)
 (.seq
 (.region false [
 oo 67 (.load false 1 (.global 0)),
 om 2 67] [5, 6, 52, 53, 54, 59, 60, 66, 67])
 .ret)
 .skip))
 (.seq
 (.region false [
 oo 68 (.faddr 2 1 (.tmp 5)),
 oo 69 (.load false 1 (.tmp 68)),
 om 70 6,
 oo 71 (.callvm (.tmp 69) [.tmp 70]),
 om 7 71] [6, 66, 68, 69, 70, 71])
 (.seq
 (.region false [
 om 72 7,
 oo 73 (.eqn true (.tmp 72))] [72])
 (.cond (.tmp 73)
 (.seq
 (.region false [
 om 74 7,
 om 2 74] [5, 7, 52, 53, 54, 59, 60, 73, 74])
 .ret)
 .skip))))) [7, 73])
 (.region false [
 oo 75 (.bin .add 3 (.tmp 60) (.const (.int .i64 1))),
 om 60 75] [75])))) [] []) [5, 59, 60, 61]))) [])
 (.region false [
 oo 76 (.bin .add 3 (.tmp 54) (.const (.int .i64 1))),
 om 54 76] [76])))) [] [5]) [52, 53, 54, 55]))
 (.seq
 (.region false [
 oo 2 (.mov (.const (.nilIface)))] [])
 .ret))))
abbrev v_q50 : List RV := [.tmp 2]
abbrev f_q50 : FuncId := 53
theorem k_q50 : closedOf Tryz.prog Tryz.f53 = (false, some true, some v_q50, some c_q50.plain, 77) := by kernel_rfl
theorem ac_q50 {args : List AV} {r : AV} (h : aw Tryz.prog c_q50 (env0 args) (endQ v_q50 r)) (hargs : args.length ≤ 77 := by decide) (hok : resOK r = true := by rfl) : AC Tryz.prog f_q50 args r :=
  AC_mk (by kernel_rfl) Tryz.func53 k_q50 hargs hok (by decide) h
def c_q51 : ACode :=
 (.seq
 (.region false [
 oo 1 (.box (.tmp 0)),
 oo 2 (.alloc [.sl .nil 0 [], .sl .nil 0 [], .sl .nil 0 [], .sl .nil 0 [], .sl .nil 0 [], .sl .nil 0 [], .sl .nil 0 []])] [0])
 (.seq
 (.region true [
 oo 5 (.faddr 0 1 (.tmp 1)),
 oo 6 (.load false 1 (.tmp 5)),
 oo 7 (.call 93 [.tmp 6]),
 oo 8 (.faddr 1 1 (.tmp 1)),
 oo 9 (.load false 1 (.tmp 8)),
 oo 10 (.call 94 [.tmp 9]),
 oo 11 (.faddr 2 1 (.tmp 1)),
 oo 12 (.load false 1 (.tmp 11)),
 oo 13 (.call 95 [.tmp 12]),
 oo 14 (.faddr 3 1 (.tmp 1)),
 oo 15 (.load false 1 (.tmp 14)),
 oo 16 (.call 96 [.tmp 15]),
 oo 17 (.faddr 4 1 (.tmp 1)),
 oo 18 (.load false 1 (.tmp 17)),
 oo 19 (.call 97 [.tmp 18]),
 oo 20 (.faddr 5 1 (.tmp 1)),
 oo 21 (.load false 1 (.tmp 20)),
 oo 22 (.call 98 [.tmp 21]),
 oo 23 (.faddr 6 1 (.tmp 1)),
 oo 24 (.load false 1 (.tmp 23)),
 oo 25 (.call 99 [.tmp 24]),
 oo 26 (.build [.sl .nil 0 [], .sl .nil 0 [], .sl .nil 0 [], .sl .nil 0 [], .sl .nil 0 [], .sl .nil 0 [], .sl .nil 0 []] [(0, 1, .tmp 7), (1, 1, .tmp 10), (2, 1, .tmp 13), (3, 1, .tmp 16), (4, 1, .tmp 19), (5, 1, .tmp 22), (6, 1, .tmp 25)]),
 oo 3 (.alloc [.sl .nil 0 [], .sl .nil 0 [], .sl .nil 0 [], .sl .nil 0 [], .sl .nil 0 [], .sl .nil 0 [], .sl .nil 0 []]),
 ⟨none, .store 7 (.tmp 3) (.tmp 26), none⟩] [1, 5, 6, 7, 8, 9, 10, 11, 12, 13, 14, 15, 16, 17, 18, 19, 20, 21, 22, 23, 24, 25, 26])
 (.seq
 (.seq
 (.shift
 (.region false [
 oo 27 (.faddr 6 1 (.tmp 3)),
 oo 28 (.load false 1 (.tmp 27)),
 oo 29 (.lenl (.tmp 28)),
 oo 30 (.mov (.const (.int .i64 0)))] [27, 28]))
 (.block 0
 (.loop
 (.seq
 (.region false [
 oo 31 (.bin .lss 3 (.tmp 30) (.tmp 29))] [])
 (.seq
 (.cond (.tmp 31)
 .skip
 (.exit 0))
 (.seq
 (.block 1
 (.seq
 (.region false [
 om 32 30,
 om 4 32] [31, 32])
 (.region true [
 oo 33 (.faddr 6 1 (.tmp 3)),
 oo 34 (.load false 1 (.tmp 33)),
 om 35 4,
 oo 36 (.faddr 6 1 (.tmp 3)),
 oo 37 (.load false 1 (.tmp 36)),
 om 38 4,
 oo 39 (.iaddr 4 (.tmp 37) (.tmp 38)),
 oo 40 (.faddr 3 1 (.tmp 39)),
 oo 41 (.load false 1 (.tmp 40)),
 oo 42 (.call 73 [.tmp 41]),
 oo 43 (.iaddr 4 (.tmp 34) (.tmp 35)),
 oo 44 (.faddr 3 1 (.tmp 43)),
 ⟨none, .store 1 (.tmp 44) (.tmp 42), none⟩] [4, 33, 34, 35, 36, 37, 38, 39, 40, 41, 42, 43, 44])) [])
 (.region false [
 oo 45 (.bin .add 3 (.tmp 30) (.const (.int .i64 1))),
 om 30 45] [45])))) [] []) [29, 30, 31]))
 (.seq
 (.region false [
 oo 46 (.load true 7 (.tmp 3)),
 ⟨none, .store 7 (.tmp 2) (.tmp 46), none⟩] [3, 46])
 .ret))))
abbrev v_q51 : List RV := [.cell true 7 2]
abbrev f_q51 : FuncId := 54
theorem k_q51 : closedOf Tryz.prog Tryz.f54 = (false, some true, some v_q51, some c_q51.plain, 47) := by kernel_rfl
theorem ac_q51 {args : List AV} {r : AV} (h : aw Tryz.prog c_q51 (env0 args) (endQ v_q51 r)) (hargs : args.length ≤ 47 := by decide) (hok : resOK r = true := by rfl) : AC Tryz.prog f_q51 args r :=
  AC_mk (by kernel_rfl) Tryz.func54 k_q51 hargs hok (by decide) h
def c_q52 : ACode :=
 (.seq
 (.region false [
 om 3 0,
 oo 4 (.lenl (.tmp 3)),
 om 2 4] [3, 4])
 (.region false [
 om 5 0,
 om 6 2,
 om 7 2,
 oo 8 (.cint .u64 (.tmp 7)),
 oo 9 (.callm 101 [.tmp 8]),
 oo 10 (.callm 100 [.tmp 5, .const (.int .i64 0), .tmp 6, .tmp 9])] [0, 2, 5, 6, 7, 8, 9, 10]))
abbrev v_q52 : List RV := []
abbrev f_q52 : FuncId := 55
theorem k_q52 : closedOf Tryz.prog Tryz.f55 = (false, some true, some v_q52, some c_q52.plain, 11) := by kernel_rfl
theorem ac_q52 {args : List AV} {r : AV} (h : aw Tryz.prog c_q52 (env0 args) (endQ v_q52 r)) (hargs : args.length ≤ 11 := by decide) (hok : resOK r = true := by rfl) : AC Tryz.prog f_q52 args r :=
  AC_mk (by kernel_rfl) Tryz.func55 k_q52 hargs hok (by decide) h
theorem am_q52 {args : List AV} {c0 c1 : List (Nat × List AV)} {r : AV} (h : aw Tryz.prog c_q52 (env0M args c0) (endM v_q52 r (c0.map (·.1)) c1)) (hc0 : ∀ q ∈ c0, 100000 ≤ q.1) (hargs : args.length ≤ 11 := by decide) (hok : resOK r = true := by rfl) : AM Tryz.prog f_q52 args c0 r c1 :=
  AM_mk (by kernel_rfl) Tryz.func55 k_q52 hargs hok (by decide) hc0 h
def c_q53 : ACode :=
 (.seq
 (.region false [
 oo 2 (.mov (.const (.slice none 0 0)))] [2])
 (.seq
 (.seq
 (.region false [
 om 6 0,
 oo 7 (.lenl (.tmp 6)),
 oo 8 (.bin .lss 3 (.tmp 7) (.const (.int .i64 2)))] [6, 7])
 (.cond (.tmp 8)
 (.seq
 (.shift
 (.region false [
 om 9 0,
 om 2 9] [0, 8, 9]))
 .ret)
 .skip))
 (.seq
 (.seq
 (.region false [
 oo 3 (.mov (.const (.int .i64 1)))] [8])
 (.block 0
 (.loop
 (.seq
 (.seq
 (.region false [
 om 10 3,
 om 11 0,
 oo 12 (.lenl (.tmp 11)),
 oo 13 (.bin .lss 3 (.tmp 10) (.tmp 12))] [10, 11, 12])
 (.cond (.tmp 13)
 .skip
 (.exit 0)))
 (.seq
 (.block 1
 (.seq
 (.region true [
 om 16 0,
 om 17 3,
 oo 18 (.iaddr 1 (.tmp 16) (.tmp 17)),
 oo 19 (.load false 1 (.tmp 18)),
 om 20 0,
 om 21 3,
 oo 22 (.bin .sub 3 (.tmp 21) (.const (.int .i64 1))),
 oo 23 (.iaddr 1 (.tmp 20) (.tmp 22)),
 oo 24 (.load false 1 (.tmp 23)),
 oo 25 (.bin .eql 32 (.tmp 19) (.tmp 24))] [13, 16, 17, 18, 19, 20, 21, 22, 23, 24])
 (.cond (.tmp 25)
 (.seq
 (.region false [
 om 26 0,
 om 27 3,
 oo 28 (.slc 1 (.tmp 26) (some (.tmp 27)) none),
 om 4 28] [25, 26, 27, 28])
 (.seq
 (.seq
 (.region false [
 oo 5 (.mov (.const (.int .i64 1)))] [])
 (.block 2
 (.loop
 (.seq
 (.seq
 (.region false [
 om 29 5,
 om 30 4,
 oo 31 (.lenl (.tmp 30)),
 oo 32 (.bin .lss 3 (.tmp 29) (.tmp 31))] [29, 30, 31])
 (.cond (.tmp 32)
 .skip
 (.exit 2)))
 (.seq
 (.block 3
 (.seq
 (.region true [
 om 35 4,
 om 36 5,
 oo 37 (.iaddr 1 (.tmp 35) (.tmp 36)),
 oo 38 (.load false 1 (.tmp 37)),
 om 39 4,
 om 40 5,
 oo 41 (.bin .sub 3 (.tmp 40) (.const (.int .i64 1))),
 oo 42 (.iaddr 1 (.tmp 39) (.tmp 41)),
 oo 43 (.load false 1 (.tmp 42)),
 oo 44 (.bin .neq 32 (.tmp 38) (.tmp 43))] [32, 35, 36, 37, 38, 39, 40, 41, 42, 43])
 (.cond (.tmp 44)
 (.seq
 (.region false [
 om 45 0,
 om 46 3,
 om 47 4,
 om 48 5,
 oo 49 (.iaddr 1 (.tmp 47) (.tmp 48)),
 oo 50 (.load false 1 (.tmp 49)),
 oo 51 (.iaddr 1 (.tmp 45) (.tmp 46)),
 ⟨none, .store 1 (.tmp 51) (.tmp 50), none⟩] [44, 45, 46, 47, 48, 49, 50, 51])
 (.region false [
 om 52 3,
 oo 53 (.bin .add 3 (.tmp 52) (.const (.int .i64 1))),
 om 3 53] [52, 53]))
 .skip)) [44])
 (.region false [
 om 33 5,
 oo 34 (.bin .add 3 (.tmp 33) (.const (.int .i64 1))),
 om 5 34] [33, 34]))) [] []) [4, 5, 32]))
 (.seq
 (.region false [
 om 54 0,
 om 55 3,
 oo 56 (.slc 1 (.tmp 54) (some (.tmp 55)) none),
 ⟨none, .clr [.lit (.int .u32 0)] (.tmp 56), none⟩] [54, 55, 56])
 (.seq
 (.region false [
 om 57 0,
 om 58 3,
 oo 59 (.slc 1 (.tmp 57) none (some (.tmp 58))),
 om 2 59] [0, 3, 57, 58, 59])
 .ret))))
 .skip)) [25])
 (.region false [
 om 14 3,
 oo 15 (.bin .add 3 (.tmp 14) (.const (.int .i64 1))),
 om 3 15] [14, 15]))) [] []) [3, 13]))
 (.seq
 (.region false [
 om 60 0,
 om 2 60] [0, 60])
 .ret))))
abbrev v_q53 : List RV := [.tmp 2]
abbrev f_q53 : FuncId := 56
theorem k_q53 : closedOf Tryz.prog Tryz.f56 = (false, some true, some v_q53, some c_q53.plain, 61) := by kernel_rfl
theorem ac_q53 {args : List AV} {r : AV} (h : aw Tryz.prog c_q53 (env0 args) (endQ v_q53 r)) (hargs : args.length ≤ 61 := by decide) (hok : resOK r = true := by rfl) : AC Tryz.prog f_q53 args r :=
  AC_mk (by kernel_rfl) Tryz.func56 k_q53 hargs hok (by decide) h
theorem am_q53 {args : List AV} {c0 c1 : List (Nat × List AV)} {r : AV} (h : aw Tryz.prog c_q53 (env0M args c0) (endM v_q53 r (c0.map (·.1)) c1)) (hc0 : ∀ q ∈ c0, 100000 ≤ q.1) (hargs : args.length ≤ 61 := by decide) (hok : resOK r = true := by rfl) : AM Tryz.prog f_q53 args c0 r c1 :=
  AM_mk (by kernel_rfl) Tryz.func56 k_q53 hargs hok (by decide) hc0 h
def c_q54 : ACode :=
 (.seq
 (.region false [
 oo 2 (.mov (.const (.pointer none)))] [2])
 (.seq
 (.region false [
 om 3 0,
 oo 4 (.nilchk (.tmp 3)),
 oo 5 (.faddr 0 7 (.tmp 4)),
 om 2 5] [0, 3, 4, 5])
 .ret))
abbrev v_q54 : List RV := [.tmp 2]
abbrev f_q54 : FuncId := 57
theorem k_q54 : closedOf Tryz.prog Tryz.f57 = (false, some true, some v_q54, some c_q54.plain, 6) := by kernel_rfl
theorem ac_q54 {args : List AV} {r : AV} (h : aw Tryz.prog c_q54 (env0 args) (endQ v_q54 r)) (hargs : args.length ≤ 6 := by decide) (hok : resOK r = true := by rfl) : AC Tryz.prog f_q54 args r :=
  AC_mk (by kernel_rfl) Tryz.func57 k_q54 hargs hok (by decide) h
def c_q55 : ACode :=
 (.seq
 (.region false [
 oo 2 (.mov (.const (.bool false)))] [2])
 (.seq
 (.region false [
 om 4 0,
 oo 5 (.callm 102 [.tmp 4]),
 oo 3 (.alloc [.lit (.int .u8 0), .lit (.int .u8 0), .lit (.int .u8 0), .lit (.int .u8 0)]),
 ⟨none, .store 4 (.tmp 3) (.tmp 5), none⟩] [0, 4, 5])
 (.seq
 (.region false [
 oo 6 (.iadra 4 1 (.tmp 3) (.const (.int .i64 0))),
 oo 7 (.load false 1 (.tmp 6)),
 oo 8 (.bin .geq 5 (.tmp 7) (.const (.int .u8 224))),
 om 9 8,
 og 10 (.iadra 4 1 (.tmp 3) (.const (.int .i64 0))) 9 true,
 og 11 (.load false 1 (.tmp 10)) 9 true,
 og 12 (.bin .leq 5 (.tmp 11) (.const (.int .u8 239))) 9 true,
 oo 13 (.pick (.tmp 9) (.tmp 12) (.const (.bool false))),
 om 2 13] [3, 6, 7, 8, 9, 10, 11, 12, 13])
 .ret)))
abbrev v_q55 : List RV := [.tmp 2]
abbrev f_q55 : FuncId := 58
theorem k_q55 : closedOf Tryz.prog Tryz.f58 = (false, some true, some v_q55, some c_q55.plain, 14) := by kernel_rfl
theorem ac_q55 {args : List AV} {r : AV} (h : aw Tryz.prog c_q55 (env0 args) (endQ v_q55 r)) (hargs : args.length ≤ 14 := by decide) (hok : resOK r = true := by rfl) : AC Tryz.prog f_q55 args r :=
  AC_mk (by kernel_rfl) Tryz.func58 k_q55 hargs hok (by decide) h
def c_q56 : ACode :=
 (.seq
 (.region false [
 oo 2 (.box (.tmp 0)),
 oo 4 (.mov (.const (.bool false)))] [0, 4])
 (.seq
 (.region true [
 oo 5 (.load true 2 (.tmp 2)),
 oo 6 (.call 103 [.tmp 5]),
 om 7 6,
 og 8 (.mov (.tmp 1)) 7 true,
 og 9 (.faddr 1 1 (.tmp 2)) 7 true,
 og 10 (.load false 1 (.tmp 9)) 7 true,
 og 11 (.call 104 [.tmp 10]) 7 true,
 og 12 (.bin .and 32 (.tmp 8) (.tmp 11)) 7 true,
 og 13 (.faddr 0 1 (.tmp 2)) 7 true,
 og 14 (.load false 1 (.tmp 13)) 7 true,
 og 15 (.bin .eql 32 (.tmp 12) (.tmp 14)) 7 true,
 oo 16 (.pick (.tmp 7) (.tmp 15) (.const (.bool false))),
 om 4 16] [1, 2, 5, 6, 7, 8, 9, 10, 11, 12, 13, 14, 15, 16])
 .ret))
abbrev v_q56 : List RV := [.tmp 4]
abbrev f_q56 : FuncId := 59
theorem k_q56 : closedOf Tryz.prog Tryz.f59 = (false, some true, some v_q56, some c_q56.plain, 17) := by kernel_rfl
theorem ac_q56 {args : List AV} {r : AV} (h : aw Tryz.prog c_q56 (env0 args) (endQ v_q56 r)) (hargs : args.length ≤ 17 := by decide) (hok : resOK r = true := by rfl) : AC Tryz.prog f_q56 args r :=
  AC_mk (by kernel_rfl) Tryz.func59 k_q56 hargs hok (by decide) h
def c_q57 : ACode :=
 (.seq
 (.region false [
 oo 2 (.box (.tmp 0)),
 oo 4 (.mov (.const (.bool false)))] [0, 4])
 (.seq
 (.region true [
 oo 5 (.load true 2 (.tmp 2)),
 oo 6 (.call 105 [.tmp 5]),
 om 7 6,
 og 8 (.mov (.tmp 1)) 7 true,
 og 9 (.faddr 1 1 (.tmp 2)) 7 true,
 og 10 (.load false 1 (.tmp 9)) 7 true,
 og 11 (.call 106 [.tmp 10]) 7 true,
 og 12 (.bin .and 32 (.tmp 8) (.tmp 11)) 7 true,
 og 13 (.faddr 0 1 (.tmp 2)) 7 true,
 og 14 (.load false 1 (.tmp 13)) 7 true,
 og 15 (.bin .eql 32 (.tmp 12) (.tmp 14)) 7 true,
 oo 16 (.pick (.tmp 7) (.tmp 15) (.const (.bool false))),
 om 4 16] [1, 2, 5, 6, 7, 8, 9, 10, 11, 12, 13, 14, 15, 16])
 .ret))
abbrev v_q57 : List RV := [.tmp 4]
abbrev f_q57 : FuncId := 60
theorem k_q57 : closedOf Tryz.prog Tryz.f60 = (false, some true, some v_q57, some c_q57.plain, 17) := by kernel_rfl
theorem ac_q57 {args : List AV} {r : AV} (h : aw Tryz.prog c_q57 (env0 args) (endQ v_q57 r)) (hargs : args.length ≤ 17 := by decide) (hok : resOK r = true := by rfl) : AC Tryz.prog f_q57 args r :=
  AC_mk (by kernel_rfl) Tryz.func60 k_q57 hargs hok (by decide) h
def c_q61 : ACode :=
 (.seq
 (.region false [
 oo 0 (.alloc [.lit (.int .u32 0), .lit (.int .i64 0)])] [])
 (.seq
 (.region false [
 oo 1 (.build [.lit (.int .u32 0), .lit (.int .i64 0)] [(0, 1, .const (.int .u32 3758096384)), (1, 1, .const (.int .i64 4))]),
 ⟨none, .store 2 (.tmp 0) (.tmp 1), none⟩] [1])
 .ret))
abbrev v_q61 : List RV := [.cell true 2 0]
abbrev f_q61 : FuncId := 64
theorem k_q61 : closedOf Tryz.prog Tryz.f64 = (false, some true, some v_q61, some c_q61.plain, 2) := by kernel_rfl
theorem ac_q61 {args : List AV} {r : AV} (h : aw Tryz.prog c_q61 (env0 args) (endQ v_q61 r)) (hargs : args.length ≤ 2 := by decide) (hok : resOK r = true := by rfl) : AC Tryz.prog f_q61 args r :=
  AC_mk (by kernel_rfl) Tryz.func64 k_q61 hargs hok (by decide) h
def c_q62 : ACode :=
 (.seq
 (.region false [
 oo 1 (.box (.tmp 0)),
 oo 2 (.alloc [.lit (.int .i64 0), .lit (.int .i64 0), .lit (.int .i64 0), .lit (.int .i64 0), .lit (.int .i64 0), .lit (.int .i64 0), .lit (.int .i64 0)]),
 oo 3 (.alloc [.lit (.int .i64 0), .lit (.int .i64 0), .lit (.int .i64 0), .lit (.int .i64 0), .lit (.int .i64 0), .lit (.int .i64 0), .lit (.int .i64 0)])] [0])
 (.seq
 (.region false [
 oo 4 (.faddr 0 1 (.tmp 1)),
 oo 5 (.load false 1 (.tmp 4)),
 oo 6 (.lenl (.tmp 5)),
 oo 7 (.faddr 1 1 (.tmp 1)),
 oo 8 (.load false 1 (.tmp 7)),
 oo 9 (.lenl (.tmp 8)),
 oo 10 (.faddr 2 1 (.tmp 1)),
 oo 11 (.load false 1 (.tmp 10)),
 oo 12 (.lenl (.tmp 11)),
 oo 13 (.faddr 3 1 (.tmp 1)),
 oo 14 (.load false 1 (.tmp 13)),
 oo 15 (.lenl (.tmp 14)),
 oo 16 (.faddr 4 1 (.tmp 1)),
 oo 17 (.load false 1 (.tmp 16)),
 oo 18 (.lenl (.tmp 17)),
 oo 19 (.faddr 5 1 (.tmp 1)),
 oo 20 (.load false 1 (.tmp 19)),
 oo 21 (.lenl (.tmp 20)),
 oo 22 (.faddr 6 1 (.tmp 1)),
 oo 23 (.load false 1 (.tmp 22)),
 oo 24 (.lenl (.tmp 23)),
 oo 25 (.build [.lit (.int .i64 0), .lit (.int .i64 0), .lit (.int .i64 0), .lit (.int .i64 0), .lit (.int .i64 0), .lit (.int .i64 0), .lit (.int .i64 0)] [(0, 1, .tmp 6), (1, 1, .tmp 9), (2, 1, .tmp 12), (3, 1, .tmp 15), (4, 1, .tmp 18), (5, 1, .tmp 21), (6, 1, .tmp 24)]),
 oo 26 (.build [.lit (.int .i64 0), .lit (.int .i64 0), .lit (.int .i64 0), .lit (.int .i64 0), .lit (.int .i64 0), .lit (.int .i64 0), .lit (.int .i64 0)] [(0, 1, .const (.int .i64 16)), (1, 1, .const (.int .i64 24)), (2, 1, .const (.int .i64 64)), (3, 1, .const (.int .i64 96)), (4, 1, .const (.int .i64 8)), (5, 1, .const (.int .i64 8)), (6, 1, .const (.int .i64 24))]),
 ⟨none, .store 7 (.tmp 2) (.tmp 25), none⟩,
 ⟨none, .store 7 (.tmp 3) (.tmp 26), none⟩] [1, 4, 5, 6, 7, 8, 9, 10, 11, 12, 13, 14, 15, 16, 17, 18, 19, 20, 21, 22, 23, 24, 25, 26])
 .ret))
abbrev v_q62 : List RV := [.cell true 7 2, .cell true 7 3]
abbrev f_q62 : FuncId := 65
theorem k_q62 : closedOf Tryz.prog Tryz.f65 = (false, some true, some v_q62, some c_q62.plain, 27) := by kernel_rfl
theorem ac_q62 {args : List AV} {r : AV} (h : aw Tryz.prog c_q62 (env0 args) (endQ v_q62 r)) (hargs : args.length ≤ 27 := by decide) (hok : resOK r = true := by rfl) : AC Tryz.prog f_q62 args r :=
  AC_mk (by kernel_rfl) Tryz.func65 k_q62 hargs hok (by decide) h
def c_q63 : ACode :=
 (.seq
 (.region false [
 oo 3 (.box (.tmp 0)),
 oo 6 (.mov (.const (.int .i64 0)))] [0, 6])
 (.seq
 (.seq
 (.region false [
 om 7 1] [1])
 (.block 0
 (.seq
 (.region false [
 oo 9 (.bin .eql 3 (.tmp 7) (.const (.int .i64 0))),
 om 8 9] [9])
 (.cond (.tmp 8)
 (.seq
 (.region false [
 oo 10 (.load true 7 (.tmp 3)),
 om 11 2,
 oo 12 (.callm 107 [.tmp 10, .tmp 11]),
 om 6 12] [2, 3, 7, 8, 10, 11, 12])
 .ret)
 (.seq
 (.region false [
 oo 14 (.bin .eql 3 (.tmp 7) (.const (.int .i64 1))),
 om 13 14] [8, 14])
 (.cond (.tmp 13)
 (.seq
 (.region false [
 oo 15 (.load true 7 (.tmp 3)),
 om 16 2,
 oo 17 (.callm 108 [.tmp 15, .tmp 16]),
 om 6 17] [2, 3, 7, 13, 15, 16, 17])
 .ret)
 (.seq
 (.region false [
 oo 19 (.bin .eql 3 (.tmp 7) (.const (.int .i64 2))),
 om 18 19] [13, 19])
 (.cond (.tmp 18)
 (.seq
 (.region false [
 oo 20 (.load true 7 (.tmp 3)),
 om 21 2,
 oo 22 (.callm 109 [.tmp 20, .tmp 21]),
 om 6 22] [2, 3, 7, 18, 20, 21, 22])
 .ret)
 (.seq
 (.region false [
 oo 24 (.bin .eql 3 (.tmp 7) (.const (.int .i64 3))),
 om 23 24] [18, 24])
 (.cond (.tmp 23)
 (.seq
 (.region false [
 oo 25 (.load true 7 (.tmp 3)),
 om 26 2,
 oo 27 (.callm 110 [.tmp 25, .tmp 26]),
 om 6 27] [2, 3, 7, 23, 25, 26, 27])
 .ret)
 (.seq
 (.region false [
 oo 29 (.bin .eql 3 (.tmp 7) (.const (.int .i64 4))),
 om 28 29] [23, 29])
 (.cond (.tmp 28)
 (.seq
 (.region false [
 oo 30 (.load true 7 (.tmp 3)),
 om 31 2,
 oo 32 (.callm 111 [.tmp 30, .tmp 31]),
 om 6 32] [2, 3, 7, 28, 30, 31, 32])
 .ret)
 (.seq
 (.region false [
 oo 34 (.bin .eql 3 (.tmp 7) (.const (.int .i64 5))),
 om 33 34] [7, 28, 34])
 (.cond (.tmp 33)
 (.seq
 (.region false [
 oo 35 (.load true 7 (.tmp 3)),
 om 36 2,
 oo 37 (.callm 112 [.tmp 35, .tmp 36]),
 om 6 37] [2, 3, 33, 35, 36, 37])
 .ret)
 .skip)))))))))))) [33]))
 (.seq
 (.region false [
 oo 38 (.load true 7 (.tmp 3)),
 om 39 2,
 oo 40 (.callm 113 [.tmp 38, .tmp 39]),
 om 6 40] [2, 3, 38, 39, 40])
 .ret)))
abbrev v_q63 : List RV := [.tmp 6]
abbrev f_q63 : FuncId := 66
theorem k_q63 : closedOf Tryz.prog Tryz.f66 = (false, some true, some v_q63, some c_q63.plain, 41) := by kernel_rfl
theorem ac_q63 {args : List AV} {r : AV} (h : aw Tryz.prog c_q63 (env0 args) (endQ v_q63 r)) (hargs : args.length ≤ 41 := by decide) (hok : resOK r = true := by rfl) : AC Tryz.prog f_q63 args r :=
  AC_mk (by kernel_rfl) Tryz.func66 k_q63 hargs hok (by decide) h
def c_q64 : ACode :=
 (.seq
 (.region false [
 oo 4 (.mov (.const (.slice none 0 0)))] [4])
 (.seq
 (.seq
 (.region false [
 om 5 1,
 oo 6 (.bin .lss 3 (.tmp 5) (.const (.int .i64 0))),
 om 7 6,
 og 8 (.mov (.tmp 1)) 7 false,
 og 9 (.mov (.tmp 0)) 7 false,
 og 10 (.lenl (.tmp 9)) 7 false,
 og 11 (.bin .geq 3 (.tmp 8) (.tmp 10)) 7 false,
 oo 12 (.pick (.tmp 7) (.const (.bool true)) (.tmp 11))] [5, 6, 7, 8, 9, 10, 11])
 (.cond (.tmp 12)
 (.seq
 (.region false [
 oo 4 (.mov (.const (.slice none 0 0)))] [0, 1, 12])
 .ret)
 .skip))
 (.seq
 (.region false [
 om 13 0,
 om 14 1,
 oo 15 (.iaddr 1 (.tmp 13) (.tmp 14)),
 oo 16 (.load false 1 (.tmp 15)),
 oo 17 (.callm 114 [.tmp 16]),
 om 4 17] [0, 1, 12, 13, 14, 15, 16, 17])
 .ret)))
abbrev v_q64 : List RV := [.tmp 4]
abbrev f_q64 : FuncId := 67
theorem k_q64 : closedOf Tryz.prog Tryz.f67 = (false, some true, some v_q64, some c_q64.plain, 18) := by kernel_rfl
theorem ac_q64 {args : List AV} {r : AV} (h : aw Tryz.prog c_q64 (env0 args) (endQ v_q64 r)) (hargs : args.length ≤ 18 := by decide) (hok : resOK r = true := by rfl) : AC Tryz.prog f_q64 args r :=
  AC_mk (by kernel_rfl) Tryz.func67 k_q64 hargs hok (by decide) h
def c_q67 : ACode :=
 (.seq
 (.region false [
 oo 2 (.box (.tmp 0)),
 oo 4 (.alloc [.lit (.int .i64 0), .lit (.int .u32 0)])] [0])
 (.seq
 (.region true [
 oo 5 (.faddr 0 1 (.tmp 2)),
 oo 6 (.load false 1 (.tmp 5)),
 oo 7 (.faddr 2 1 (.tmp 2)),
 oo 8 (.load false 1 (.tmp 7)),
 om 9 1,
 oo 10 (.iaddr 3 (.tmp 8) (.tmp 9)),
 oo 11 (.faddr 0 1 (.tmp 10)),
 oo 12 (.load false 1 (.tmp 11)),
 oo 13 (.iaddr 2 (.tmp 6) (.tmp 12)),
 oo 14 (.faddr 1 1 (.tmp 13)),
 oo 15 (.load false 1 (.tmp 14)),
 oo 16 (.faddr 2 1 (.tmp 2)),
 oo 17 (.load false 1 (.tmp 16)),
 om 18 1,
 oo 19 (.iaddr 3 (.tmp 17) (.tmp 18)),
 oo 20 (.faddr 2 1 (.tmp 19)),
 oo 21 (.load false 1 (.tmp 20)),
 oo 22 (.build [.lit (.int .i64 0), .lit (.int .u32 0)] [(0, 1, .tmp 15), (1, 1, .tmp 21)]),
 ⟨none, .store 2 (.tmp 4) (.tmp 22), none⟩] [1, 2, 5, 6, 7, 8, 9, 10, 11, 12, 13, 14, 15, 16, 17, 18, 19, 20, 21, 22])
 .ret))
abbrev v_q67 : List RV := [.cell true 2 4]
abbrev f_q67 : FuncId := 70
theorem k_q67 : closedOf Tryz.prog Tryz.f70 = (false, some true, some v_q67, some c_q67.plain, 23) := by kernel_rfl
theorem ac_q67 {args : List AV} {r : AV} (h : aw Tryz.prog c_q67 (env0 args) (endQ v_q67 r)) (hargs : args.length ≤ 23 := by decide) (hok : resOK r = true := by rfl) : AC Tryz.prog f_q67 args r :=
  AC_mk (by kernel_rfl) Tryz.func70 k_q67 hargs hok (by decide) h
def c_q70 : ACode :=
 (.seq
 (.region false [
 oo 2 (.mov (.const (.slice none 0 0)))] [2])
 (.seq
 (.seq
 (.region false [
 om 3 0,
 oo 4 (.eqs false (.tmp 3))] [3])
 (.cond (.tmp 4)
 (.seq
 (.region false [
 oo 2 (.mov (.const (.slice none 0 0)))] [0, 4])
 .ret)
 .skip))
 (.seq
 (.shift
 (.region false [
 oo 5 (.bsl0 1),
 om 6 0,
 oo 7 (.app 1 4 [] (.tmp 5) (.tmp 6)),
 om 2 7] [0, 4, 5, 6, 7]))
 .ret)))
abbrev v_q70 : List RV := [.tmp 2]
abbrev f_q70 : FuncId := 73
theorem k_q70 : closedOf Tryz.prog Tryz.f73 = (false, some true, some v_q70, some c_q70.plain, 8) := by kernel_rfl
theorem ac_q70 {args : List AV} {r : AV} (h : aw Tryz.prog c_q70 (env0 args) (endQ v_q70 r)) (hargs : args.length ≤ 8 := by decide) (hok : resOK r = true := by rfl) : AC Tryz.prog f_q70 args r :=
  AC_mk (by kernel_rfl) Tryz.func73 k_q70 hargs hok (by decide) h
end Go.Proofs.YtbgfkdpjnabhkaaGreatDoor.VL
end

