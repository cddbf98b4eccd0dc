import Derived.Test.YtnndbbmidoidpaaGreatDoorProg
import Derived.Test.YtnndbbmidoidpaaGreatDoorGa8
set_option linter.unusedVariables false
set_option linter.unusedSimpArgs false
section
set_option maxRecDepth 100000
namespace Go.Proofs.YtnndbbmidoidpaaGreatDoor.VL
open Go.Proofs
def c_q71 : ACode :=
 (.seq
 (.region false [
 oo 2 (.box (.tmp 0)),
 oo 4 (.mov (.const (.nilIface)))] [0,4])
 (.seq
 (.region false [
 oo 7 (.faddr 0 7 (.tmp 2)),
 oo 8 (.faddr 1 1 (.tmp 7)),
 oo 9 (.load false 1 (.tmp 8)),
 om 10 1,
 oo 11 (.iaddr 3 (.tmp 9) (.tmp 10)),
 oo 12 (.load true 3 (.tmp 11)),
 oo 5 (.alloc [.lit (.string ⟨#[]⟩),.lit (.int .u32 0),.lit (.int .i64 0)]),
 ⟨none,.store 3 (.tmp 5) (.tmp 12),none⟩] [7,8,9,10,11,12])
 (.seq
 (.seq
 (.region false [
 oo 13 (.faddr 0 1 (.tmp 5)),
 oo 14 (.load false 1 (.tmp 13)),
 oo 15 (.callm 129 [.tmp 14]),
 om 6 15] [13,14,15])
 (.seq
 (.region false [
 om 16 6,
 oo 17 (.eqn true (.tmp 16))] [16])
 (.cond (.tmp 17)
 (.seq
 (.region false [
 om 18 6,
 om 4 18] [1,2,5,6,17,18])
 .ret)
 .skip)))
 (.seq
 (.block 0
 (.seq
 (.region false [
 oo 20 (.faddr 0 7 (.tmp 2)),
 oo 21 (.faddr 1 1 (.tmp 20)),
 oo 22 (.load false 1 (.tmp 21)),
 om 23 1,
 oo 24 (.slc 3 (.tmp 22) none (some (.tmp 23))),
 oo 25 (.mkfn (.func 134) [] [.tmp 5]),
 oo 26 (.callm 133 [.tmp 24,.tmp 25]),
 om 19 26] [1,2,6,17,20,21,22,23,24,25,26])
 (.cond (.tmp 19)
 (.seq
 (.region false [
 oo 27 (.load false 1 (.global 2)),
 om 4 27] [5,19,27])
 .ret)
 (.seq
 (.region false [
 oo 29 (.faddr 1 2 (.tmp 5)),
 oo 30 (.load true 2 (.tmp 29)),
 oo 31 (.callm 135 [.tmp 30]),
 oo 32 (.un .not (.tmp 31)),
 om 28 32] [19,29,30,31,32])
 (.cond (.tmp 28)
 (.seq
 (.region false [
 oo 33 (.load false 1 (.global 3)),
 om 4 33] [5,28,33])
 .ret)
 (.seq
 (.region true [
 oo 35 (.faddr 1 2 (.tmp 5)),
 oo 36 (.load true 2 (.tmp 35)),
 oo 37 (.call 137 []),
 oo 38 (.call 136 [.tmp 36,.tmp 37]),
 om 39 38,
 og 40 (.call 137 []) 39 false,
 og 41 (.faddr 1 2 (.tmp 5)) 39 false,
 og 42 (.load true 2 (.tmp 41)) 39 false,
 og 43 (.call 136 [.tmp 40,.tmp 42]) 39 false,
 oo 44 (.pick (.tmp 39) (.const (.bool true)) (.tmp 43)),
 om 34 44] [5,28,35,36,37,38,39,40,41,42,43,44])
 (.cond (.tmp 34)
 (.seq
 (.region false [
 oo 45 (.load false 1 (.global 4)),
 om 4 45] [34,45])
 .ret)
 .skip)))))) [34])
 (.seq
 (.region false [
 oo 4 (.mov (.const (.nilIface)))] [])
 .ret)))))
abbrev v_q71 : List RV:= [.tmp 4]
abbrev f_q71 : FuncId:= 74
theorem k_q71 : closedOf Tryz.prog Tryz.f74 = (false,some true,some v_q71,some c_q71.plain,46):= by kernel_rfl
theorem ac_q71 {args : List AV} {r : AV} (h : aw Tryz.prog c_q71 (env0 args) (endQ v_q71 r)) (hargs : args.length ≤ 46:= by decide) (hok : resOK r = true:= by rfl) : AC Tryz.prog f_q71 args r :=
  AC_mk (by kernel_rfl) Tryz.func74 k_q71 hargs hok (by decide) h
def c_q72 : ACode :=
 (.seq
 (.region false [
 oo 2 (.box (.tmp 0)),
 oo 4 (.mov (.const (.nilIface)))] [0,4])
 (.seq
 (.region false [
 oo 6 (.faddr 0 7 (.tmp 2)),
 oo 7 (.faddr 2 1 (.tmp 6)),
 oo 8 (.load false 1 (.tmp 7)),
 om 9 1,
 oo 10 (.iaddr 3 (.tmp 8) (.tmp 9)),
 oo 11 (.load true 3 (.tmp 10)),
 oo 5 (.alloc [.lit (.int .i64 0),.lit (.int .i64 0),.lit (.int .u32 0)]),
 ⟨none,.store 3 (.tmp 5) (.tmp 11),none⟩] [6,7,8,9,10,11])
 (.seq
 (.block 0
 (.seq
 (.region false [
 oo 13 (.faddr 0 1 (.tmp 5)),
 oo 14 (.load false 1 (.tmp 13)),
 oo 15 (.faddr 0 7 (.tmp 2)),
 oo 16 (.faddr 0 1 (.tmp 15)),
 oo 17 (.load false 1 (.tmp 16)),
 oo 18 (.lenl (.tmp 17)),
 oo 19 (.callm 138 [.tmp 14,.tmp 18]),
 oo 20 (.un .not (.tmp 19)),
 om 21 20,
 og 22 (.faddr 1 1 (.tmp 5)) 21 false,
 og 23 (.load false 1 (.tmp 22)) 21 false,
 og 24 (.faddr 0 7 (.tmp 2)) 21 false,
 og 25 (.faddr 1 1 (.tmp 24)) 21 false,
 og 26 (.load false 1 (.tmp 25)) 21 false,
 og 27 (.lenl (.tmp 26)) 21 false,
 og 28 (.callm 138 [.tmp 23,.tmp 27]) 21 false,
 og 29 (.un .not (.tmp 28)) 21 false,
 oo 30 (.pick (.tmp 21) (.const (.bool true)) (.tmp 29)),
 om 12 30] [13,14,15,16,17,18,19,20,21,22,23,24,25,26,27,28,29,30])
 (.cond (.tmp 12)
 (.seq
 (.region false [
 oo 31 (.load false 1 (.global 5)),
 om 4 31] [1,2,5,12,31])
 .ret)
 (.seq
 (.region false [
 oo 33 (.load true 7 (.tmp 2)),
 oo 34 (.faddr 1 1 (.tmp 5)),
 oo 35 (.load false 1 (.tmp 34)),
 oo 36 (.faddr 2 1 (.tmp 5)),
 oo 37 (.load false 1 (.tmp 36)),
 oo 38 (.callm 139 [.tmp 33,.tmp 35,.tmp 37]),
 oo 39 (.un .not (.tmp 38)),
 om 32 39] [12,33,34,35,36,37,38,39])
 (.cond (.tmp 32)
 (.seq
 (.region false [
 oo 40 (.load false 1 (.global 6)),
 om 4 40] [1,2,5,32,40])
 .ret)
 (.seq
 (.region false [
 oo 42 (.faddr 0 7 (.tmp 2)),
 oo 43 (.faddr 2 1 (.tmp 42)),
 oo 44 (.load false 1 (.tmp 43)),
 om 45 1,
 oo 46 (.slc 3 (.tmp 44) none (some (.tmp 45))),
 oo 47 (.mkfn (.func 141) [] [.tmp 5]),
 oo 48 (.callm 140 [.tmp 46,.tmp 47]),
 om 41 48] [1,2,5,32,42,43,44,45,46,47,48])
 (.cond (.tmp 41)
 (.seq
 (.region false [
 oo 49 (.load false 1 (.global 2)),
 om 4 49] [41,49])
 .ret)
 .skip)))))) [41])
 (.seq
 (.region false [
 oo 4 (.mov (.const (.nilIface)))] [])
 .ret))))
abbrev v_q72 : List RV:= [.tmp 4]
abbrev f_q72 : FuncId:= 75
theorem k_q72 : closedOf Tryz.prog Tryz.f75 = (false,some true,some v_q72,some c_q72.plain,50):= by kernel_rfl
theorem ac_q72 {args : List AV} {r : AV} (h : aw Tryz.prog c_q72 (env0 args) (endQ v_q72 r)) (hargs : args.length ≤ 50:= by decide) (hok : resOK r = true:= by rfl) : AC Tryz.prog f_q72 args r :=
  AC_mk (by kernel_rfl) Tryz.func75 k_q72 hargs hok (by decide) h
def c_q73 : ACode :=
 (.seq
 (.region false [
 oo 2 (.box (.tmp 0)),
 oo 4 (.mov (.const (.nilIface)))] [0,4])
 (.seq
 (.region false [
 oo 6 (.faddr 0 7 (.tmp 2)),
 oo 7 (.faddr 3 1 (.tmp 6)),
 oo 8 (.load false 1 (.tmp 7)),
 om 9 1,
 oo 10 (.iaddr 5 (.tmp 8) (.tmp 9)),
 oo 11 (.load true 5 (.tmp 10)),
 oo 5 (.alloc [.lit (.int .i64 0),.lit (.int .u32 0),.lit (.int .i64 0),.lit (.int .u32 0),.lit (.int .i64 0)]),
 ⟨none,.store 5 (.tmp 5) (.tmp 11),none⟩] [1,6,7,8,9,10,11])
 (.seq
 (.block 0
 (.seq
 (.region false [
 oo 13 (.faddr 0 1 (.tmp 5)),
 oo 14 (.load false 1 (.tmp 13)),
 oo 15 (.faddr 0 7 (.tmp 2)),
 oo 16 (.faddr 0 1 (.tmp 15)),
 oo 17 (.load false 1 (.tmp 16)),
 oo 18 (.lenl (.tmp 17)),
 oo 19 (.callm 138 [.tmp 14,.tmp 18]),
 oo 20 (.un .not (.tmp 19)),
 om 12 20] [2,13,14,15,16,17,18,19,20])
 (.cond (.tmp 12)
 (.seq
 (.region false [
 oo 21 (.load false 1 (.global 5)),
 om 4 21] [5,12,21])
 .ret)
 (.seq
 (.region false [
 oo 23 (.faddr 1 2 (.tmp 5)),
 oo 24 (.load true 2 (.tmp 23)),
 oo 25 (.callm 135 [.tmp 24]),
 oo 26 (.un .not (.tmp 25)),
 om 27 26,
 og 28 (.faddr 4 1 (.tmp 5)) 27 false,
 og 29 (.load false 1 (.tmp 28)) 27 false,
 og 30 (.callm 132 [.tmp 29]) 27 false,
 og 31 (.un .not (.tmp 30)) 27 false,
 oo 32 (.pick (.tmp 27) (.const (.bool true)) (.tmp 31)),
 om 22 32] [12,23,24,25,26,27,28,29,30,31,32])
 (.cond (.tmp 22)
 (.seq
 (.region false [
 oo 33 (.load false 1 (.global 3)),
 om 4 33] [5,22,33])
 .ret)
 (.seq
 (.region false [
 oo 35 (.faddr 3 1 (.tmp 5)),
 oo 36 (.load false 1 (.tmp 35)),
 oo 37 (.callm 142 [.tmp 36]),
 oo 38 (.un .not (.tmp 37)),
 om 34 38] [5,22,35,36,37,38])
 (.cond (.tmp 34)
 (.seq
 (.region false [
 oo 39 (.load false 1 (.global 4)),
 om 4 39] [34,39])
 .ret)
 .skip)))))) [34])
 (.seq
 (.region false [
 oo 4 (.mov (.const (.nilIface)))] [])
 .ret))))
abbrev v_q73 : List RV:= [.tmp 4]
abbrev f_q73 : FuncId:= 76
theorem k_q73 : closedOf Tryz.prog Tryz.f76 = (false,some true,some v_q73,some c_q73.plain,40):= by kernel_rfl
theorem ac_q73 {args : List AV} {r : AV} (h : aw Tryz.prog c_q73 (env0 args) (endQ v_q73 r)) (hargs : args.length ≤ 40:= by decide) (hok : resOK r = true:= by rfl) : AC Tryz.prog f_q73 args r :=
  AC_mk (by kernel_rfl) Tryz.func76 k_q73 hargs hok (by decide) h
def c_q74 : ACode :=
 (.seq
 (.region false [
 oo 2 (.box (.tmp 0)),
 oo 4 (.mov (.const (.nilIface)))] [0,4])
 (.seq
 (.region false [
 oo 6 (.faddr 0 7 (.tmp 2)),
 oo 7 (.faddr 4 1 (.tmp 6)),
 oo 8 (.load false 1 (.tmp 7)),
 om 9 1,
 oo 10 (.iaddr 3 (.tmp 8) (.tmp 9)),
 oo 11 (.load true 3 (.tmp 10)),
 oo 5 (.alloc [.lit (.int .u32 0),.lit (.int .i64 0),.lit (.int .u32 0)]),
 ⟨none,.store 3 (.tmp 5) (.tmp 11),none⟩] [6,7,8,9,10,11])
 (.seq
 (.block 0
 (.seq
 (.region false [
 oo 13 (.faddr 0 2 (.tmp 5)),
 oo 14 (.load true 2 (.tmp 13)),
 oo 15 (.callm 135 [.tmp 14]),
 oo 16 (.un .not (.tmp 15)),
 om 12 16] [13,14,15,16])
 (.cond (.tmp 12)
 (.seq
 (.region false [
 oo 17 (.load false 1 (.global 3)),
 om 4 17] [1,2,5,12,17])
 .ret)
 (.seq
 (.region true [
 oo 19 (.faddr 0 2 (.tmp 5)),
 oo 20 (.load true 2 (.tmp 19)),
 oo 21 (.call 137 []),
 oo 22 (.call 136 [.tmp 20,.tmp 21]),
 oo 23 (.un .not (.tmp 22)),
 om 24 23,
 og 25 (.faddr 2 1 (.tmp 5)) 24 false,
 og 26 (.load false 1 (.tmp 25)) 24 false,
 og 27 (.call 142 [.tmp 26]) 24 false,
 og 28 (.un .not (.tmp 27)) 24 false,
 oo 29 (.pick (.tmp 24) (.const (.bool true)) (.tmp 28)),
 om 18 29] [12,19,20,21,22,23,24,25,26,27,28,29])
 (.cond (.tmp 18)
 (.seq
 (.region false [
 oo 30 (.load false 1 (.global 4)),
 om 4 30] [1,2,5,18,30])
 .ret)
 (.seq
 (.region false [
 oo 32 (.faddr 0 7 (.tmp 2)),
 oo 33 (.faddr 4 1 (.tmp 32)),
 oo 34 (.load false 1 (.tmp 33)),
 om 35 1,
 oo 36 (.slc 3 (.tmp 34) none (some (.tmp 35))),
 oo 37 (.mkfn (.func 144) [] [.tmp 5]),
 oo 38 (.callm 143 [.tmp 36,.tmp 37]),
 om 31 38] [1,2,5,18,32,33,34,35,36,37,38])
 (.cond (.tmp 31)
 (.seq
 (.region false [
 oo 39 (.load false 1 (.global 2)),
 om 4 39] [31,39])
 .ret)
 .skip)))))) [31])
 (.seq
 (.region false [
 oo 4 (.mov (.const (.nilIface)))] [])
 .ret))))
abbrev v_q74 : List RV:= [.tmp 4]
abbrev f_q74 : FuncId:= 77
theorem k_q74 : closedOf Tryz.prog Tryz.f77 = (false,some true,some v_q74,some c_q74.plain,40):= by kernel_rfl
theorem ac_q74 {args : List AV} {r : AV} (h : aw Tryz.prog c_q74 (env0 args) (endQ v_q74 r)) (hargs : args.length ≤ 40:= by decide) (hok : resOK r = true:= by rfl) : AC Tryz.prog f_q74 args r :=
  AC_mk (by kernel_rfl) Tryz.func77 k_q74 hargs hok (by decide) h
def c_q75 : ACode :=
 (.seq
 (.region false [
 oo 2 (.box (.tmp 0)),
 oo 4 (.mov (.const (.nilIface)))] [0,4])
 (.seq
 (.region false [
 oo 6 (.faddr 0 7 (.tmp 2)),
 oo 7 (.faddr 5 1 (.tmp 6)),
 oo 8 (.load false 1 (.tmp 7)),
 om 9 1,
 oo 10 (.iaddr 3 (.tmp 8) (.tmp 9)),
 oo 11 (.load true 3 (.tmp 10)),
 oo 5 (.alloc [.lit (.int .i64 0),.lit (.int .u32 0),.lit (.int .u32 0)]),
 ⟨none,.store 3 (.tmp 5) (.tmp 11),none⟩] [6,7,8,9,10,11])
 (.seq
 (.block 0
 (.seq
 (.region false [
 oo 13 (.faddr 0 1 (.tmp 5)),
 oo 14 (.load false 1 (.tmp 13)),
 oo 15 (.faddr 0 7 (.tmp 2)),
 oo 16 (.faddr 1 1 (.tmp 15)),
 oo 17 (.load false 1 (.tmp 16)),
 oo 18 (.lenl (.tmp 17)),
 oo 19 (.callm 138 [.tmp 14,.tmp 18]),
 oo 20 (.un .not (.tmp 19)),
 om 12 20] [13,14,15,16,17,18,19,20])
 (.cond (.tmp 12)
 (.seq
 (.region false [
 oo 21 (.load false 1 (.global 5)),
 om 4 21] [1,2,5,12,21])
 .ret)
 (.seq
 (.region false [
 oo 23 (.load true 7 (.tmp 2)),
 oo 24 (.faddr 0 1 (.tmp 5)),
 oo 25 (.load false 1 (.tmp 24)),
 oo 26 (.faddr 1 2 (.tmp 5)),
 oo 27 (.faddr 0 1 (.tmp 26)),
 oo 28 (.load false 1 (.tmp 27)),
 oo 29 (.callm 139 [.tmp 23,.tmp 25,.tmp 28]),
 oo 30 (.un .not (.tmp 29)),
 om 22 30] [12,23,24,25,26,27,28,29,30])
 (.cond (.tmp 22)
 (.seq
 (.region false [
 oo 31 (.load false 1 (.global 6)),
 om 4 31] [1,2,5,22,31])
 .ret)
 (.seq
 (.region false [
 oo 33 (.faddr 1 2 (.tmp 5)),
 oo 34 (.faddr 1 1 (.tmp 33)),
 oo 35 (.load false 1 (.tmp 34)),
 oo 36 (.callm 145 [.tmp 35]),
 oo 37 (.un .not (.tmp 36)),
 om 32 37] [22,33,34,35,36,37])
 (.cond (.tmp 32)
 (.seq
 (.region false [
 oo 38 (.load false 1 (.global 4)),
 om 4 38] [1,2,5,32,38])
 .ret)
 (.seq
 (.seq
 (.region false [
 oo 40 (.faddr 0 7 (.tmp 2)),
 oo 41 (.faddr 5 1 (.tmp 40)),
 oo 42 (.load false 1 (.tmp 41)),
 om 43 1,
 oo 44 (.slc 3 (.tmp 42) none (some (.tmp 43))),
 oo 45 (.mkfn (.func 147) [] [.tmp 5]),
 oo 46 (.callm 146 [.tmp 44,.tmp 45]),
 om 39 46] [1,32,40,41,42,43,44,45,46])
 (.cond (.tmp 39)
 .skip
 (.region false [
 oo 47 (.faddr 0 7 (.tmp 2)),
 oo 48 (.faddr 2 1 (.tmp 47)),
 oo 49 (.load false 1 (.tmp 48)),
 oo 50 (.mkfn (.func 148) [] [.tmp 5]),
 oo 51 (.callm 140 [.tmp 49,.tmp 50]),
 om 39 51] [2,5,47,48,49,50,51])))
 (.cond (.tmp 39)
 (.seq
 (.region false [
 oo 52 (.load false 1 (.global 2)),
 om 4 52] [2,5,39,52])
 .ret)
 .skip)))))))) [2,5,39])
 (.seq
 (.region false [
 oo 4 (.mov (.const (.nilIface)))] [])
 .ret))))
abbrev v_q75 : List RV:= [.tmp 4]
abbrev f_q75 : FuncId:= 78
theorem k_q75 : closedOf Tryz.prog Tryz.f78 = (false,some true,some v_q75,some c_q75.plain,53):= by kernel_rfl
theorem ac_q75 {args : List AV} {r : AV} (h : aw Tryz.prog c_q75 (env0 args) (endQ v_q75 r)) (hargs : args.length ≤ 53:= by decide) (hok : resOK r = true:= by rfl) : AC Tryz.prog f_q75 args r :=
  AC_mk (by kernel_rfl) Tryz.func78 k_q75 hargs hok (by decide) h
def o_conf_checks_member_9 : List AOper:= [
 om 44 6,
 oo 45 (.callm 47 [.tmp 44]),
 oo 46 (.lenl (.tmp 45)),
 oo 47 (.faddr 3 1 (.tmp 5)),
 oo 48 (.load false 1 (.tmp 47)),
 oo 49 (.lenl (.tmp 48)),
 oo 50 (.bin .lss 3 (.tmp 46) (.tmp 49))]
abbrev do_conf_checks_member_9 : List (List Nat):= [[],[0],[1],[],[3],[4],[2,5]]
@[go_sem] theorem o_conf_checks_member_9_0 : List.getD o_conf_checks_member_9 0 default = om 44 6:= rfl
@[go_sem] theorem o_conf_checks_member_9_1 : List.getD o_conf_checks_member_9 1 default = oo 45 (.callm 47 [.tmp 44]):= rfl
@[go_sem] theorem o_conf_checks_member_9_2 : List.getD o_conf_checks_member_9 2 default = oo 46 (.lenl (.tmp 45)):= rfl
@[go_sem] theorem o_conf_checks_member_9_3 : List.getD o_conf_checks_member_9 3 default = oo 47 (.faddr 3 1 (.tmp 5)):= rfl
@[go_sem] theorem o_conf_checks_member_9_4 : List.getD o_conf_checks_member_9 4 default = oo 48 (.load false 1 (.tmp 47)):= rfl
@[go_sem] theorem o_conf_checks_member_9_5 : List.getD o_conf_checks_member_9 5 default = oo 49 (.lenl (.tmp 48)):= rfl
@[go_sem] theorem o_conf_checks_member_9_6 : List.getD o_conf_checks_member_9 6 default = oo 50 (.bin .lss 3 (.tmp 46) (.tmp 49)):= rfl
@[go_sem] theorem o_conf_checks_member_9_a : allocs o_conf_checks_member_9 = []:= rfl
theorem o_conf_checks_member_9_t : chkT o_conf_checks_member_9 do_conf_checks_member_9 o_conf_checks_member_9.length [] (.take 0 (.take 3 (.alt 1 (.take 2 (.alt 4 (.take 5 (.take 6 .done)) .non)) (.alt 4 (.take 5 (.alt 1 (.take 2 (.take 6 .done)) .non)) .non)))) = true:= by kernel_rfl
def c_q76 : ACode :=
 (.seq
 (.region false [
 oo 2 (.box (.tmp 0)),
 oo 4 (.mov (.const (.nilIface)))] [0,4])
 (.seq
 (.region false [
 oo 7 (.faddr 0 7 (.tmp 2)),
 oo 8 (.faddr 6 1 (.tmp 7)),
 oo 9 (.load false 1 (.tmp 8)),
 om 10 1,
 oo 11 (.iaddr 4 (.tmp 9) (.tmp 10)),
 oo 12 (.load true 4 (.tmp 11)),
 oo 5 (.alloc [.lit (.int .i64 0),.lit (.int .u32 0),.lit (.bool false),.sl .nil 0 []]),
 ⟨none,.store 4 (.tmp 5) (.tmp 12),none⟩] [1,7,8,9,10,11,12])
 (.seq
 (.block 0
 (.seq
 (.region false [
 oo 14 (.faddr 0 1 (.tmp 5)),
 oo 15 (.load false 1 (.tmp 14)),
 oo 16 (.faddr 0 7 (.tmp 2)),
 oo 17 (.faddr 1 1 (.tmp 16)),
 oo 18 (.load false 1 (.tmp 17)),
 oo 19 (.lenl (.tmp 18)),
 oo 20 (.callm 138 [.tmp 15,.tmp 19]),
 oo 21 (.un .not (.tmp 20)),
 om 13 21] [2,14,15,16,17,18,19,20,21])
 (.cond (.tmp 13)
 (.seq
 (.region false [
 oo 22 (.load false 1 (.global 5)),
 om 4 22] [5,13,22])
 .ret)
 (.seq
 (.region false [
 oo 24 (.faddr 1 1 (.tmp 5)),
 oo 25 (.load false 1 (.tmp 24)),
 oo 26 (.callm 145 [.tmp 25]),
 oo 27 (.un .not (.tmp 26)),
 om 28 27,
 og 29 (.faddr 3 1 (.tmp 5)) 28 false,
 og 30 (.load false 1 (.tmp 29)) 28 false,
 og 31 (.callm 149 [.tmp 30,.func 150]) 28 false,
 oo 32 (.pick (.tmp 28) (.const (.bool true)) (.tmp 31)),
 om 23 32] [13,24,25,26,27,28,29,30,31,32])
 (.cond (.tmp 23)
 (.seq
 (.region false [
 oo 33 (.load false 1 (.global 4)),
 om 4 33] [5,23,33])
 .ret)
 (.seq
 (.region false [
 oo 35 (.faddr 3 1 (.tmp 5)),
 oo 36 (.load false 1 (.tmp 35)),
 oo 37 (.lenl (.tmp 36)),
 oo 38 (.bin .gtr 3 (.tmp 37) (.const (.int .i64 4))),
 om 34 38] [23,35,36,37,38])
 (.cond (.tmp 34)
 (.seq
 (.region false [
 oo 39 (.load false 1 (.global 0)),
 om 4 39] [5,34,39])
 .ret)
 .skip)))))) [34])
 (.seq
 (.region false [
 oo 40 (.faddr 3 1 (.tmp 5)),
 oo 41 (.load false 1 (.tmp 40)),
 oo 42 (.callm 152 [.tmp 41]),
 oo 43 (.callm 151 [.tmp 42]),
 om 6 43] [40,41,42,43])
 (.seq
 (.seq
 (.shift
 (.any o_conf_checks_member_9 do_conf_checks_member_9 (.take 0 (.take 3 (.alt 1 (.take 2 (.alt 4 (.take 5 (.take 6 .done)) .non)) (.alt 4 (.take 5 (.alt 1 (.take 2 (.take 6 .done)) .non)) .non)))) [5,6,44,45,46,47,48,49]))
 (.cond (.tmp 50)
 (.seq
 (.region false [
 oo 51 (.load false 1 (.global 2)),
 om 4 51] [50,51])
 .ret)
 .skip))
 (.seq
 (.region false [
 oo 4 (.mov (.const (.nilIface)))] [50])
 .ret))))))
abbrev v_q76 : List RV:= [.tmp 4]
abbrev f_q76 : FuncId:= 79
theorem k_q76 : closedOf Tryz.prog Tryz.f79 [9] = (false,some true,some v_q76,some c_q76.plain,52):= by kernel_rfl
theorem ac_q76 {args : List AV} {r : AV} (h : aw Tryz.prog c_q76 (env0 args) (endQ v_q76 r)) (hargs : args.length ≤ 52:= by decide) (hok : resOK r = true:= by rfl) : AC Tryz.prog f_q76 args r :=
  AC_mk (by kernel_rfl) Tryz.func79 k_q76 hargs hok (by decide) h
def c_q92 : ACode :=
 (.seq
 (.region false [
 oo 2 (.mov (.const (.slice none 0 0)))] [2])
 (.seq
 (.seq
 (.region false [
 om 3 0,
 oo 4 (.eqs false (.tmp 3))] [3])
 (.cond (.tmp 4)
 (.seq
 (.region false [
 oo 2 (.mov (.const (.slice none 0 0)))] [0,4])
 .ret)
 .skip))
 (.seq
 (.shift
 (.region false [
 oo 5 (.bsl0 2),
 om 6 0,
 oo 7 (.app 2 24 [] (.tmp 5) (.tmp 6)),
 om 2 7] [0,4,5,6,7]))
 .ret)))
abbrev v_q92 : List RV:= [.tmp 2]
abbrev f_q92 : FuncId:= 96
theorem k_q92 : closedOf Tryz.prog Tryz.f96 = (false,some true,some v_q92,some c_q92.plain,8):= by kernel_rfl
theorem ac_q92 {args : List AV} {r : AV} (h : aw Tryz.prog c_q92 (env0 args) (endQ v_q92 r)) (hargs : args.length ≤ 8:= by decide) (hok : resOK r = true:= by rfl) : AC Tryz.prog f_q92 args r :=
  AC_mk (by kernel_rfl) Tryz.func96 k_q92 hargs hok (by decide) h
def c_q93 : ACode :=
 (.seq
 (.region false [
 oo 2 (.mov (.const (.slice none 0 0)))] [2])
 (.seq
 (.seq
 (.region false [
 om 3 0,
 oo 4 (.eqs false (.tmp 3))] [3])
 (.cond (.tmp 4)
 (.seq
 (.region false [
 oo 2 (.mov (.const (.slice none 0 0)))] [0,4])
 .ret)
 .skip))
 (.seq
 (.shift
 (.region false [
 oo 5 (.bsl0 3),
 om 6 0,
 oo 7 (.app 3 32 [] (.tmp 5) (.tmp 6)),
 om 2 7] [0,4,5,6,7]))
 .ret)))
abbrev v_q93 : List RV:= [.tmp 2]
abbrev f_q93 : FuncId:= 97
theorem k_q93 : closedOf Tryz.prog Tryz.f97 = (false,some true,some v_q93,some c_q93.plain,8):= by kernel_rfl
theorem ac_q93 {args : List AV} {r : AV} (h : aw Tryz.prog c_q93 (env0 args) (endQ v_q93 r)) (hargs : args.length ≤ 8:= by decide) (hok : resOK r = true:= by rfl) : AC Tryz.prog f_q93 args r :=
  AC_mk (by kernel_rfl) Tryz.func97 k_q93 hargs hok (by decide) h
def c_q94 : ACode :=
 (.seq
 (.region false [
 oo 2 (.mov (.const (.slice none 0 0)))] [2])
 (.seq
 (.seq
 (.region false [
 om 3 0,
 oo 4 (.eqs false (.tmp 3))] [3])
 (.cond (.tmp 4)
 (.seq
 (.region false [
 oo 2 (.mov (.const (.slice none 0 0)))] [0,4])
 .ret)
 .skip))
 (.seq
 (.shift
 (.region false [
 oo 5 (.bsl0 3),
 om 6 0,
 oo 7 (.app 3 24 [] (.tmp 5) (.tmp 6)),
 om 2 7] [0,4,5,6,7]))
 .ret)))
abbrev v_q94 : List RV:= [.tmp 2]
abbrev f_q94 : FuncId:= 98
theorem k_q94 : closedOf Tryz.prog Tryz.f98 = (false,some true,some v_q94,some c_q94.plain,8):= by kernel_rfl
theorem ac_q94 {args : List AV} {r : AV} (h : aw Tryz.prog c_q94 (env0 args) (endQ v_q94 r)) (hargs : args.length ≤ 8:= by decide) (hok : resOK r = true:= by rfl) : AC Tryz.prog f_q94 args r :=
  AC_mk (by kernel_rfl) Tryz.func98 k_q94 hargs hok (by decide) h
def c_q95 : ACode :=
 (.seq
 (.region false [
 oo 2 (.mov (.const (.slice none 0 0)))] [2])
 (.seq
 (.seq
 (.region false [
 om 3 0,
 oo 4 (.eqs false (.tmp 3))] [3])
 (.cond (.tmp 4)
 (.seq
 (.region false [
 oo 2 (.mov (.const (.slice none 0 0)))] [0,4])
 .ret)
 .skip))
 (.seq
 (.shift
 (.region false [
 oo 5 (.bsl0 5),
 om 6 0,
 oo 7 (.app 5 40 [] (.tmp 5) (.tmp 6)),
 om 2 7] [0,4,5,6,7]))
 .ret)))
abbrev v_q95 : List RV:= [.tmp 2]
abbrev f_q95 : FuncId:= 99
theorem k_q95 : closedOf Tryz.prog Tryz.f99 = (false,some true,some v_q95,some c_q95.plain,8):= by kernel_rfl
theorem ac_q95 {args : List AV} {r : AV} (h : aw Tryz.prog c_q95 (env0 args) (endQ v_q95 r)) (hargs : args.length ≤ 8:= by decide) (hok : resOK r = true:= by rfl) : AC Tryz.prog f_q95 args r :=
  AC_mk (by kernel_rfl) Tryz.func99 k_q95 hargs hok (by decide) h
def c_q96 : ACode :=
 (.seq
 (.region false [
 oo 2 (.mov (.const (.slice none 0 0)))] [2])
 (.seq
 (.seq
 (.region false [
 om 3 0,
 oo 4 (.eqs false (.tmp 3))] [3])
 (.cond (.tmp 4)
 (.seq
 (.region false [
 oo 2 (.mov (.const (.slice none 0 0)))] [0,4])
 .ret)
 .skip))
 (.seq
 (.shift
 (.region false [
 oo 5 (.bsl0 3),
 om 6 0,
 oo 7 (.app 3 24 [] (.tmp 5) (.tmp 6)),
 om 2 7] [0,4,5,6,7]))
 .ret)))
abbrev v_q96 : List RV:= [.tmp 2]
abbrev f_q96 : FuncId:= 100
theorem k_q96 : closedOf Tryz.prog Tryz.f100 = (false,some true,some v_q96,some c_q96.plain,8):= by kernel_rfl
theorem ac_q96 {args : List AV} {r : AV} (h : aw Tryz.prog c_q96 (env0 args) (endQ v_q96 r)) (hargs : args.length ≤ 8:= by decide) (hok : resOK r = true:= by rfl) : AC Tryz.prog f_q96 args r :=
  AC_mk (by kernel_rfl) Tryz.func100 k_q96 hargs hok (by decide) h
def c_q97 : ACode :=
 (.seq
 (.region false [
 oo 2 (.mov (.const (.slice none 0 0)))] [2])
 (.seq
 (.seq
 (.region false [
 om 3 0,
 oo 4 (.eqs false (.tmp 3))] [3])
 (.cond (.tmp 4)
 (.seq
 (.region false [
 oo 2 (.mov (.const (.slice none 0 0)))] [0,4])
 .ret)
 .skip))
 (.seq
 (.shift
 (.region false [
 oo 5 (.bsl0 3),
 om 6 0,
 oo 7 (.app 3 16 [] (.tmp 5) (.tmp 6)),
 om 2 7] [0,4,5,6,7]))
 .ret)))
abbrev v_q97 : List RV:= [.tmp 2]
abbrev f_q97 : FuncId:= 101
theorem k_q97 : closedOf Tryz.prog Tryz.f101 = (false,some true,some v_q97,some c_q97.plain,8):= by kernel_rfl
theorem ac_q97 {args : List AV} {r : AV} (h : aw Tryz.prog c_q97 (env0 args) (endQ v_q97 r)) (hargs : args.length ≤ 8:= by decide) (hok : resOK r = true:= by rfl) : AC Tryz.prog f_q97 args r :=
  AC_mk (by kernel_rfl) Tryz.func101 k_q97 hargs hok (by decide) h
def c_q98 : ACode :=
 (.seq
 (.region false [
 oo 2 (.mov (.const (.slice none 0 0)))] [2])
 (.seq
 (.seq
 (.region false [
 om 3 0,
 oo 4 (.eqs false (.tmp 3))] [3])
 (.cond (.tmp 4)
 (.seq
 (.region false [
 oo 2 (.mov (.const (.slice none 0 0)))] [0,4])
 .ret)
 .skip))
 (.seq
 (.shift
 (.region false [
 oo 5 (.bsl0 4),
 om 6 0,
 oo 7 (.app 4 40 [] (.tmp 5) (.tmp 6)),
 om 2 7] [0,4,5,6,7]))
 .ret)))
abbrev v_q98 : List RV:= [.tmp 2]
abbrev f_q98 : FuncId:= 102
theorem k_q98 : closedOf Tryz.prog Tryz.f102 = (false,some true,some v_q98,some c_q98.plain,8):= by kernel_rfl
theorem ac_q98 {args : List AV} {r : AV} (h : aw Tryz.prog c_q98 (env0 args) (endQ v_q98 r)) (hargs : args.length ≤ 8:= by decide) (hok : resOK r = true:= by rfl) : AC Tryz.prog f_q98 args r :=
  AC_mk (by kernel_rfl) Tryz.func102 k_q98 hargs hok (by decide) h
def c_q99 : ACode :=
 (.seq
 (.region false [
 oo 2 (.mov (.const (.int .i64 0)))] [2])
 (.seq
 (.region false [
 oo 5 (.callm 156 []),
 om 3 5] [5])
 (.seq
 (.seq
 (.region false [
 oo 4 (.mov (.const (.int .i64 0)))] [])
 (.block 0
 (.loop
 (.seq
 (.seq
 (.region false [
 om 6 4,
 om 7 3,
 oo 8 (.lenl (.tmp 7)),
 oo 9 (.bin .lss 3 (.tmp 6) (.tmp 8))] [6,7,8])
 (.cond (.tmp 9)
 .skip
 (.exit 0)))
 (.seq
 (.block 1
 (.seq
 (.region false [
 om 12 0,
 om 13 3,
 om 14 4,
 oo 15 (.iaddr 1 (.tmp 13) (.tmp 14)),
 oo 16 (.load false 1 (.tmp 15)),
 oo 17 (.callm 157 [.tmp 12,.tmp 16])] [9,12,13,14,15,16])
 (.cond (.tmp 17)
 (.seq
 (.region false [
 om 18 4,
 oo 19 (.bin .add 3 (.const (.int .i64 101)) (.tmp 18)),
 om 2 19] [0,3,4,17,18,19])
 .ret)
 .skip)) [17])
 (.region false [
 om 10 4,
 oo 11 (.bin .add 3 (.tmp 10) (.const (.int .i64 1))),
 om 4 11] [10,11]))) [] []) [0,3,4,9]))
 (.seq
 (.region false [
 oo 2 (.mov (.const (.int .i64 (-1))))] [])
 .ret))))
abbrev v_q99 : List RV:= [.tmp 2]
abbrev f_q99 : FuncId:= 103
theorem k_q99 : closedOf Tryz.prog Tryz.f103 = (false,some true,some v_q99,some c_q99.plain,20):= by kernel_rfl
theorem ac_q99 {args : List AV} {r : AV} (h : aw Tryz.prog c_q99 (env0 args) (endQ v_q99 r)) (hargs : args.length ≤ 20:= by decide) (hok : resOK r = true:= by rfl) : AC Tryz.prog f_q99 args r :=
  AC_mk (by kernel_rfl) Tryz.func103 k_q99 hargs hok (by decide) h
def c_q100 : ACode :=
 (.seq
 (.region false [
 oo 8 (.mov (.const (.bool true)))] [])
 (.seq
 (.region false [
 oo 9 (.mov (.const (.bool true)))] [])
 (.block 0
 (.loop
 (.block 1
 (.seq
 (.region false [
 om 19 2,
 om 20 1,
 oo 21 (.bin .sub 3 (.tmp 19) (.tmp 20)),
 om 10 21] [19,20,21])
 (.seq
 (.seq
 (.region false [
 om 22 10,
 oo 23 (.bin .leq 3 (.tmp 22) (.const (.int .i64 12)))] [22])
 (.cond (.tmp 23)
 (.seq
 (.region false [
 om 24 0,
 om 25 1,
 om 26 2,
 oo 27 (.callm 158 [.tmp 24,.tmp 25,.tmp 26])] [0,1,2,3,8,9,10,23,24,25,26,27])
 .ret)
 .skip))
 (.seq
 (.seq
 (.region false [
 om 28 3,
 oo 29 (.bin .eql 3 (.tmp 28) (.const (.int .i64 0)))] [23,28])
 (.cond (.tmp 29)
 (.seq
 (.region false [
 om 30 0,
 om 31 1,
 om 32 2,
 oo 33 (.callm 159 [.tmp 30,.tmp 31,.tmp 32])] [0,1,2,3,8,9,10,29,30,31,32,33])
 .ret)
 .skip))
 (.seq
 (.seq
 (.region false [
 om 34 8,
 oo 35 (.un .not (.tmp 34))] [29,34])
 (.cond (.tmp 35)
 (.seq
 (.region false [
 om 36 0,
 om 37 1,
 om 38 2,
 oo 39 (.callm 160 [.tmp 36,.tmp 37,.tmp 38])] [35,36,37,38,39])
 (.region false [
 om 40 3,
 oo 41 (.bin .sub 3 (.tmp 40) (.const (.int .i64 1))),
 om 3 41] [40,41]))
 .skip))
 (.seq
 (.region false [
 om 43 0,
 om 44 1,
 om 45 2,
 oo 46 (.callm 161 [.tmp 43,.tmp 44,.tmp 45]),
 om 42 46,
 oo 47 (.ext (.tmp 42) 0),
 oo 48 (.ext (.tmp 42) 1),
 om 11 47,
 om 12 48] [35,42,43,44,45,46,47,48])
 (.seq
 (.seq
 (.region false [
 om 49 12,
 oo 50 (.bin .eql 211 (.tmp 49) (.const (.int .i64 2)))] [49])
 (.cond (.tmp 50)
 (.seq
 (.region false [
 om 51 0,
 om 52 1,
 om 53 2,
 oo 54 (.callm 162 [.tmp 51,.tmp 52,.tmp 53])] [12,50,51,52,53,54])
 (.seq
 (.region false [
 om 55 2,
 oo 56 (.bin .sub 3 (.tmp 55) (.const (.int .i64 1))),
 om 57 11,
 om 58 1,
 oo 59 (.bin .sub 3 (.tmp 57) (.tmp 58)),
 oo 60 (.bin .sub 3 (.tmp 56) (.tmp 59)),
 om 11 60] [55,56,57,58,59,60])
 (.region false [
 oo 12 (.mov (.const (.int .i64 1)))] [])))
 .skip))
 (.seq
 (.seq
 (.region false [
 om 61 8,
 om 62 61,
 og 63 (.mov (.tmp 9)) 62 true,
 oo 64 (.pick (.tmp 62) (.tmp 63) (.const (.bool false))),
 om 65 64,
 og 66 (.mov (.tmp 12)) 65 true,
 og 67 (.bin .eql 211 (.tmp 66) (.const (.int .i64 1))) 65 true,
 oo 68 (.pick (.tmp 65) (.tmp 67) (.const (.bool false)))] [12,50,61,62,63,64,65,66,67])
 (.cond (.tmp 68)
 (.seq
 (.region false [
 om 69 0,
 om 70 1,
 om 71 2,
 oo 72 (.callm 163 [.tmp 69,.tmp 70,.tmp 71])] [68,69,70,71])
 (.cond (.tmp 72)
 .ret
 .skip))
 .skip))
 (.seq
 (.seq
 (.region true [
 om 73 1,
 oo 74 (.bin .gtr 3 (.tmp 73) (.const (.int .i64 0))),
 om 75 74,
 og 76 (.mov (.tmp 0)) 75 true,
 og 77 (.mov (.tmp 1)) 75 true,
 og 78 (.bin .sub 3 (.tmp 77) (.const (.int .i64 1))) 75 true,
 og 79 (.iaddr 1 (.tmp 76) (.tmp 78)) 75 true,
 og 80 (.load false 1 (.tmp 79)) 75 true,
 og 81 (.mov (.tmp 0)) 75 true,
 og 82 (.mov (.tmp 11)) 75 true,
 og 83 (.iaddr 1 (.tmp 81) (.tmp 82)) 75 true,
 og 84 (.load false 1 (.tmp 83)) 75 true,
 og 85 (.call 164 [.tmp 80,.tmp 84]) 75 true,
 og 86 (.un .not (.tmp 85)) 75 true,
 oo 87 (.pick (.tmp 75) (.tmp 86) (.const (.bool false)))] [68,72,73,74,75,76,77,78,79,80,81,82,83,84,85,86])
 (.cond (.tmp 87)
 (.seq
 (.region false [
 om 88 0,
 om 89 1,
 om 90 2,
 om 91 11,
 oo 92 (.callm 165 [.tmp 88,.tmp 89,.tmp 90,.tmp 91]),
 om 13 92] [1,10,11,87,88,89,90,91,92])
 (.seq
 (.region false [
 om 93 13,
 om 1 93] [13,93])
 (.exit 1)))
 .skip))
 (.seq
 (.region false [
 om 95 0,
 om 96 1,
 om 97 2,
 om 98 11,
 oo 99 (.callm 166 [.tmp 95,.tmp 96,.tmp 97,.tmp 98]),
 om 94 99,
 oo 100 (.ext (.tmp 94) 0),
 oo 101 (.ext (.tmp 94) 1),
 om 14 100,
 om 15 101] [8,9,11,87,94,95,96,97,98,99,100,101])
 (.seq
 (.region false [
 om 102 15,
 om 9 102] [15,102])
 (.seq
 (.region false [
 om 103 14,
 om 104 1,
 oo 105 (.bin .sub 3 (.tmp 103) (.tmp 104)),
 om 106 2,
 om 107 14,
 oo 108 (.bin .sub 3 (.tmp 106) (.tmp 107)),
 om 16 105,
 om 17 108] [103,104,105,106,107,108])
 (.seq
 (.region false [
 om 109 10,
 oo 110 (.bin .quo 3 (.tmp 109) (.const (.int .i64 8))),
 om 18 110] [10,109,110])
 (.seq
 (.region false [
 om 111 16,
 om 112 17,
 oo 113 (.bin .lss 3 (.tmp 111) (.tmp 112))] [111,112])
 (.cond (.tmp 113)
 (.seq
 (.region false [
 om 114 16,
 om 115 18,
 oo 116 (.bin .geq 3 (.tmp 114) (.tmp 115)),
 om 8 116] [16,17,18,113,114,115,116])
 (.seq
 (.region false [
 om 117 0,
 om 118 1,
 om 119 14,
 om 120 3,
 oo 121 (.callm 104 [.tmp 117,.tmp 118,.tmp 119,.tmp 120])] [1,117,118,119,120,121])
 (.region false [
 om 122 14,
 oo 123 (.bin .add 3 (.tmp 122) (.const (.int .i64 1))),
 om 1 123] [14,122,123])))
 (.seq
 (.region false [
 om 124 17,
 om 125 18,
 oo 126 (.bin .geq 3 (.tmp 124) (.tmp 125)),
 om 8 126] [16,17,18,113,124,125,126])
 (.seq
 (.region false [
 om 127 0,
 om 128 14,
 oo 129 (.bin .add 3 (.tmp 128) (.const (.int .i64 1))),
 om 130 2,
 om 131 3,
 oo 132 (.callm 104 [.tmp 127,.tmp 129,.tmp 130,.tmp 131])] [2,127,128,129,130,131,132])
 (.region false [
 om 133 14,
 om 2 133] [14,133]))))))))))))))))) []) [] []) [])))
abbrev v_q100 : List RV:= []
abbrev f_q100 : FuncId:= 104
theorem k_q100 : closedOf Tryz.prog Tryz.f104 = (false,some true,some v_q100,some c_q100.plain,134):= by kernel_rfl
theorem ac_q100 {args : List AV} {r : AV} (h : aw Tryz.prog c_q100 (env0 args) (endQ v_q100 r)) (hargs : args.length ≤ 134:= by decide) (hok : resOK r = true:= by rfl) : AC Tryz.prog f_q100 args r :=
  AC_mk (by kernel_rfl) Tryz.func104 k_q100 hargs hok (by decide) h
theorem am_q100 {args : List AV} {c0 c1 : List (Nat × List AV)} {r : AV} (h : aw Tryz.prog c_q100 (env0M args c0) (endM v_q100 r (c0.map (·.1)) c1)) (hc0 : ∀ q ∈ c0,100000 ≤ q.1) (hargs : args.length ≤ 134:= by decide) (hok : resOK r = true:= by rfl) : AM Tryz.prog f_q100 args c0 r c1 :=
  AM_mk (by kernel_rfl) Tryz.func104 k_q100 hargs hok (by decide) hc0 h
def c_q101 : ACode :=
 (.seq
 (.region false [
 oo 2 (.mov (.const (.int .i64 0)))] [2])
 (.seq
 (.cond (.const (.bool false))
 (.seq
 (.region false [
 om 3 0,
 oo 4 (.cint .u32 (.tmp 3)),
 oo 5 (.callm 167 [.tmp 4]),
 om 2 5] [0,3,4,5])
 .ret)
 .skip)
 (.seq
 (.region false [
 om 6 0,
 oo 7 (.callm 168 [.tmp 6]),
 om 2 7] [0,6,7])
 .ret)))
abbrev v_q101 : List RV:= [.tmp 2]
abbrev f_q101 : FuncId:= 105
theorem k_q101 : closedOf Tryz.prog Tryz.f105 = (false,some true,some v_q101,some c_q101.plain,8):= by kernel_rfl
theorem ac_q101 {args : List AV} {r : AV} (h : aw Tryz.prog c_q101 (env0 args) (endQ v_q101 r)) (hargs : args.length ≤ 8:= by decide) (hok : resOK r = true:= by rfl) : AC Tryz.prog f_q101 args r :=
  AC_mk (by kernel_rfl) Tryz.func105 k_q101 hargs hok (by decide) h
def c_q102 : ACode :=
 (.seq
 (.region false [
 oo 2 (.box (.tmp 0)),
 oo 4 (.mov (.const (.int .i64 0)))] [0,4])
 (.seq
 (.region false [
 oo 7 (.faddr 0 1 (.tmp 2)),
 oo 8 (.load false 1 (.tmp 7)),
 om 9 1,
 oo 10 (.iaddr 2 (.tmp 8) (.tmp 9)),
 oo 11 (.load true 2 (.tmp 10)),
 oo 5 (.alloc [.lit (.string ⟨#[]⟩),.lit (.int .i64 0)]),
 ⟨none,.store 2 (.tmp 5) (.tmp 11),none⟩] [7,8,9,10,11])
 (.seq
 (.seq
 (.region false [
 oo 12 (.faddr 0 1 (.tmp 5)),
 oo 13 (.load false 1 (.tmp 12)),
 oo 14 (.callm 169 [.tmp 13]),
 oo 15 (.bin .neq 3 (.tmp 14) (.const (.int .i64 0)))] [12,13,14])
 (.cond (.tmp 15)
 (.seq
 (.region false [
 oo 4 (.mov (.const (.int .i64 109)))] [1,2,5,15])
 .ret)
 .skip))
 (.seq
 (.seq
 (.region false [
 oo 6 (.mov (.const (.int .i64 0)))] [15])
 (.block 0
 (.loop
 (.seq
 (.seq
 (.region false [
 om 16 6,
 om 17 1,
 oo 18 (.bin .lss 3 (.tmp 16) (.tmp 17))] [16,17])
 (.cond (.tmp 18)
 .skip
 (.exit 0)))
 (.seq
 (.block 1
 (.seq
 (.region true [
 oo 21 (.faddr 0 1 (.tmp 2)),
 oo 22 (.load false 1 (.tmp 21)),
 om 23 6,
 oo 24 (.iaddr 2 (.tmp 22) (.tmp 23)),
 oo 25 (.faddr 0 1 (.tmp 24)),
 oo 26 (.load false 1 (.tmp 25)),
 oo 27 (.faddr 0 1 (.tmp 5)),
 oo 28 (.load false 1 (.tmp 27)),
 oo 29 (.bin .eql 9 (.tmp 26) (.tmp 28))] [18,21,22,23,24,25,26,27,28])
 (.cond (.tmp 29)
 (.seq
 (.region false [
 oo 4 (.mov (.const (.int .i64 110)))] [1,2,5,6,29])
 .ret)
 .skip)) [29])
 (.region false [
 om 19 6,
 oo 20 (.bin .add 3 (.tmp 19) (.const (.int .i64 1))),
 om 6 20] [19,20]))) [] []) [1,2,6,18]))
 (.seq
 (.seq
 (.region false [
 oo 30 (.faddr 1 1 (.tmp 5)),
 oo 31 (.load false 1 (.tmp 30)),
 oo 32 (.bin .lss 3 (.tmp 31) (.const (.int .i64 0))),
 om 33 32,
 og 34 (.faddr 1 1 (.tmp 5)) 33 false,
 og 35 (.load false 1 (.tmp 34)) 33 false,
 og 36 (.bin .gtr 3 (.tmp 35) (.const (.int .i64 65535))) 33 false,
 oo 37 (.pick (.tmp 33) (.const (.bool true)) (.tmp 36))] [5,30,31,32,33,34,35,36])
 (.cond (.tmp 37)
 (.seq
 (.region false [
 oo 4 (.mov (.const (.int .i64 103)))] [37])
 .ret)
 .skip))
 (.seq
 (.region false [
 oo 4 (.mov (.const (.int .i64 0)))] [37])
 .ret))))))
abbrev v_q102 : List RV:= [.tmp 4]
abbrev f_q102 : FuncId:= 106
theorem k_q102 : closedOf Tryz.prog Tryz.f106 = (false,some true,some v_q102,some c_q102.plain,38):= by kernel_rfl
theorem ac_q102 {args : List AV} {r : AV} (h : aw Tryz.prog c_q102 (env0 args) (endQ v_q102 r)) (hargs : args.length ≤ 38:= by decide) (hok : resOK r = true:= by rfl) : AC Tryz.prog f_q102 args r :=
  AC_mk (by kernel_rfl) Tryz.func106 k_q102 hargs hok (by decide) h
def c_q103 : ACode :=
 (.seq
 (.region false [
 oo 2 (.box (.tmp 0)),
 oo 4 (.mov (.const (.int .i64 0)))] [0,4])
 (.seq
 (.region false [
 oo 7 (.faddr 1 1 (.tmp 2)),
 oo 8 (.load false 1 (.tmp 7)),
 om 9 1,
 oo 10 (.iaddr 3 (.tmp 8) (.tmp 9)),
 oo 11 (.load true 3 (.tmp 10)),
 oo 5 (.alloc [.lit (.string ⟨#[]⟩),.lit (.int .u32 0),.lit (.int .i64 0)]),
 ⟨none,.store 3 (.tmp 5) (.tmp 11),none⟩] [7,8,9,10,11])
 (.seq
 (.seq
 (.region false [
 oo 12 (.faddr 0 1 (.tmp 5)),
 oo 13 (.load false 1 (.tmp 12)),
 oo 14 (.callm 169 [.tmp 13]),
 oo 15 (.bin .neq 3 (.tmp 14) (.const (.int .i64 0)))] [12,13,14])
 (.cond (.tmp 15)
 (.seq
 (.region false [
 oo 4 (.mov (.const (.int .i64 109)))] [1,2,5,15])
 .ret)
 .skip))
 (.seq
 (.seq
 (.region false [
 oo 6 (.mov (.const (.int .i64 0)))] [15])
 (.block 0
 (.loop
 (.seq
 (.seq
 (.region false [
 om 16 6,
 om 17 1,
 oo 18 (.bin .lss 3 (.tmp 16) (.tmp 17))] [16,17])
 (.cond (.tmp 18)
 .skip
 (.exit 0)))
 (.seq
 (.block 1
 (.seq
 (.region true [
 oo 21 (.faddr 1 1 (.tmp 2)),
 oo 22 (.load false 1 (.tmp 21)),
 om 23 6,
 oo 24 (.iaddr 3 (.tmp 22) (.tmp 23)),
 oo 25 (.faddr 0 1 (.tmp 24)),
 oo 26 (.load false 1 (.tmp 25)),
 oo 27 (.faddr 0 1 (.tmp 5)),
 oo 28 (.load false 1 (.tmp 27)),
 oo 29 (.bin .eql 9 (.tmp 26) (.tmp 28))] [18,21,22,23,24,25,26,27,28])
 (.cond (.tmp 29)
 (.seq
 (.region false [
 oo 4 (.mov (.const (.int .i64 110)))] [1,2,5,6,29])
 .ret)
 .skip)) [29])
 (.region false [
 om 19 6,
 oo 20 (.bin .add 3 (.tmp 19) (.const (.int .i64 1))),
 om 6 20] [19,20]))) [] []) [1,2,6,18]))
 (.seq
 (.seq
 (.region false [
 oo 30 (.faddr 1 2 (.tmp 5)),
 oo 31 (.load true 2 (.tmp 30)),
 oo 32 (.callm 170 [.tmp 31]),
 oo 33 (.un .not (.tmp 32))] [30,31,32])
 (.cond (.tmp 33)
 (.seq
 (.region false [
 oo 4 (.mov (.const (.int .i64 103)))] [5,33])
 .ret)
 .skip))
 (.seq
 (.seq
 (.region true [
 oo 34 (.faddr 1 2 (.tmp 5)),
 oo 35 (.load true 2 (.tmp 34)),
 oo 36 (.call 69 []),
 oo 37 (.call 171 [.tmp 35,.tmp 36]),
 om 38 37,
 og 39 (.call 69 []) 38 false,
 og 40 (.faddr 1 2 (.tmp 5)) 38 false,
 og 41 (.load true 2 (.tmp 40)) 38 false,
 og 42 (.call 171 [.tmp 39,.tmp 41]) 38 false,
 oo 43 (.pick (.tmp 38) (.const (.bool true)) (.tmp 42))] [5,33,34,35,36,37,38,39,40,41,42])
 (.cond (.tmp 43)
 (.seq
 (.region false [
 oo 4 (.mov (.const (.int .i64 113)))] [43])
 .ret)
 .skip))
 (.seq
 (.region false [
 oo 4 (.mov (.const (.int .i64 0)))] [43])
 .ret)))))))
abbrev v_q103 : List RV:= [.tmp 4]
abbrev f_q103 : FuncId:= 107
theorem k_q103 : closedOf Tryz.prog Tryz.f107 = (false,some true,some v_q103,some c_q103.plain,44):= by kernel_rfl
theorem ac_q103 {args : List AV} {r : AV} (h : aw Tryz.prog c_q103 (env0 args) (endQ v_q103 r)) (hargs : args.length ≤ 44:= by decide) (hok : resOK r = true:= by rfl) : AC Tryz.prog f_q103 args r :=
  AC_mk (by kernel_rfl) Tryz.func107 k_q103 hargs hok (by decide) h
def c_q104 : ACode :=
 (.seq
 (.region false [
 oo 2 (.box (.tmp 0)),
 oo 4 (.mov (.const (.int .i64 0)))] [0,4])
 (.seq
 (.region false [
 oo 8 (.faddr 2 1 (.tmp 2)),
 oo 9 (.load false 1 (.tmp 8)),
 om 10 1,
 oo 11 (.iaddr 3 (.tmp 9) (.tmp 10)),
 oo 12 (.load true 3 (.tmp 11)),
 oo 5 (.alloc [.lit (.int .i64 0),.lit (.int .i64 0),.lit (.int .u32 0)]),
 ⟨none,.store 3 (.tmp 5) (.tmp 12),none⟩] [8,9,10,11,12])
 (.seq
 (.seq
 (.region false [
 oo 13 (.faddr 0 1 (.tmp 5)),
 oo 14 (.load false 1 (.tmp 13)),
 oo 15 (.faddr 0 1 (.tmp 2)),
 oo 16 (.load false 1 (.tmp 15)),
 oo 17 (.lenl (.tmp 16)),
 oo 18 (.callm 172 [.tmp 14,.tmp 17]),
 oo 19 (.un .not (.tmp 18)),
 om 20 19,
 og 21 (.faddr 1 1 (.tmp 5)) 20 false,
 og 22 (.load false 1 (.tmp 21)) 20 false,
 og 23 (.faddr 1 1 (.tmp 2)) 20 false,
 og 24 (.load false 1 (.tmp 23)) 20 false,
 og 25 (.lenl (.tmp 24)) 20 false,
 og 26 (.callm 172 [.tmp 22,.tmp 25]) 20 false,
 og 27 (.un .not (.tmp 26)) 20 false,
 oo 28 (.pick (.tmp 20) (.const (.bool true)) (.tmp 27))] [13,14,15,16,17,18,19,20,21,22,23,24,25,26,27])
 (.cond (.tmp 28)
 (.seq
 (.region false [
 oo 4 (.mov (.const (.int .i64 111)))] [1,2,5,28])
 .ret)
 .skip))
 (.seq
 (.seq
 (.region true [
 oo 29 (.faddr 2 1 (.tmp 5)),
 oo 30 (.load false 1 (.tmp 29)),
 oo 31 (.bin .eql 32 (.tmp 30) (.const (.int .u32 0))),
 om 32 31,
 og 33 (.faddr 1 1 (.tmp 2)) 32 false,
 og 34 (.load false 1 (.tmp 33)) 32 false,
 og 35 (.faddr 1 1 (.tmp 5)) 32 false,
 og 36 (.load false 1 (.tmp 35)) 32 false,
 og 37 (.iaddr 3 (.tmp 34) (.tmp 36)) 32 false,
 og 38 (.faddr 1 2 (.tmp 37)) 32 false,
 og 39 (.load true 2 (.tmp 38)) 32 false,
 og 40 (.faddr 2 1 (.tmp 5)) 32 false,
 og 41 (.load false 1 (.tmp 40)) 32 false,
 og 42 (.call 173 [.tmp 39,.tmp 41]) 32 false,
 og 43 (.un .not (.tmp 42)) 32 false,
 oo 44 (.pick (.tmp 32) (.const (.bool true)) (.tmp 43))] [28,29,30,31,32,33,34,35,36,37,38,39,40,41,42,43])
 (.cond (.tmp 44)
 (.seq
 (.region false [
 oo 4 (.mov (.const (.int .i64 112)))] [1,2,5,44])
 .ret)
 .skip))
 (.seq
 (.seq
 (.region false [
 oo 6 (.mov (.const (.int .i64 0)))] [44])
 (.block 0
 (.loop
 (.seq
 (.seq
 (.region false [
 om 45 6,
 om 46 1,
 oo 47 (.bin .lss 3 (.tmp 45) (.tmp 46))] [45,46])
 (.cond (.tmp 47)
 .skip
 (.exit 0)))
 (.seq
 (.block 1
 (.seq
 (.region false [
 oo 50 (.faddr 2 1 (.tmp 2)),
 oo 51 (.load false 1 (.tmp 50)),
 om 52 6,
 oo 53 (.iaddr 3 (.tmp 51) (.tmp 52)),
 oo 54 (.load true 3 (.tmp 53)),
 oo 7 (.alloc [.lit (.int .i64 0),.lit (.int .i64 0),.lit (.int .u32 0)]),
 ⟨none,.store 3 (.tmp 7) (.tmp 54),none⟩] [47,50,51,52,53,54])
 (.seq
 (.region false [
 oo 55 (.faddr 2 1 (.tmp 7)),
 oo 56 (.load false 1 (.tmp 55)),
 oo 57 (.faddr 2 1 (.tmp 5)),
 oo 58 (.load false 1 (.tmp 57)),
 oo 59 (.bin .eql 32 (.tmp 56) (.tmp 58)),
 om 60 59,
 og 61 (.faddr 0 1 (.tmp 7)) 60 false,
 og 62 (.load false 1 (.tmp 61)) 60 false,
 og 63 (.faddr 0 1 (.tmp 5)) 60 false,
 og 64 (.load false 1 (.tmp 63)) 60 false,
 og 65 (.bin .eql 3 (.tmp 62) (.tmp 64)) 60 false,
 og 66 (.mov (.tmp 65)) 60 false,
 og 67 (.faddr 1 1 (.tmp 7)) 66 true,
 og 68 (.load false 1 (.tmp 67)) 66 true,
 og 69 (.faddr 1 1 (.tmp 5)) 66 true,
 og 70 (.load false 1 (.tmp 69)) 66 true,
 og 71 (.bin .eql 3 (.tmp 68) (.tmp 70)) 66 true,
 og 72 (.pick (.tmp 66) (.tmp 71) (.const (.bool false))) 60 false,
 oo 73 (.pick (.tmp 60) (.const (.bool true)) (.tmp 72))] [7,55,56,57,58,59,60,61,62,63,64,65,66,67,68,69,70,71,72])
 (.cond (.tmp 73)
 (.seq
 (.region false [
 oo 4 (.mov (.const (.int .i64 110)))] [1,2,5,6,73])
 .ret)
 .skip))) [73])
 (.region false [
 om 48 6,
 oo 49 (.bin .add 3 (.tmp 48) (.const (.int .i64 1))),
 om 6 49] [48,49]))) [] [7]) [1,2,5,6,47]))
 (.seq
 (.region false [
 oo 4 (.mov (.const (.int .i64 0)))] [])
 .ret))))))
abbrev v_q104 : List RV:= [.tmp 4]
abbrev f_q104 : FuncId:= 108
theorem k_q104 : closedOf Tryz.prog Tryz.f108 = (false,some true,some v_q104,some c_q104.plain,74):= by kernel_rfl
theorem ac_q104 {args : List AV} {r : AV} (h : aw Tryz.prog c_q104 (env0 args) (endQ v_q104 r)) (hargs : args.length ≤ 74:= by decide) (hok : resOK r = true:= by rfl) : AC Tryz.prog f_q104 args r :=
  AC_mk (by kernel_rfl) Tryz.func108 k_q104 hargs hok (by decide) h
def c_q105 : ACode :=
 (.seq
 (.region false [
 oo 2 (.box (.tmp 0)),
 oo 4 (.mov (.const (.int .i64 0)))] [0,4])
 (.seq
 (.region false [
 oo 6 (.faddr 3 1 (.tmp 2)),
 oo 7 (.load false 1 (.tmp 6)),
 om 8 1,
 oo 9 (.iaddr 5 (.tmp 7) (.tmp 8)),
 oo 10 (.load true 5 (.tmp 9)),
 oo 5 (.alloc [.lit (.int .i64 0),.lit (.int .u32 0),.lit (.int .i64 0),.lit (.int .u32 0),.lit (.int .i64 0)]),
 ⟨none,.store 5 (.tmp 5) (.tmp 10),none⟩] [1,6,7,8,9,10])
 (.seq
 (.seq
 (.region false [
 oo 11 (.faddr 0 1 (.tmp 5)),
 oo 12 (.load false 1 (.tmp 11)),
 oo 13 (.faddr 0 1 (.tmp 2)),
 oo 14 (.load false 1 (.tmp 13)),
 oo 15 (.lenl (.tmp 14)),
 oo 16 (.callm 172 [.tmp 12,.tmp 15]),
 oo 17 (.un .not (.tmp 16))] [2,11,12,13,14,15,16])
 (.cond (.tmp 17)
 (.seq
 (.region false [
 oo 4 (.mov (.const (.int .i64 111)))] [5,17])
 .ret)
 .skip))
 (.seq
 (.seq
 (.region false [
 oo 18 (.faddr 1 2 (.tmp 5)),
 oo 19 (.load true 2 (.tmp 18)),
 oo 20 (.callm 170 [.tmp 19]),
 oo 21 (.un .not (.tmp 20)),
 om 22 21,
 og 23 (.faddr 4 1 (.tmp 5)) 22 false,
 og 24 (.load false 1 (.tmp 23)) 22 false,
 og 25 (.bin .lss 3 (.tmp 24) (.const (.int .i64 0))) 22 false,
 oo 26 (.pick (.tmp 22) (.const (.bool true)) (.tmp 25)),
 om 27 26,
 og 28 (.faddr 4 1 (.tmp 5)) 27 false,
 og 29 (.load false 1 (.tmp 28)) 27 false,
 og 30 (.bin .gtr 3 (.tmp 29) (.const (.int .i64 65535))) 27 false,
 oo 31 (.pick (.tmp 27) (.const (.bool true)) (.tmp 30))] [17,18,19,20,21,22,23,24,25,26,27,28,29,30])
 (.cond (.tmp 31)
 (.seq
 (.region false [
 oo 4 (.mov (.const (.int .i64 103)))] [5,31])
 .ret)
 .skip))
 (.seq
 (.seq
 (.region false [
 oo 32 (.faddr 3 1 (.tmp 5)),
 oo 33 (.load false 1 (.tmp 32)),
 oo 34 (.callm 174 [.tmp 33]),
 om 35 34,
 og 36 (.faddr 3 1 (.tmp 5)) 35 false,
 og 37 (.load false 1 (.tmp 36)) 35 false,
 og 38 (.bin .eql 32 (.tmp 37) (.const (.int .u32 0))) 35 false,
 oo 39 (.pick (.tmp 35) (.const (.bool true)) (.tmp 38))] [5,31,32,33,34,35,36,37,38])
 (.cond (.tmp 39)
 (.seq
 (.region false [
 oo 4 (.mov (.const (.int .i64 113)))] [39])
 .ret)
 .skip))
 (.seq
 (.region false [
 oo 4 (.mov (.const (.int .i64 0)))] [39])
 .ret))))))
abbrev v_q105 : List RV:= [.tmp 4]
abbrev f_q105 : FuncId:= 109
theorem k_q105 : closedOf Tryz.prog Tryz.f109 = (false,some true,some v_q105,some c_q105.plain,40):= by kernel_rfl
theorem ac_q105 {args : List AV} {r : AV} (h : aw Tryz.prog c_q105 (env0 args) (endQ v_q105 r)) (hargs : args.length ≤ 40:= by decide) (hok : resOK r = true:= by rfl) : AC Tryz.prog f_q105 args r :=
  AC_mk (by kernel_rfl) Tryz.func109 k_q105 hargs hok (by decide) h
def c_q106 : ACode :=
 (.seq
 (.region false [
 oo 2 (.box (.tmp 0)),
 oo 4 (.mov (.const (.int .i64 0)))] [0,4])
 (.seq
 (.region false [
 oo 7 (.faddr 4 1 (.tmp 2)),
 oo 8 (.load false 1 (.tmp 7)),
 om 9 1,
 oo 10 (.iaddr 3 (.tmp 8) (.tmp 9)),
 oo 11 (.load true 3 (.tmp 10)),
 oo 5 (.alloc [.lit (.int .u32 0),.lit (.int .i64 0),.lit (.int .u32 0)]),
 ⟨none,.store 3 (.tmp 5) (.tmp 11),none⟩] [7,8,9,10,11])
 (.seq
 (.seq
 (.region false [
 oo 12 (.faddr 0 2 (.tmp 5)),
 oo 13 (.load true 2 (.tmp 12)),
 oo 14 (.callm 170 [.tmp 13]),
 oo 15 (.un .not (.tmp 14))] [12,13,14])
 (.cond (.tmp 15)
 (.seq
 (.region false [
 oo 4 (.mov (.const (.int .i64 103)))] [1,2,5,15])
 .ret)
 .skip))
 (.seq
 (.seq
 (.region true [
 oo 16 (.faddr 0 2 (.tmp 5)),
 oo 17 (.load true 2 (.tmp 16)),
 oo 18 (.call 69 []),
 oo 19 (.call 171 [.tmp 17,.tmp 18]),
 oo 20 (.un .not (.tmp 19)),
 om 21 20,
 og 22 (.faddr 2 1 (.tmp 5)) 21 false,
 og 23 (.load false 1 (.tmp 22)) 21 false,
 og 24 (.call 174 [.tmp 23]) 21 false,
 oo 25 (.pick (.tmp 21) (.const (.bool true)) (.tmp 24)),
 om 26 25,
 og 27 (.faddr 2 1 (.tmp 5)) 26 false,
 og 28 (.load false 1 (.tmp 27)) 26 false,
 og 29 (.bin .eql 32 (.tmp 28) (.const (.int .u32 0))) 26 false,
 oo 30 (.pick (.tmp 26) (.const (.bool true)) (.tmp 29))] [15,16,17,18,19,20,21,22,23,24,25,26,27,28,29])
 (.cond (.tmp 30)
 (.seq
 (.region false [
 oo 4 (.mov (.const (.int .i64 113)))] [1,2,5,30])
 .ret)
 .skip))
 (.seq
 (.seq
 (.region false [
 oo 6 (.mov (.const (.int .i64 0)))] [30])
 (.block 0
 (.loop
 (.seq
 (.seq
 (.region false [
 om 31 6,
 om 32 1,
 oo 33 (.bin .lss 3 (.tmp 31) (.tmp 32))] [31,32])
 (.cond (.tmp 33)
 .skip
 (.exit 0)))
 (.seq
 (.block 1
 (.seq
 (.region true [
 oo 36 (.faddr 4 1 (.tmp 2)),
 oo 37 (.load false 1 (.tmp 36)),
 om 38 6,
 oo 39 (.iaddr 3 (.tmp 37) (.tmp 38)),
 oo 40 (.faddr 0 2 (.tmp 39)),
 oo 41 (.load true 2 (.tmp 40)),
 oo 42 (.faddr 0 2 (.tmp 5)),
 oo 43 (.load true 2 (.tmp 42)),
 oo 44 (.call 128 [.tmp 41,.tmp 43])] [33,36,37,38,39,40,41,42,43])
 (.cond (.tmp 44)
 (.seq
 (.region false [
 oo 4 (.mov (.const (.int .i64 110)))] [1,2,5,6,44])
 .ret)
 .skip)) [44])
 (.region false [
 om 34 6,
 oo 35 (.bin .add 3 (.tmp 34) (.const (.int .i64 1))),
 om 6 35] [34,35]))) [] []) [1,2,5,6,33]))
 (.seq
 (.region false [
 oo 4 (.mov (.const (.int .i64 0)))] [])
 .ret))))))
abbrev v_q106 : List RV:= [.tmp 4]
abbrev f_q106 : FuncId:= 110
theorem k_q106 : closedOf Tryz.prog Tryz.f110 = (false,some true,some v_q106,some c_q106.plain,45):= by kernel_rfl
theorem ac_q106 {args : List AV} {r : AV} (h : aw Tryz.prog c_q106 (env0 args) (endQ v_q106 r)) (hargs : args.length ≤ 45:= by decide) (hok : resOK r = true:= by rfl) : AC Tryz.prog f_q106 args r :=
  AC_mk (by kernel_rfl) Tryz.func110 k_q106 hargs hok (by decide) h
def c_q107 : ACode :=
 (.seq
 (.region false [
 oo 2 (.box (.tmp 0)),
 oo 4 (.mov (.const (.int .i64 0)))] [0,4])
 (.seq
 (.region false [
 oo 9 (.faddr 5 1 (.tmp 2)),
 oo 10 (.load false 1 (.tmp 9)),
 om 11 1,
 oo 12 (.iaddr 3 (.tmp 10) (.tmp 11)),
 oo 13 (.load true 3 (.tmp 12)),
 oo 5 (.alloc [.lit (.int .i64 0),.lit (.int .u32 0),.lit (.int .u32 0)]),
 ⟨none,.store 3 (.tmp 5) (.tmp 13),none⟩] [9,10,11,12,13])
 (.seq
 (.seq
 (.region false [
 oo 14 (.faddr 0 1 (.tmp 5)),
 oo 15 (.load false 1 (.tmp 14)),
 oo 16 (.faddr 1 1 (.tmp 2)),
 oo 17 (.load false 1 (.tmp 16)),
 oo 18 (.lenl (.tmp 17)),
 oo 19 (.callm 172 [.tmp 15,.tmp 18]),
 oo 20 (.un .not (.tmp 19))] [14,15,16,17,18,19])
 (.cond (.tmp 20)
 (.seq
 (.region false [
 oo 4 (.mov (.const (.int .i64 111)))] [1,2,5,20])
 .ret)
 .skip))
 (.seq
 (.seq
 (.region true [
 oo 21 (.faddr 1 2 (.tmp 5)),
 oo 22 (.faddr 0 1 (.tmp 21)),
 oo 23 (.load false 1 (.tmp 22)),
 oo 24 (.bin .eql 32 (.tmp 23) (.const (.int .u32 0))),
 om 25 24,
 og 26 (.faddr 1 1 (.tmp 2)) 25 false,
 og 27 (.load false 1 (.tmp 26)) 25 false,
 og 28 (.faddr 0 1 (.tmp 5)) 25 false,
 og 29 (.load false 1 (.tmp 28)) 25 false,
 og 30 (.iaddr 3 (.tmp 27) (.tmp 29)) 25 false,
 og 31 (.faddr 1 2 (.tmp 30)) 25 false,
 og 32 (.load true 2 (.tmp 31)) 25 false,
 og 33 (.faddr 1 2 (.tmp 5)) 25 false,
 og 34 (.faddr 0 1 (.tmp 33)) 25 false,
 og 35 (.load false 1 (.tmp 34)) 25 false,
 og 36 (.call 173 [.tmp 32,.tmp 35]) 25 false,
 og 37 (.un .not (.tmp 36)) 25 false,
 oo 38 (.pick (.tmp 25) (.const (.bool true)) (.tmp 37))] [20,21,22,23,24,25,26,27,28,29,30,31,32,33,34,35,36,37])
 (.cond (.tmp 38)
 (.seq
 (.region false [
 oo 4 (.mov (.const (.int .i64 112)))] [1,2,5,38])
 .ret)
 .skip))
 (.seq
 (.seq
 (.region false [
 oo 39 (.faddr 1 2 (.tmp 5)),
 oo 40 (.faddr 1 1 (.tmp 39)),
 oo 41 (.load false 1 (.tmp 40)),
 oo 42 (.callm 174 [.tmp 41]),
 oo 43 (.un .not (.tmp 42))] [38,39,40,41,42])
 (.cond (.tmp 43)
 (.seq
 (.region false [
 oo 4 (.mov (.const (.int .i64 113)))] [1,2,5,43])
 .ret)
 .skip))
 (.seq
 (.seq
 (.region false [
 oo 6 (.mov (.const (.int .i64 0)))] [43])
 (.block 0
 (.loop
 (.seq
 (.seq
 (.region false [
 om 44 6,
 om 45 1,
 oo 46 (.bin .lss 3 (.tmp 44) (.tmp 45))] [44,45])
 (.cond (.tmp 46)
 .skip
 (.exit 0)))
 (.seq
 (.block 1
 (.seq
 (.region false [
 oo 49 (.faddr 5 1 (.tmp 2)),
 oo 50 (.load false 1 (.tmp 49)),
 om 51 6,
 oo 52 (.iaddr 3 (.tmp 50) (.tmp 51)),
 oo 53 (.load true 3 (.tmp 52)),
 oo 7 (.alloc [.lit (.int .i64 0),.lit (.int .u32 0),.lit (.int .u32 0)]),
 ⟨none,.store 3 (.tmp 7) (.tmp 53),none⟩] [46,49,50,51,52,53])
 (.seq
 (.region false [
 oo 54 (.faddr 1 2 (.tmp 7)),
 oo 55 (.load true 2 (.tmp 54)),
 oo 56 (.faddr 1 2 (.tmp 5)),
 oo 57 (.load true 2 (.tmp 56)),
 oo 58 (.callm 175 [.tmp 55,.tmp 57]),
 om 59 58,
 og 60 (.faddr 1 2 (.tmp 7)) 59 false,
 og 61 (.faddr 0 1 (.tmp 60)) 59 false,
 og 62 (.load false 1 (.tmp 61)) 59 false,
 og 63 (.faddr 1 2 (.tmp 5)) 59 false,
 og 64 (.faddr 0 1 (.tmp 63)) 59 false,
 og 65 (.load false 1 (.tmp 64)) 59 false,
 og 66 (.bin .eql 32 (.tmp 62) (.tmp 65)) 59 false,
 og 67 (.mov (.tmp 66)) 59 false,
 og 68 (.faddr 0 1 (.tmp 7)) 67 true,
 og 69 (.load false 1 (.tmp 68)) 67 true,
 og 70 (.faddr 0 1 (.tmp 5)) 67 true,
 og 71 (.load false 1 (.tmp 70)) 67 true,
 og 72 (.bin .neq 3 (.tmp 69) (.tmp 71)) 67 true,
 og 73 (.pick (.tmp 67) (.tmp 72) (.const (.bool false))) 59 false,
 oo 74 (.pick (.tmp 59) (.const (.bool true)) (.tmp 73))] [7,54,55,56,57,58,59,60,61,62,63,64,65,66,67,68,69,70,71,72,73])
 (.cond (.tmp 74)
 (.seq
 (.region false [
 oo 4 (.mov (.const (.int .i64 110)))] [1,2,5,6,74])
 .ret)
 .skip))) [74])
 (.region false [
 om 47 6,
 oo 48 (.bin .add 3 (.tmp 47) (.const (.int .i64 1))),
 om 6 48] [47,48]))) [] [7]) [1,6,46]))
 (.seq
 (.seq
 (.region false [
 oo 8 (.mov (.const (.int .i64 0)))] [])
 (.block 2
 (.loop
 (.seq
 (.seq
 (.region false [
 om 75 8,
 oo 76 (.faddr 2 1 (.tmp 2)),
 oo 77 (.load false 1 (.tmp 76)),
 oo 78 (.lenl (.tmp 77)),
 oo 79 (.bin .lss 3 (.tmp 75) (.tmp 78))] [75,76,77,78])
 (.cond (.tmp 79)
 .skip
 (.exit 2)))
 (.seq
 (.block 3
 (.seq
 (.region true [
 oo 82 (.faddr 2 1 (.tmp 2)),
 oo 83 (.load false 1 (.tmp 82)),
 om 84 8,
 oo 85 (.iaddr 3 (.tmp 83) (.tmp 84)),
 oo 86 (.faddr 2 1 (.tmp 85)),
 oo 87 (.load false 1 (.tmp 86)),
 oo 88 (.faddr 1 2 (.tmp 5)),
 oo 89 (.faddr 0 1 (.tmp 88)),
 oo 90 (.load false 1 (.tmp 89)),
 oo 91 (.bin .eql 32 (.tmp 87) (.tmp 90))] [79,82,83,84,85,86,87,88,89,90])
 (.cond (.tmp 91)
 (.seq
 (.region false [
 oo 4 (.mov (.const (.int .i64 110)))] [2,5,8,91])
 .ret)
 .skip)) [91])
 (.region false [
 om 80 8,
 oo 81 (.bin .add 3 (.tmp 80) (.const (.int .i64 1))),
 om 8 81] [80,81]))) [] []) [2,5,8,79]))
 (.seq
 (.region false [
 oo 4 (.mov (.const (.int .i64 0)))] [])
 .ret))))))))
abbrev v_q107 : List RV:= [.tmp 4]
abbrev f_q107 : FuncId:= 111
theorem k_q107 : closedOf Tryz.prog Tryz.f111 = (false,some true,some v_q107,some c_q107.plain,92):= by kernel_rfl
theorem ac_q107 {args : List AV} {r : AV} (h : aw Tryz.prog c_q107 (env0 args) (endQ v_q107 r)) (hargs : args.length ≤ 92:= by decide) (hok : resOK r = true:= by rfl) : AC Tryz.prog f_q107 args r :=
  AC_mk (by kernel_rfl) Tryz.func111 k_q107 hargs hok (by decide) h
def c_q108 : ACode :=
 (.seq
 (.region false [
 oo 2 (.box (.tmp 0)),
 oo 4 (.mov (.const (.int .i64 0)))] [0,4])
 (.seq
 (.region false [
 oo 9 (.faddr 6 1 (.tmp 2)),
 oo 10 (.load false 1 (.tmp 9)),
 om 11 1,
 oo 12 (.iaddr 4 (.tmp 10) (.tmp 11)),
 oo 13 (.load true 4 (.tmp 12)),
 oo 5 (.alloc [.lit (.int .i64 0),.lit (.int .u32 0),.lit (.bool false),.sl .nil 0 []]),
 ⟨none,.store 4 (.tmp 5) (.tmp 13),none⟩] [1,9,10,11,12,13])
 (.seq
 (.seq
 (.region false [
 oo 14 (.faddr 0 1 (.tmp 5)),
 oo 15 (.load false 1 (.tmp 14)),
 oo 16 (.faddr 1 1 (.tmp 2)),
 oo 17 (.load false 1 (.tmp 16)),
 oo 18 (.lenl (.tmp 17)),
 oo 19 (.callm 172 [.tmp 15,.tmp 18]),
 oo 20 (.un .not (.tmp 19))] [2,14,15,16,17,18,19])
 (.cond (.tmp 20)
 (.seq
 (.region false [
 oo 4 (.mov (.const (.int .i64 111)))] [5,20])
 .ret)
 .skip))
 (.seq
 (.region false [
 oo 21 (.faddr 1 1 (.tmp 5)),
 oo 22 (.load false 1 (.tmp 21)),
 oo 23 (.callm 174 [.tmp 22]),
 oo 24 (.un .not (.tmp 23)),
 om 6 24] [20,21,22,23,24])
 (.seq
 (.seq
 (.region false [
 oo 7 (.mov (.const (.int .i64 0)))] [])
 (.block 0
 (.loop
 (.seq
 (.seq
 (.region false [
 om 25 7,
 oo 26 (.faddr 3 1 (.tmp 5)),
 oo 27 (.load false 1 (.tmp 26)),
 oo 28 (.lenl (.tmp 27)),
 oo 29 (.bin .lss 3 (.tmp 25) (.tmp 28))] [25,26,27,28])
 (.cond (.tmp 29)
 .skip
 (.exit 0)))
 (.seq
 (.block 1
 (.region false [
 om 32 6,
 om 33 32,
 og 34 (.faddr 3 1 (.tmp 5)) 33 false,
 og 35 (.load false 1 (.tmp 34)) 33 false,
 og 36 (.mov (.tmp 7)) 33 false,
 og 37 (.iaddr 1 (.tmp 35) (.tmp 36)) 33 false,
 og 38 (.load false 1 (.tmp 37)) 33 false,
 og 39 (.callm 174 [.tmp 38]) 33 false,
 oo 40 (.pick (.tmp 33) (.const (.bool true)) (.tmp 39)),
 om 41 40,
 og 42 (.faddr 3 1 (.tmp 5)) 41 false,
 og 43 (.load false 1 (.tmp 42)) 41 false,
 og 44 (.mov (.tmp 7)) 41 false,
 og 45 (.iaddr 1 (.tmp 43) (.tmp 44)) 41 false,
 og 46 (.load false 1 (.tmp 45)) 41 false,
 og 47 (.bin .eql 32 (.tmp 46) (.const (.int .u32 0))) 41 false,
 oo 48 (.pick (.tmp 41) (.const (.bool true)) (.tmp 47)),
 om 6 48] [29,32,33,34,35,36,37,38,39,40,41,42,43,44,45,46,47,48]) [])
 (.region false [
 om 30 7,
 oo 31 (.bin .add 3 (.tmp 30) (.const (.int .i64 1))),
 om 7 31] [30,31]))) [] []) [7,29]))
 (.seq
 (.seq
 (.region false [
 om 49 6] [6])
 (.cond (.tmp 49)
 (.seq
 (.region false [
 oo 4 (.mov (.const (.int .i64 113)))] [5,49])
 .ret)
 .skip))
 (.seq
 (.seq
 (.region false [
 oo 50 (.faddr 3 1 (.tmp 5)),
 oo 51 (.load false 1 (.tmp 50)),
 oo 52 (.lenl (.tmp 51)),
 oo 53 (.bin .gtr 3 (.tmp 52) (.const (.int .i64 4)))] [49,50,51,52])
 (.cond (.tmp 53)
 (.seq
 (.region false [
 oo 4 (.mov (.const (.int .i64 104)))] [5,53])
 .ret)
 .skip))
 (.seq
 (.seq
 (.region false [
 oo 8 (.mov (.const (.int .i64 0)))] [53])
 (.block 2
 (.loop
 (.seq
 (.seq
 (.region false [
 om 54 8,
 oo 55 (.faddr 3 1 (.tmp 5)),
 oo 56 (.load false 1 (.tmp 55)),
 oo 57 (.lenl (.tmp 56)),
 oo 58 (.bin .lss 3 (.tmp 54) (.tmp 57))] [54,55,56,57])
 (.cond (.tmp 58)
 .skip
 (.exit 2)))
 (.seq
 (.block 3
 (.seq
 (.region true [
 oo 61 (.faddr 3 1 (.tmp 5)),
 oo 62 (.load false 1 (.tmp 61)),
 om 63 8,
 oo 64 (.slc 1 (.tmp 62) none (some (.tmp 63))),
 oo 65 (.faddr 3 1 (.tmp 5)),
 oo 66 (.load false 1 (.tmp 65)),
 om 67 8,
 oo 68 (.iaddr 1 (.tmp 66) (.tmp 67)),
 oo 69 (.load false 1 (.tmp 68)),
 oo 70 (.call 176 [.tmp 64,.tmp 69])] [58,61,62,63,64,65,66,67,68,69])
 (.cond (.tmp 70)
 (.seq
 (.region false [
 oo 4 (.mov (.const (.int .i64 110)))] [5,8,70])
 .ret)
 .skip)) [70])
 (.region false [
 om 59 8,
 oo 60 (.bin .add 3 (.tmp 59) (.const (.int .i64 1))),
 om 8 60] [59,60]))) [] []) [5,8,58]))
 (.seq
 (.region false [
 oo 4 (.mov (.const (.int .i64 0)))] [])
 .ret)))))))))
abbrev v_q108 : List RV:= [.tmp 4]
abbrev f_q108 : FuncId:= 112
theorem k_q108 : closedOf Tryz.prog Tryz.f112 = (false,some true,some v_q108,some c_q108.plain,71):= by kernel_rfl
theorem ac_q108 {args : List AV} {r : AV} (h : aw Tryz.prog c_q108 (env0 args) (endQ v_q108 r)) (hargs : args.length ≤ 71:= by decide) (hok : resOK r = true:= by rfl) : AC Tryz.prog f_q108 args r :=
  AC_mk (by kernel_rfl) Tryz.func112 k_q108 hargs hok (by decide) h
def c_q109 : ACode :=
 (.seq
 (.region false [
 oo 2 (.mov (.const (.slice none 0 0)))] [2])
 (.seq
 (.seq
 (.region false [
 om 3 0,
 oo 4 (.eqs false (.tmp 3))] [3])
 (.cond (.tmp 4)
 (.seq
 (.region false [
 oo 2 (.mov (.const (.slice none 0 0)))] [0,4])
 .ret)
 .skip))
 (.seq
 (.shift
 (.region false [
 oo 5 (.bsl0 1),
 om 6 0,
 oo 7 (.app 1 8 [] (.tmp 5) (.tmp 6)),
 om 2 7] [0,4,5,6,7]))
 .ret)))
abbrev v_q109 : List RV:= [.tmp 2]
abbrev f_q109 : FuncId:= 113
theorem k_q109 : closedOf Tryz.prog Tryz.f113 = (false,some true,some v_q109,some c_q109.plain,8):= by kernel_rfl
theorem ac_q109 {args : List AV} {r : AV} (h : aw Tryz.prog c_q109 (env0 args) (endQ v_q109 r)) (hargs : args.length ≤ 8:= by decide) (hok : resOK r = true:= by rfl) : AC Tryz.prog f_q109 args r :=
  AC_mk (by kernel_rfl) Tryz.func113 k_q109 hargs hok (by decide) h
def c_q110 : ACode :=
 (.seq
 (.region false [
 oo 4 (.mov (.const (.int .i64 0)))] [4])
 (.seq
 (.seq
 (.region false [
 om 6 0,
 oo 7 (.lenl (.tmp 6)),
 oo 8 (.mov (.const (.int .i64 0)))] [6])
 (.block 0
 (.loop
 (.seq
 (.region false [
 oo 9 (.bin .lss 3 (.tmp 8) (.tmp 7))] [])
 (.seq
 (.cond (.tmp 9)
 .skip
 (.exit 0))
 (.seq
 (.block 1
 (.seq
 (.region false [
 om 10 8,
 om 5 10] [9,10])
 (.seq
 (.region false [
 om 11 1,
 om 12 0,
 om 13 5,
 oo 14 (.iaddr 1 (.tmp 12) (.tmp 13)),
 oo 15 (.load false 1 (.tmp 14)),
 oo 16 (.callvm (.tmp 11) [.tmp 15])] [11,12,13,14,15])
 (.cond (.tmp 16)
 (.seq
 (.region false [
 om 17 5,
 om 4 17] [0,1,5,7,8,16,17])
 .ret)
 .skip))) [5,16])
 (.region false [
 oo 18 (.bin .add 3 (.tmp 8) (.const (.int .i64 1))),
 om 8 18] [18])))) [] []) [0,1,7,8,9]))
 (.seq
 (.region false [
 oo 4 (.mov (.const (.int .i64 (-1))))] [])
 .ret)))
abbrev v_q110 : List RV:= [.tmp 4]
abbrev f_q110 : FuncId:= 114
theorem k_q110 : closedOf Tryz.prog Tryz.f114 = (false,some true,some v_q110,some c_q110.plain,19):= by kernel_rfl
theorem ac_q110 {args : List AV} {r : AV} (h : aw Tryz.prog c_q110 (env0 args) (endQ v_q110 r)) (hargs : args.length ≤ 19:= by decide) (hok : resOK r = true:= by rfl) : AC Tryz.prog f_q110 args r :=
  AC_mk (by kernel_rfl) Tryz.func114 k_q110 hargs hok (by decide) h
def c_q111 : ACode :=
 (.seq
 (.region false [
 oo 2 (.mov (.const (.slice none 0 0)))] [2])
 (.seq
 (.region false [
 om 5 0,
 oo 6 (.lenl (.tmp 5)),
 oo 7 (.mko 1 4 (.tmp 6)),
 om 3 7] [5,6,7])
 (.seq
 (.seq
 (.region false [
 oo 4 (.mov (.const (.int .i64 0)))] [])
 (.block 0
 (.loop
 (.seq
 (.seq
 (.region false [
 om 8 4,
 om 9 0,
 oo 10 (.lenl (.tmp 9)),
 oo 11 (.bin .lss 3 (.tmp 8) (.tmp 10))] [8,9,10])
 (.cond (.tmp 11)
 .skip
 (.exit 0)))
 (.seq
 (.block 1
 (.region false [
 om 14 3,
 om 15 0,
 om 16 4,
 oo 17 (.iaddr 1 (.tmp 15) (.tmp 16)),
 oo 18 (.load false 1 (.tmp 17)),
 oo 19 (.bslice 1 1 [.tmp 18]),
 oo 20 (.app 1 4 [] (.tmp 14) (.tmp 19)),
 om 3 20] [11,14,15,16,17,18,19,20]) [])
 (.region false [
 om 12 4,
 oo 13 (.bin .add 3 (.tmp 12) (.const (.int .i64 1))),
 om 4 13] [12,13]))) [] []) [0,4,11]))
 (.seq
 (.region false [
 om 21 3,
 om 2 21] [3,21])
 .ret))))
abbrev v_q111 : List RV:= [.tmp 2]
abbrev f_q111 : FuncId:= 115
theorem k_q111 : closedOf Tryz.prog Tryz.f115 = (false,some true,some v_q111,some c_q111.plain,22):= by kernel_rfl
theorem ac_q111 {args : List AV} {r : AV} (h : aw Tryz.prog c_q111 (env0 args) (endQ v_q111 r)) (hargs : args.length ≤ 22:= by decide) (hok : resOK r = true:= by rfl) : AC Tryz.prog f_q111 args r :=
  AC_mk (by kernel_rfl) Tryz.func115 k_q111 hargs hok (by decide) h
def c_q112 : ACode :=
 (.seq
 (.region false [
 oo 2 (.box (.tmp 0)),
 oo 3 (.box (.tmp 1)),
 oo 4 (.mov (.const (.bool false)))] [0,1,4])
 (.seq
 (.region false [
 oo 5 (.faddr 0 1 (.tmp 2)),
 oo 6 (.load false 1 (.tmp 5)),
 oo 7 (.faddr 0 1 (.tmp 3)),
 oo 8 (.load false 1 (.tmp 7)),
 oo 9 (.bin .eql 3 (.tmp 6) (.tmp 8)),
 om 10 9,
 og 11 (.faddr 1 1 (.tmp 2)) 10 true,
 og 12 (.load false 1 (.tmp 11)) 10 true,
 og 13 (.faddr 1 1 (.tmp 3)) 10 true,
 og 14 (.load false 1 (.tmp 13)) 10 true,
 og 15 (.bin .eql 3 (.tmp 12) (.tmp 14)) 10 true,
 oo 16 (.pick (.tmp 10) (.tmp 15) (.const (.bool false))),
 om 17 16,
 og 18 (.faddr 2 1 (.tmp 2)) 17 true,
 og 19 (.load false 1 (.tmp 18)) 17 true,
 og 20 (.faddr 2 1 (.tmp 3)) 17 true,
 og 21 (.load false 1 (.tmp 20)) 17 true,
 og 22 (.bin .eql 32 (.tmp 19) (.tmp 21)) 17 true,
 oo 23 (.pick (.tmp 17) (.tmp 22) (.const (.bool false))),
 om 4 23] [2,3,5,6,7,8,9,10,11,12,13,14,15,16,17,18,19,20,21,22,23])
 .ret))
abbrev v_q112 : List RV:= [.tmp 4]
abbrev f_q112 : FuncId:= 116
theorem k_q112 : closedOf Tryz.prog Tryz.f116 = (false,some true,some v_q112,some c_q112.plain,24):= by kernel_rfl
theorem ac_q112 {args : List AV} {r : AV} (h : aw Tryz.prog c_q112 (env0 args) (endQ v_q112 r)) (hargs : args.length ≤ 24:= by decide) (hok : resOK r = true:= by rfl) : AC Tryz.prog f_q112 args r :=
  AC_mk (by kernel_rfl) Tryz.func116 k_q112 hargs hok (by decide) h
def c_q113 : ACode :=
 (.seq
 (.region false [
 oo 2 (.box (.tmp 0)),
 oo 3 (.box (.tmp 1)),
 oo 4 (.mov (.const (.bool false)))] [0,1,4])
 (.seq
 (.region false [
 oo 5 (.faddr 0 1 (.tmp 2)),
 oo 6 (.load false 1 (.tmp 5)),
 oo 7 (.faddr 0 1 (.tmp 3)),
 oo 8 (.load false 1 (.tmp 7)),
 oo 9 (.bin .eql 3 (.tmp 6) (.tmp 8)),
 om 10 9,
 og 11 (.faddr 1 2 (.tmp 2)) 10 true,
 og 12 (.load true 2 (.tmp 11)) 10 true,
 og 13 (.faddr 1 2 (.tmp 3)) 10 true,
 og 14 (.load true 2 (.tmp 13)) 10 true,
 og 15 (.callm 128 [.tmp 12,.tmp 14]) 10 true,
 oo 16 (.pick (.tmp 10) (.tmp 15) (.const (.bool false))),
 om 17 16,
 og 18 (.faddr 3 1 (.tmp 2)) 17 true,
 og 19 (.load false 1 (.tmp 18)) 17 true,
 og 20 (.faddr 3 1 (.tmp 3)) 17 true,
 og 21 (.load false 1 (.tmp 20)) 17 true,
 og 22 (.bin .eql 32 (.tmp 19) (.tmp 21)) 17 true,
 oo 23 (.pick (.tmp 17) (.tmp 22) (.const (.bool false))),
 om 24 23,
 og 25 (.faddr 4 1 (.tmp 2)) 24 true,
 og 26 (.load false 1 (.tmp 25)) 24 true,
 og 27 (.faddr 4 1 (.tmp 3)) 24 true,
 og 28 (.load false 1 (.tmp 27)) 24 true,
 og 29 (.bin .eql 3 (.tmp 26) (.tmp 28)) 24 true,
 oo 30 (.pick (.tmp 24) (.tmp 29) (.const (.bool false))),
 om 4 30] [2,3,5,6,7,8,9,10,11,12,13,14,15,16,17,18,19,20,21,22,23,24,25,26,27,28,29,30])
 .ret))
abbrev v_q113 : List RV:= [.tmp 4]
abbrev f_q113 : FuncId:= 117
theorem k_q113 : closedOf Tryz.prog Tryz.f117 = (false,some true,some v_q113,some c_q113.plain,31):= by kernel_rfl
theorem ac_q113 {args : List AV} {r : AV} (h : aw Tryz.prog c_q113 (env0 args) (endQ v_q113 r)) (hargs : args.length ≤ 31:= by decide) (hok : resOK r = true:= by rfl) : AC Tryz.prog f_q113 args r :=
  AC_mk (by kernel_rfl) Tryz.func117 k_q113 hargs hok (by decide) h
def c_q114 : ACode :=
 (.seq
 (.region false [
 oo 2 (.box (.tmp 0)),
 oo 3 (.box (.tmp 1)),
 oo 4 (.mov (.const (.bool false)))] [0,1,4])
 (.seq
 (.region false [
 oo 5 (.faddr 0 2 (.tmp 2)),
 oo 6 (.load true 2 (.tmp 5)),
 oo 7 (.faddr 0 2 (.tmp 3)),
 oo 8 (.load true 2 (.tmp 7)),
 oo 9 (.callm 128 [.tmp 6,.tmp 8]),
 om 10 9,
 og 11 (.faddr 2 1 (.tmp 2)) 10 true,
 og 12 (.load false 1 (.tmp 11)) 10 true,
 og 13 (.faddr 2 1 (.tmp 3)) 10 true,
 og 14 (.load false 1 (.tmp 13)) 10 true,
 og 15 (.bin .eql 32 (.tmp 12) (.tmp 14)) 10 true,
 oo 16 (.pick (.tmp 10) (.tmp 15) (.const (.bool false))),
 om 4 16] [2,3,5,6,7,8,9,10,11,12,13,14,15,16])
 .ret))
abbrev v_q114 : List RV:= [.tmp 4]
abbrev f_q114 : FuncId:= 118
theorem k_q114 : closedOf Tryz.prog Tryz.f118 = (false,some true,some v_q114,some c_q114.plain,17):= by kernel_rfl
theorem ac_q114 {args : List AV} {r : AV} (h : aw Tryz.prog c_q114 (env0 args) (endQ v_q114 r)) (hargs : args.length ≤ 17:= by decide) (hok : resOK r = true:= by rfl) : AC Tryz.prog f_q114 args r :=
  AC_mk (by kernel_rfl) Tryz.func118 k_q114 hargs hok (by decide) h
def c_q115 : ACode :=
 (.seq
 (.region false [
 oo 2 (.box (.tmp 0)),
 oo 3 (.box (.tmp 1)),
 oo 4 (.mov (.const (.bool false)))] [0,1,4])
 (.seq
 (.region false [
 oo 5 (.faddr 0 1 (.tmp 2)),
 oo 6 (.load false 1 (.tmp 5)),
 oo 7 (.faddr 0 1 (.tmp 3)),
 oo 8 (.load false 1 (.tmp 7)),
 oo 9 (.bin .eql 3 (.tmp 6) (.tmp 8)),
 om 10 9,
 og 11 (.faddr 1 2 (.tmp 2)) 10 true,
 og 12 (.load true 2 (.tmp 11)) 10 true,
 og 13 (.faddr 1 2 (.tmp 3)) 10 true,
 og 14 (.load true 2 (.tmp 13)) 10 true,
 og 15 (.callm 175 [.tmp 12,.tmp 14]) 10 true,
 oo 16 (.pick (.tmp 10) (.tmp 15) (.const (.bool false))),
 om 4 16] [2,3,5,6,7,8,9,10,11,12,13,14,15,16])
 .ret))
abbrev v_q115 : List RV:= [.tmp 4]
abbrev f_q115 : FuncId:= 119
theorem k_q115 : closedOf Tryz.prog Tryz.f119 = (false,some true,some v_q115,some c_q115.plain,17):= by kernel_rfl
theorem ac_q115 {args : List AV} {r : AV} (h : aw Tryz.prog c_q115 (env0 args) (endQ v_q115 r)) (hargs : args.length ≤ 17:= by decide) (hok : resOK r = true:= by rfl) : AC Tryz.prog f_q115 args r :=
  AC_mk (by kernel_rfl) Tryz.func119 k_q115 hargs hok (by decide) h
def c_q116 : ACode :=
 (.seq
 (.region false [
 oo 2 (.box (.tmp 0)),
 oo 3 (.box (.tmp 1)),
 oo 4 (.mov (.const (.bool false)))] [0,1,4])
 (.seq
 (.region false [
 oo 5 (.faddr 0 1 (.tmp 2)),
 oo 6 (.load false 1 (.tmp 5)),
 oo 7 (.faddr 0 1 (.tmp 3)),
 oo 8 (.load false 1 (.tmp 7)),
 oo 9 (.bin .eql 3 (.tmp 6) (.tmp 8)),
 om 10 9,
 og 11 (.faddr 1 1 (.tmp 2)) 10 true,
 og 12 (.load false 1 (.tmp 11)) 10 true,
 og 13 (.faddr 1 1 (.tmp 3)) 10 true,
 og 14 (.load false 1 (.tmp 13)) 10 true,
 og 15 (.bin .eql 32 (.tmp 12) (.tmp 14)) 10 true,
 oo 16 (.pick (.tmp 10) (.tmp 15) (.const (.bool false))),
 om 17 16,
 og 18 (.faddr 2 1 (.tmp 2)) 17 true,
 og 19 (.load false 1 (.tmp 18)) 17 true,
 og 20 (.faddr 2 1 (.tmp 3)) 17 true,
 og 21 (.load false 1 (.tmp 20)) 17 true,
 og 22 (.eqb false 4 (.tmp 19) (.tmp 21)) 17 true,
 oo 23 (.pick (.tmp 17) (.tmp 22) (.const (.bool false))),
 om 24 23,
 og 25 (.faddr 3 1 (.tmp 2)) 24 true,
 og 26 (.load false 1 (.tmp 25)) 24 true,
 og 27 (.faddr 3 1 (.tmp 3)) 24 true,
 og 28 (.load false 1 (.tmp 27)) 24 true,
 og 29 (.callm 24 [.tmp 26,.tmp 28]) 24 true,
 oo 30 (.pick (.tmp 24) (.tmp 29) (.const (.bool false))),
 om 4 30] [2,3,5,6,7,8,9,10,11,12,13,14,15,16,17,18,19,20,21,22,23,24,25,26,27,28,29,30])
 .ret))
abbrev v_q116 : List RV:= [.tmp 4]
abbrev f_q116 : FuncId:= 120
theorem k_q116 : closedOf Tryz.prog Tryz.f120 = (false,some true,some v_q116,some c_q116.plain,31):= by kernel_rfl
theorem ac_q116 {args : List AV} {r : AV} (h : aw Tryz.prog c_q116 (env0 args) (endQ v_q116 r)) (hargs : args.length ≤ 31:= by decide) (hok : resOK r = true:= by rfl) : AC Tryz.prog f_q116 args r :=
  AC_mk (by kernel_rfl) Tryz.func120 k_q116 hargs hok (by decide) h
def c_q124 : ACode :=
 (.seq
 (.region false [
 oo 2 (.box (.tmp 0)),
 oo 3 (.box (.tmp 1)),
 oo 4 (.mov (.const (.bool false)))] [0,1,4])
 (.seq
 (.region false [
 oo 5 (.faddr 0 1 (.tmp 2)),
 oo 6 (.load false 1 (.tmp 5)),
 oo 7 (.faddr 0 1 (.tmp 3)),
 oo 8 (.load false 1 (.tmp 7)),
 oo 9 (.bin .eql 32 (.tmp 6) (.tmp 8)),
 om 10 9,
 og 11 (.faddr 1 1 (.tmp 2)) 10 true,
 og 12 (.load false 1 (.tmp 11)) 10 true,
 og 13 (.faddr 1 1 (.tmp 3)) 10 true,
 og 14 (.load false 1 (.tmp 13)) 10 true,
 og 15 (.bin .eql 3 (.tmp 12) (.tmp 14)) 10 true,
 oo 16 (.pick (.tmp 10) (.tmp 15) (.const (.bool false))),
 om 4 16] [2,3,5,6,7,8,9,10,11,12,13,14,15,16])
 .ret))
abbrev v_q124 : List RV:= [.tmp 4]
abbrev f_q124 : FuncId:= 128
theorem k_q124 : closedOf Tryz.prog Tryz.f128 = (false,some true,some v_q124,some c_q124.plain,17):= by kernel_rfl
theorem ac_q124 {args : List AV} {r : AV} (h : aw Tryz.prog c_q124 (env0 args) (endQ v_q124 r)) (hargs : args.length ≤ 17:= by decide) (hok : resOK r = true:= by rfl) : AC Tryz.prog f_q124 args r :=
  AC_mk (by kernel_rfl) Tryz.func128 k_q124 hargs hok (by decide) h
def c_q125 : ACode :=
 (.seq
 (.region false [
 oo 2 (.mov (.const (.nilIface)))] [2])
 (.seq
 (.seq
 (.region false [
 om 5 0,
 oo 6 (.lens (.tmp 5)),
 oo 7 (.bin .lss 3 (.tmp 6) (.const (.int .i64 1))),
 om 8 7,
 og 9 (.mov (.tmp 0)) 8 false,
 og 10 (.lens (.tmp 9)) 8 false,
 og 11 (.bin .gtr 3 (.tmp 10) (.const (.int .i64 12))) 8 false,
 oo 12 (.pick (.tmp 8) (.const (.bool true)) (.tmp 11)),
 om 13 12,
 og 14 (.mov (.tmp 0)) 13 false,
 og 15 (.idxs (.tmp 14) (.const (.int .i64 0))) 13 false,
 og 16 (.callm 187 [.tmp 15]) 13 false,
 og 17 (.un .not (.tmp 16)) 13 false,
 oo 18 (.pick (.tmp 13) (.const (.bool true)) (.tmp 17))] [5,6,7,8,9,10,11,12,13,14,15,16,17])
 (.cond (.tmp 18)
 (.seq
 (.region false [
 oo 19 (.load false 1 (.global 7)),
 om 2 19] [0,18,19])
 .ret)
 .skip))
 (.seq
 (.seq
 (.region false [
 om 20 0,
 oo 21 (.lens (.tmp 20)),
 oo 22 (.mov (.const (.int .i64 0)))] [18,20])
 (.block 0
 (.loop
 (.seq
 (.region false [
 oo 23 (.bin .lss 3 (.tmp 22) (.tmp 21))] [])
 (.seq
 (.cond (.tmp 23)
 .skip
 (.exit 0))
 (.seq
 (.block 1
 (.seq
 (.region false [
 om 24 22,
 om 3 24] [23,24])
 (.seq
 (.region false [
 om 25 0,
 om 26 3,
 oo 27 (.idxs (.tmp 25) (.tmp 26)),
 om 4 27] [3,25,26,27])
 (.seq
 (.region false [
 om 28 4,
 oo 29 (.callm 187 [.tmp 28]),
 oo 30 (.un .not (.tmp 29)),
 om 31 30,
 og 32 (.mov (.tmp 4)) 31 true,
 og 33 (.bin .neq 5 (.tmp 32) (.const (.int .u8 45))) 31 true,
 oo 34 (.pick (.tmp 31) (.tmp 33) (.const (.bool false))),
 om 35 34,
 og 36 (.mov (.tmp 4)) 35 true,
 og 37 (.bin .lss 5 (.tmp 36) (.const (.int .u8 48))) 35 true,
 og 38 (.mov (.tmp 37)) 35 true,
 og 39 (.mov (.tmp 4)) 38 false,
 og 40 (.bin .gtr 5 (.tmp 39) (.const (.int .u8 57))) 38 false,
 og 41 (.pick (.tmp 38) (.const (.bool true)) (.tmp 40)) 35 true,
 oo 42 (.pick (.tmp 35) (.tmp 41) (.const (.bool false)))] [4,28,29,30,31,32,33,34,35,36,37,38,39,40,41])
 (.cond (.tmp 42)
 (.seq
 (.region false [
 oo 43 (.load false 1 (.global 7)),
 om 2 43] [0,21,22,42,43])
 .ret)
 .skip)))) [42])
 (.region false [
 oo 44 (.bin .add 3 (.tmp 22) (.const (.int .i64 1))),
 om 22 44] [44])))) [] []) [0,21,22,23]))
 (.seq
 (.region false [
 oo 2 (.mov (.const (.nilIface)))] [])
 .ret))))
abbrev v_q125 : List RV:= [.tmp 2]
abbrev f_q125 : FuncId:= 129
theorem k_q125 : closedOf Tryz.prog Tryz.f129 = (false,some true,some v_q125,some c_q125.plain,45):= by kernel_rfl
theorem ac_q125 {args : List AV} {r : AV} (h : aw Tryz.prog c_q125 (env0 args) (endQ v_q125 r)) (hargs : args.length ≤ 45:= by decide) (hok : resOK r = true:= by rfl) : AC Tryz.prog f_q125 args r :=
  AC_mk (by kernel_rfl) Tryz.func129 k_q125 hargs hok (by decide) h
def c_q126 : ACode :=
 (.seq
 (.region false [
 oo 4 (.mov (.const (.bool false)))] [4])
 (.seq
 (.region false [
 om 5 0,
 om 6 1,
 oo 7 (.callm 188 [.tmp 5,.tmp 6]),
 oo 8 (.bin .geq 3 (.tmp 7) (.const (.int .i64 0))),
 om 4 8] [0,1,5,6,7,8])
 .ret))
abbrev v_q126 : List RV:= [.tmp 4]
abbrev f_q126 : FuncId:= 130
theorem k_q126 : closedOf Tryz.prog Tryz.f130 = (false,some true,some v_q126,some c_q126.plain,9):= by kernel_rfl
theorem ac_q126 {args : List AV} {r : AV} (h : aw Tryz.prog c_q126 (env0 args) (endQ v_q126 r)) (hargs : args.length ≤ 9:= by decide) (hok : resOK r = true:= by rfl) : AC Tryz.prog f_q126 args r :=
  AC_mk (by kernel_rfl) Tryz.func130 k_q126 hargs hok (by decide) h
def c_q127 : ACode :=
 (.seq
 (.region false [
 oo 2 (.box (.tmp 0)),
 oo 3 (.mov (.const (.bool false)))] [0,3])
 (.seq
 (.region false [
 oo 4 (.faddr 0 1 (.tmp 2)),
 oo 5 (.load false 1 (.tmp 4)),
 oo 6 (.faddr 0 1 (.tmp 1)),
 oo 7 (.load false 1 (.tmp 6)),
 oo 8 (.bin .eql 9 (.tmp 5) (.tmp 7)),
 om 3 8] [1,2,4,5,6,7,8])
 .ret))
abbrev v_q127 : List RV:= [.tmp 3]
abbrev f_q127 : FuncId:= 131
theorem k_q127 : closedOf Tryz.prog Tryz.f131 = (false,some true,some v_q127,some c_q127.plain,9):= by kernel_rfl
theorem ac_q127 {args : List AV} {r : AV} (h : aw Tryz.prog c_q127 (env0 args) (endQ v_q127 r)) (hargs : args.length ≤ 9:= by decide) (hok : resOK r = true:= by rfl) : AC Tryz.prog f_q127 args r :=
  AC_mk (by kernel_rfl) Tryz.func131 k_q127 hargs hok (by decide) h
def c_q128 : ACode :=
 (.seq
 (.region false [
 oo 2 (.mov (.const (.bool false)))] [2])
 (.seq
 (.region false [
 om 3 0,
 oo 4 (.bin .geq 3 (.tmp 3) (.const (.int .i64 0))),
 om 5 4,
 og 6 (.mov (.tmp 0)) 5 true,
 og 7 (.bin .leq 3 (.tmp 6) (.const (.int .i64 65535))) 5 true,
 oo 8 (.pick (.tmp 5) (.tmp 7) (.const (.bool false))),
 om 2 8] [0,3,4,5,6,7,8])
 .ret))
abbrev v_q128 : List RV:= [.tmp 2]
abbrev f_q128 : FuncId:= 132
theorem k_q128 : closedOf Tryz.prog Tryz.f132 = (false,some true,some v_q128,some c_q128.plain,9):= by kernel_rfl
theorem ac_q128 {args : List AV} {r : AV} (h : aw Tryz.prog c_q128 (env0 args) (endQ v_q128 r)) (hargs : args.length ≤ 9:= by decide) (hok : resOK r = true:= by rfl) : AC Tryz.prog f_q128 args r :=
  AC_mk (by kernel_rfl) Tryz.func132 k_q128 hargs hok (by decide) h
def c_q129 : ACode :=
 (.seq
 (.region false [
 oo 4 (.mov (.const (.bool false)))] [4])
 (.seq
 (.region false [
 om 5 0,
 om 6 1,
 oo 7 (.callm 189 [.tmp 5,.tmp 6]),
 oo 8 (.bin .geq 3 (.tmp 7) (.const (.int .i64 0))),
 om 4 8] [0,1,5,6,7,8])
 .ret))
abbrev v_q129 : List RV:= [.tmp 4]
abbrev f_q129 : FuncId:= 133
theorem k_q129 : closedOf Tryz.prog Tryz.f133 = (false,some true,some v_q129,some c_q129.plain,9):= by kernel_rfl
theorem ac_q129 {args : List AV} {r : AV} (h : aw Tryz.prog c_q129 (env0 args) (endQ v_q129 r)) (hargs : args.length ≤ 9:= by decide) (hok : resOK r = true:= by rfl) : AC Tryz.prog f_q129 args r :=
  AC_mk (by kernel_rfl) Tryz.func133 k_q129 hargs hok (by decide) h
def c_q130 : ACode :=
 (.seq
 (.region false [
 oo 2 (.box (.tmp 0)),
 oo 3 (.mov (.const (.bool false)))] [0,3])
 (.seq
 (.region false [
 oo 4 (.faddr 0 1 (.tmp 2)),
 oo 5 (.load false 1 (.tmp 4)),
 oo 6 (.faddr 0 1 (.tmp 1)),
 oo 7 (.load false 1 (.tmp 6)),
 oo 8 (.bin .eql 9 (.tmp 5) (.tmp 7)),
 om 3 8] [1,2,4,5,6,7,8])
 .ret))
abbrev v_q130 : List RV:= [.tmp 3]
abbrev f_q130 : FuncId:= 134
theorem k_q130 : closedOf Tryz.prog Tryz.f134 = (false,some true,some v_q130,some c_q130.plain,9):= by kernel_rfl
theorem ac_q130 {args : List AV} {r : AV} (h : aw Tryz.prog c_q130 (env0 args) (endQ v_q130 r)) (hargs : args.length ≤ 9:= by decide) (hok : resOK r = true:= by rfl) : AC Tryz.prog f_q130 args r :=
  AC_mk (by kernel_rfl) Tryz.func134 k_q130 hargs hok (by decide) h
def c_q131 : ACode :=
 (.seq
 (.region false [
 oo 1 (.box (.tmp 0)),
 oo 2 (.mov (.const (.bool false)))] [0,2])
 (.seq
 (.region true [
 oo 3 (.faddr 1 1 (.tmp 1)),
 oo 4 (.load false 1 (.tmp 3)),
 oo 5 (.bin .geq 3 (.tmp 4) (.const (.int .i64 0))),
 om 6 5,
 og 7 (.faddr 1 1 (.tmp 1)) 6 true,
 og 8 (.load false 1 (.tmp 7)) 6 true,
 og 9 (.bin .leq 3 (.tmp 8) (.const (.int .i64 32))) 6 true,
 oo 10 (.pick (.tmp 6) (.tmp 9) (.const (.bool false))),
 om 11 10,
 og 12 (.faddr 0 1 (.tmp 1)) 11 true,
 og 13 (.load false 1 (.tmp 12)) 11 true,
 og 14 (.faddr 1 1 (.tmp 1)) 11 true,
 og 15 (.load false 1 (.tmp 14)) 11 true,
 og 16 (.call 190 [.tmp 15]) 11 true,
 og 17 (.bin .andNot 32 (.tmp 13) (.tmp 16)) 11 true,
 og 18 (.bin .eql 32 (.tmp 17) (.const (.int .u32 0))) 11 true,
 oo 19 (.pick (.tmp 11) (.tmp 18) (.const (.bool false))),
 om 2 19] [1,3,4,5,6,7,8,9,10,11,12,13,14,15,16,17,18,19])
 .ret))
abbrev v_q131 : List RV:= [.tmp 2]
abbrev f_q131 : FuncId:= 135
theorem k_q131 : closedOf Tryz.prog Tryz.f135 = (false,some true,some v_q131,some c_q131.plain,20):= by kernel_rfl
theorem ac_q131 {args : List AV} {r : AV} (h : aw Tryz.prog c_q131 (env0 args) (endQ v_q131 r)) (hargs : args.length ≤ 20:= by decide) (hok : resOK r = true:= by rfl) : AC Tryz.prog f_q131 args r :=
  AC_mk (by kernel_rfl) Tryz.func135 k_q131 hargs hok (by decide) h
def c_q132 : ACode :=
 (.seq
 (.region false [
 oo 2 (.box (.tmp 0)),
 oo 3 (.box (.tmp 1)),
 oo 4 (.mov (.const (.bool false)))] [0,1,4])
 (.seq
 (.region false [
 oo 5 (.load true 2 (.tmp 2)),
 oo 6 (.callm 135 [.tmp 5]),
 om 7 6,
 og 8 (.faddr 1 1 (.tmp 2)) 7 true,
 og 9 (.load false 1 (.tmp 8)) 7 true,
 og 10 (.faddr 1 1 (.tmp 3)) 7 true,
 og 11 (.load false 1 (.tmp 10)) 7 true,
 og 12 (.bin .geq 3 (.tmp 9) (.tmp 11)) 7 true,
 oo 13 (.pick (.tmp 7) (.tmp 12) (.const (.bool false))),
 om 14 13,
 og 15 (.load true 2 (.tmp 3)) 14 true,
 og 16 (.faddr 0 1 (.tmp 2)) 14 true,
 og 17 (.load false 1 (.tmp 16)) 14 true,
 og 18 (.callm 191 [.tmp 15,.tmp 17]) 14 true,
 oo 19 (.pick (.tmp 14) (.tmp 18) (.const (.bool false))),
 om 4 19] [2,3,5,6,7,8,9,10,11,12,13,14,15,16,17,18,19])
 .ret))
abbrev v_q132 : List RV:= [.tmp 4]
abbrev f_q132 : FuncId:= 136
theorem k_q132 : closedOf Tryz.prog Tryz.f136 = (false,some true,some v_q132,some c_q132.plain,20):= by kernel_rfl
theorem ac_q132 {args : List AV} {r : AV} (h : aw Tryz.prog c_q132 (env0 args) (endQ v_q132 r)) (hargs : args.length ≤ 20:= by decide) (hok : resOK r = true:= by rfl) : AC Tryz.prog f_q132 args r :=
  AC_mk (by kernel_rfl) Tryz.func136 k_q132 hargs hok (by decide) h
def c_q133 : ACode :=
 (.seq
 (.region false [
 oo 0 (.alloc [.lit (.int .u32 0),.lit (.int .i64 0)])] [])
 (.seq
 (.region false [
 oo 1 (.build [.lit (.int .u8 0),.lit (.int .u8 0),.lit (.int .u8 0),.lit (.int .u8 0)] [(0,1,.const (.int .u8 224)),(1,1,.const (.int .u8 0)),(2,1,.const (.int .u8 0)),(3,1,.const (.int .u8 0))]),
 oo 2 (.callm 192 [.tmp 1]),
 oo 3 (.build [.lit (.int .u32 0),.lit (.int .i64 0)] [(0,1,.tmp 2),(1,1,.const (.int .i64 4))]),
 ⟨none,.store 2 (.tmp 0) (.tmp 3),none⟩] [1,2,3])
 .ret))
abbrev v_q133 : List RV:= [.cell true 2 0]
abbrev f_q133 : FuncId:= 137
theorem k_q133 : closedOf Tryz.prog Tryz.f137 = (false,some true,some v_q133,some c_q133.plain,4):= by kernel_rfl
theorem ac_q133 {args : List AV} {r : AV} (h : aw Tryz.prog c_q133 (env0 args) (endQ v_q133 r)) (hargs : args.length ≤ 4:= by decide) (hok : resOK r = true:= by rfl) : AC Tryz.prog f_q133 args r :=
  AC_mk (by kernel_rfl) Tryz.func137 k_q133 hargs hok (by decide) h
def c_q134 : ACode :=
 (.seq
 (.region false [
 oo 4 (.mov (.const (.bool false)))] [4])
 (.seq
 (.region false [
 om 5 0,
 oo 6 (.bin .geq 3 (.tmp 5) (.const (.int .i64 0))),
 om 7 6,
 og 8 (.mov (.tmp 0)) 7 true,
 og 9 (.mov (.tmp 1)) 7 true,
 og 10 (.bin .lss 3 (.tmp 8) (.tmp 9)) 7 true,
 oo 11 (.pick (.tmp 7) (.tmp 10) (.const (.bool false))),
 om 4 11] [0,1,5,6,7,8,9,10,11])
 .ret))
abbrev v_q134 : List RV:= [.tmp 4]
abbrev f_q134 : FuncId:= 138
theorem k_q134 : closedOf Tryz.prog Tryz.f138 = (false,some true,some v_q134,some c_q134.plain,12):= by kernel_rfl
theorem ac_q134 {args : List AV} {r : AV} (h : aw Tryz.prog c_q134 (env0 args) (endQ v_q134 r)) (hargs : args.length ≤ 12:= by decide) (hok : resOK r = true:= by rfl) : AC Tryz.prog f_q134 args r :=
  AC_mk (by kernel_rfl) Tryz.func138 k_q134 hargs hok (by decide) h
def c_q135 : ACode :=
 (.seq
 (.region false [
 oo 3 (.box (.tmp 0)),
 oo 6 (.mov (.const (.bool false)))] [0,6])
 (.seq
 (.region false [
 om 7 2,
 oo 8 (.bin .neq 32 (.tmp 7) (.const (.int .u32 0))),
 om 9 8,
 og 10 (.faddr 0 7 (.tmp 3)) 9 true,
 og 11 (.faddr 1 1 (.tmp 10)) 9 true,
 og 12 (.load false 1 (.tmp 11)) 9 true,
 og 13 (.mov (.tmp 1)) 9 true,
 og 14 (.iaddr 3 (.tmp 12) (.tmp 13)) 9 true,
 og 15 (.faddr 1 2 (.tmp 14)) 9 true,
 og 16 (.load true 2 (.tmp 15)) 9 true,
 og 17 (.mov (.tmp 2)) 9 true,
 og 18 (.callm 191 [.tmp 16,.tmp 17]) 9 true,
 oo 19 (.pick (.tmp 9) (.tmp 18) (.const (.bool false))),
 om 6 19] [1,2,3,7,8,9,10,11,12,13,14,15,16,17,18,19])
 .ret))
abbrev v_q135 : List RV:= [.tmp 6]
abbrev f_q135 : FuncId:= 139
theorem k_q135 : closedOf Tryz.prog Tryz.f139 = (false,some true,some v_q135,some c_q135.plain,20):= by kernel_rfl
theorem ac_q135 {args : List AV} {r : AV} (h : aw Tryz.prog c_q135 (env0 args) (endQ v_q135 r)) (hargs : args.length ≤ 20:= by decide) (hok : resOK r = true:= by rfl) : AC Tryz.prog f_q135 args r :=
  AC_mk (by kernel_rfl) Tryz.func139 k_q135 hargs hok (by decide) h
def c_q136 : ACode :=
 (.seq
 (.region false [
 oo 4 (.mov (.const (.bool false)))] [4])
 (.seq
 (.region false [
 om 5 0,
 om 6 1,
 oo 7 (.callm 193 [.tmp 5,.tmp 6]),
 oo 8 (.bin .geq 3 (.tmp 7) (.const (.int .i64 0))),
 om 4 8] [0,1,5,6,7,8])
 .ret))
abbrev v_q136 : List RV:= [.tmp 4]
abbrev f_q136 : FuncId:= 140
theorem k_q136 : closedOf Tryz.prog Tryz.f140 = (false,some true,some v_q136,some c_q136.plain,9):= by kernel_rfl
theorem ac_q136 {args : List AV} {r : AV} (h : aw Tryz.prog c_q136 (env0 args) (endQ v_q136 r)) (hargs : args.length ≤ 9:= by decide) (hok : resOK r = true:= by rfl) : AC Tryz.prog f_q136 args r :=
  AC_mk (by kernel_rfl) Tryz.func140 k_q136 hargs hok (by decide) h
def c_q137 : ACode :=
 (.seq
 (.region false [
 oo 2 (.box (.tmp 0)),
 oo 3 (.mov (.const (.bool false)))] [0,3])
 (.seq
 (.region false [
 oo 4 (.faddr 2 1 (.tmp 2)),
 oo 5 (.load false 1 (.tmp 4)),
 oo 6 (.faddr 2 1 (.tmp 1)),
 oo 7 (.load false 1 (.tmp 6)),
 oo 8 (.bin .eql 32 (.tmp 5) (.tmp 7)),
 om 9 8,
 og 10 (.faddr 0 1 (.tmp 2)) 9 false,
 og 11 (.load false 1 (.tmp 10)) 9 false,
 og 12 (.faddr 0 1 (.tmp 1)) 9 false,
 og 13 (.load false 1 (.tmp 12)) 9 false,
 og 14 (.bin .eql 3 (.tmp 11) (.tmp 13)) 9 false,
 og 15 (.mov (.tmp 14)) 9 false,
 og 16 (.faddr 1 1 (.tmp 2)) 15 true,
 og 17 (.load false 1 (.tmp 16)) 15 true,
 og 18 (.faddr 1 1 (.tmp 1)) 15 true,
 og 19 (.load false 1 (.tmp 18)) 15 true,
 og 20 (.bin .eql 3 (.tmp 17) (.tmp 19)) 15 true,
 og 21 (.pick (.tmp 15) (.tmp 20) (.const (.bool false))) 9 false,
 oo 22 (.pick (.tmp 9) (.const (.bool true)) (.tmp 21)),
 om 3 22] [1,2,4,5,6,7,8,9,10,11,12,13,14,15,16,17,18,19,20,21,22])
 .ret))
abbrev v_q137 : List RV:= [.tmp 3]
abbrev f_q137 : FuncId:= 141
theorem k_q137 : closedOf Tryz.prog Tryz.f141 = (false,some true,some v_q137,some c_q137.plain,23):= by kernel_rfl
theorem ac_q137 {args : List AV} {r : AV} (h : aw Tryz.prog c_q137 (env0 args) (endQ v_q137 r)) (hargs : args.length ≤ 23:= by decide) (hok : resOK r = true:= by rfl) : AC Tryz.prog f_q137 args r :=
  AC_mk (by kernel_rfl) Tryz.func141 k_q137 hargs hok (by decide) h
def c_q138 : ACode :=
 (.seq
 (.region false [
 oo 2 (.mov (.const (.bool false)))] [2])
 (.seq
 (.region false [
 om 3 0,
 oo 4 (.bin .neq 32 (.tmp 3) (.const (.int .u32 0))),
 om 5 4,
 og 6 (.mov (.tmp 0)) 5 true,
 og 7 (.callm 145 [.tmp 6]) 5 true,
 og 8 (.un .not (.tmp 7)) 5 true,
 oo 9 (.pick (.tmp 5) (.tmp 8) (.const (.bool false))),
 om 2 9] [0,3,4,5,6,7,8,9])
 .ret))
abbrev v_q138 : List RV:= [.tmp 2]
abbrev f_q138 : FuncId:= 142
theorem k_q138 : closedOf Tryz.prog Tryz.f142 = (false,some true,some v_q138,some c_q138.plain,10):= by kernel_rfl
theorem ac_q138 {args : List AV} {r : AV} (h : aw Tryz.prog c_q138 (env0 args) (endQ v_q138 r)) (hargs : args.length ≤ 10:= by decide) (hok : resOK r = true:= by rfl) : AC Tryz.prog f_q138 args r :=
  AC_mk (by kernel_rfl) Tryz.func142 k_q138 hargs hok (by decide) h
def c_q139 : ACode :=
 (.seq
 (.region false [
 oo 4 (.mov (.const (.bool false)))] [4])
 (.seq
 (.region false [
 om 5 0,
 om 6 1,
 oo 7 (.callm 194 [.tmp 5,.tmp 6]),
 oo 8 (.bin .geq 3 (.tmp 7) (.const (.int .i64 0))),
 om 4 8] [0,1,5,6,7,8])
 .ret))
abbrev v_q139 : List RV:= [.tmp 4]
abbrev f_q139 : FuncId:= 143
theorem k_q139 : closedOf Tryz.prog Tryz.f143 = (false,some true,some v_q139,some c_q139.plain,9):= by kernel_rfl
theorem ac_q139 {args : List AV} {r : AV} (h : aw Tryz.prog c_q139 (env0 args) (endQ v_q139 r)) (hargs : args.length ≤ 9:= by decide) (hok : resOK r = true:= by rfl) : AC Tryz.prog f_q139 args r :=
  AC_mk (by kernel_rfl) Tryz.func143 k_q139 hargs hok (by decide) h
def c_q140 : ACode :=
 (.seq
 (.region false [
 oo 2 (.box (.tmp 0)),
 oo 3 (.mov (.const (.bool false)))] [0,3])
 (.seq
 (.region false [
 oo 4 (.faddr 0 2 (.tmp 2)),
 oo 5 (.load true 2 (.tmp 4)),
 oo 6 (.faddr 0 2 (.tmp 1)),
 oo 7 (.load true 2 (.tmp 6)),
 oo 8 (.eqa false [.int,.int] (.tmp 5) (.tmp 7)),
 om 3 8] [1,2,4,5,6,7,8])
 .ret))
abbrev v_q140 : List RV:= [.tmp 3]
abbrev f_q140 : FuncId:= 144
theorem k_q140 : closedOf Tryz.prog Tryz.f144 = (false,some true,some v_q140,some c_q140.plain,9):= by kernel_rfl
theorem ac_q140 {args : List AV} {r : AV} (h : aw Tryz.prog c_q140 (env0 args) (endQ v_q140 r)) (hargs : args.length ≤ 9:= by decide) (hok : resOK r = true:= by rfl) : AC Tryz.prog f_q140 args r :=
  AC_mk (by kernel_rfl) Tryz.func144 k_q140 hargs hok (by decide) h
def c_q141 : ACode :=
 (.seq
 (.region false [
 oo 2 (.mov (.const (.bool false)))] [2])
 (.seq
 (.region false [
 om 4 0,
 oo 5 (.callm 155 [.tmp 4]),
 oo 3 (.alloc [.lit (.int .u8 0),.lit (.int .u8 0),.lit (.int .u8 0),.lit (.int .u8 0)]),
 ⟨none,.store 4 (.tmp 3) (.tmp 5),none⟩] [0,4,5])
 (.seq
 (.region false [
 oo 6 (.iadra 4 1 (.tmp 3) (.const (.int .i64 0))),
 oo 7 (.load false 1 (.tmp 6)),
 oo 8 (.bin .geq 5 (.tmp 7) (.const (.int .u8 224))),
 om 9 8,
 og 10 (.iadra 4 1 (.tmp 3) (.const (.int .i64 0))) 9 true,
 og 11 (.load false 1 (.tmp 10)) 9 true,
 og 12 (.bin .leq 5 (.tmp 11) (.const (.int .u8 239))) 9 true,
 oo 13 (.pick (.tmp 9) (.tmp 12) (.const (.bool false))),
 om 2 13] [3,6,7,8,9,10,11,12,13])
 .ret)))
abbrev v_q141 : List RV:= [.tmp 2]
abbrev f_q141 : FuncId:= 145
theorem k_q141 : closedOf Tryz.prog Tryz.f145 = (false,some true,some v_q141,some c_q141.plain,14):= by kernel_rfl
theorem ac_q141 {args : List AV} {r : AV} (h : aw Tryz.prog c_q141 (env0 args) (endQ v_q141 r)) (hargs : args.length ≤ 14:= by decide) (hok : resOK r = true:= by rfl) : AC Tryz.prog f_q141 args r :=
  AC_mk (by kernel_rfl) Tryz.func145 k_q141 hargs hok (by decide) h
def c_q142 : ACode :=
 (.seq
 (.region false [
 oo 4 (.mov (.const (.bool false)))] [4])
 (.seq
 (.region false [
 om 5 0,
 om 6 1,
 oo 7 (.callm 195 [.tmp 5,.tmp 6]),
 oo 8 (.bin .geq 3 (.tmp 7) (.const (.int .i64 0))),
 om 4 8] [0,1,5,6,7,8])
 .ret))
abbrev v_q142 : List RV:= [.tmp 4]
abbrev f_q142 : FuncId:= 146
theorem k_q142 : closedOf Tryz.prog Tryz.f146 = (false,some true,some v_q142,some c_q142.plain,9):= by kernel_rfl
theorem ac_q142 {args : List AV} {r : AV} (h : aw Tryz.prog c_q142 (env0 args) (endQ v_q142 r)) (hargs : args.length ≤ 9:= by decide) (hok : resOK r = true:= by rfl) : AC Tryz.prog f_q142 args r :=
  AC_mk (by kernel_rfl) Tryz.func146 k_q142 hargs hok (by decide) h
def c_q143 : ACode :=
 (.seq
 (.region false [
 oo 2 (.box (.tmp 0)),
 oo 3 (.mov (.const (.bool false)))] [0,3])
 (.seq
 (.region false [
 oo 4 (.faddr 1 2 (.tmp 2)),
 oo 5 (.load true 2 (.tmp 4)),
 oo 6 (.faddr 1 2 (.tmp 1)),
 oo 7 (.load true 2 (.tmp 6)),
 oo 8 (.eqa false [.int,.int] (.tmp 5) (.tmp 7)),
 om 9 8,
 og 10 (.faddr 1 2 (.tmp 2)) 9 false,
 og 11 (.faddr 0 1 (.tmp 10)) 9 false,
 og 12 (.load false 1 (.tmp 11)) 9 false,
 og 13 (.faddr 1 2 (.tmp 1)) 9 false,
 og 14 (.faddr 0 1 (.tmp 13)) 9 false,
 og 15 (.load false 1 (.tmp 14)) 9 false,
 og 16 (.bin .eql 32 (.tmp 12) (.tmp 15)) 9 false,
 og 17 (.mov (.tmp 16)) 9 false,
 og 18 (.faddr 0 1 (.tmp 2)) 17 true,
 og 19 (.load false 1 (.tmp 18)) 17 true,
 og 20 (.faddr 0 1 (.tmp 1)) 17 true,
 og 21 (.load false 1 (.tmp 20)) 17 true,
 og 22 (.bin .neq 3 (.tmp 19) (.tmp 21)) 17 true,
 og 23 (.pick (.tmp 17) (.tmp 22) (.const (.bool false))) 9 false,
 oo 24 (.pick (.tmp 9) (.const (.bool true)) (.tmp 23)),
 om 3 24] [1,2,4,5,6,7,8,9,10,11,12,13,14,15,16,17,18,19,20,21,22,23,24])
 .ret))
abbrev v_q143 : List RV:= [.tmp 3]
abbrev f_q143 : FuncId:= 147
theorem k_q143 : closedOf Tryz.prog Tryz.f147 = (false,some true,some v_q143,some c_q143.plain,25):= by kernel_rfl
theorem ac_q143 {args : List AV} {r : AV} (h : aw Tryz.prog c_q143 (env0 args) (endQ v_q143 r)) (hargs : args.length ≤ 25:= by decide) (hok : resOK r = true:= by rfl) : AC Tryz.prog f_q143 args r :=
  AC_mk (by kernel_rfl) Tryz.func147 k_q143 hargs hok (by decide) h
def c_q144 : ACode :=
 (.seq
 (.region false [
 oo 2 (.box (.tmp 0)),
 oo 3 (.mov (.const (.bool false)))] [0,3])
 (.seq
 (.region false [
 oo 4 (.faddr 2 1 (.tmp 2)),
 oo 5 (.load false 1 (.tmp 4)),
 oo 6 (.faddr 1 2 (.tmp 1)),
 oo 7 (.faddr 0 1 (.tmp 6)),
 oo 8 (.load false 1 (.tmp 7)),
 oo 9 (.bin .eql 32 (.tmp 5) (.tmp 8)),
 om 3 9] [1,2,4,5,6,7,8,9])
 .ret))
abbrev v_q144 : List RV:= [.tmp 3]
abbrev f_q144 : FuncId:= 148
theorem k_q144 : closedOf Tryz.prog Tryz.f148 = (false,some true,some v_q144,some c_q144.plain,10):= by kernel_rfl
theorem ac_q144 {args : List AV} {r : AV} (h : aw Tryz.prog c_q144 (env0 args) (endQ v_q144 r)) (hargs : args.length ≤ 10:= by decide) (hok : resOK r = true:= by rfl) : AC Tryz.prog f_q144 args r :=
  AC_mk (by kernel_rfl) Tryz.func148 k_q144 hargs hok (by decide) h
def c_q145 : ACode :=
 (.seq
 (.region false [
 oo 4 (.mov (.const (.bool false)))] [4])
 (.seq
 (.region false [
 om 5 0,
 om 6 1,
 oo 7 (.callm 196 [.tmp 5,.tmp 6]),
 oo 8 (.bin .geq 3 (.tmp 7) (.const (.int .i64 0))),
 om 4 8] [0,1,5,6,7,8])
 .ret))
abbrev v_q145 : List RV:= [.tmp 4]
abbrev f_q145 : FuncId:= 149
theorem k_q145 : closedOf Tryz.prog Tryz.f149 = (false,some true,some v_q145,some c_q145.plain,9):= by kernel_rfl
theorem ac_q145 {args : List AV} {r : AV} (h : aw Tryz.prog c_q145 (env0 args) (endQ v_q145 r)) (hargs : args.length ≤ 9:= by decide) (hok : resOK r = true:= by rfl) : AC Tryz.prog f_q145 args r :=
  AC_mk (by kernel_rfl) Tryz.func149 k_q145 hargs hok (by decide) h
def c_q146 : ACode :=
 (.seq
 (.region false [
 oo 2 (.mov (.const (.bool false)))] [2])
 (.seq
 (.region false [
 om 3 0,
 oo 4 (.callm 142 [.tmp 3]),
 oo 5 (.un .not (.tmp 4)),
 om 2 5] [0,3,4,5])
 .ret))
abbrev v_q146 : List RV:= [.tmp 2]
abbrev f_q146 : FuncId:= 150
theorem k_q146 : closedOf Tryz.prog Tryz.f150 = (false,some true,some v_q146,some c_q146.plain,6):= by kernel_rfl
theorem ac_q146 {args : List AV} {r : AV} (h : aw Tryz.prog c_q146 (env0 args) (endQ v_q146 r)) (hargs : args.length ≤ 6:= by decide) (hok : resOK r = true:= by rfl) : AC Tryz.prog f_q146 args r :=
  AC_mk (by kernel_rfl) Tryz.func150 k_q146 hargs hok (by decide) h
def c_q147 : ACode :=
 (.seq
 (.region false [
 oo 2 (.mov (.const (.slice none 0 0)))] [2])
 (.seq
 (.region false [
 om 4 0,
 oo 5 (.callm 197 [.tmp 4]),
 om 3 5] [0,4,5])
 (.seq
 (.shift
 (.region false [
 om 6 3,
 oo 7 (.callm 46 [.tmp 6])] [6,7]))
 (.seq
 (.shift
 (.region false [
 om 8 3,
 om 2 8] [3,8]))
 .ret))))
abbrev v_q147 : List RV:= [.tmp 2]
abbrev f_q147 : FuncId:= 151
theorem k_q147 : closedOf Tryz.prog Tryz.f151 = (false,some true,some v_q147,some c_q147.plain,9):= by kernel_rfl
theorem ac_q147 {args : List AV} {r : AV} (h : aw Tryz.prog c_q147 (env0 args) (endQ v_q147 r)) (hargs : args.length ≤ 9:= by decide) (hok : resOK r = true:= by rfl) : AC Tryz.prog f_q147 args r :=
  AC_mk (by kernel_rfl) Tryz.func151 k_q147 hargs hok (by decide) h
def c_q148 : ACode :=
 (.seq
 (.region false [
 oo 1 (.box (.tmp 0)),
 oo 2 (.mov (.const (.nilFunc)))] [0,2])
 (.seq
 (.region false [
 oo 3 (.mkfn (.func 198) [] [.tmp 1]),
 om 2 3] [1,3])
 .ret))
abbrev v_q148 : List RV:= [.tmp 2]
abbrev f_q148 : FuncId:= 152
theorem k_q148 : closedOf Tryz.prog Tryz.f152 = (false,some true,some v_q148,some c_q148.plain,4):= by kernel_rfl
theorem ac_q148 {args : List AV} {r : AV} (h : aw Tryz.prog c_q148 (env0 args) (endQ v_q148 r)) (hargs : args.length ≤ 4:= by decide) (hok : resOK r = true:= by rfl) : AC Tryz.prog f_q148 args r :=
  AC_mk (by kernel_rfl) Tryz.func152 k_q148 hargs hok (by decide) h
end Go.Proofs.YtnndbbmidoidpaaGreatDoor.VL
end

