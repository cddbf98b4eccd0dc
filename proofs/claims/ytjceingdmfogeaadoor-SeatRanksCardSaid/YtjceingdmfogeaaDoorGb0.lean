import Derived.Test.YtjceingdmfogeaaDoorProg
import Derived.Test.YtjceingdmfogeaaDoorGa14
set_option linter.unusedVariables false
set_option linter.unusedSimpArgs false
section
namespace Go.Proofs.YtjceingdmfogeaaDoor.VL
open Go.RowKit
section
variable (D : Bool) (P : Program) (dst : Option Nat) (op : AOp) (os : List AOper) (s : List (Nat × AV)) (c : List (Nat × List AV)) (K : Env → Prop)
end
theorem guardX_of {D:Bool} {P:Program} {dst:Option Nat} {op:AOp} {os:List AOper} {s:List (Nat × AV)} {c:List (Nat × List AV)} {K:Env→Prop} {t:Bool} (h1:t=true→awX D P (⟨dst,op,none⟩::os) (mkE s c) K) (h2:t=false→awX D P os ((mkE s c).putO dst (.lit undef)) K):guardX (.lit (.bool t)) true D P dst op os s c K:=
 ⟨.bool t,rfl,fun h=>h1 (by simpa using h),fun h=>h2 (by simpa using h)⟩
theorem guardX_of' {D:Bool} {P:Program} {dst:Option Nat} {op:AOp} {os:List AOper} {s:List (Nat × AV)} {c:List (Nat × List AV)} {K:Env→Prop} {t:Bool} (h1:t=true→awX D P os ((mkE s c).putO dst (.lit undef)) K) (h2:t=false→awX D P (⟨dst,op,none⟩::os) (mkE s c) K):guardX (.lit (.bool t)) false D P dst op os s c K:=
 ⟨.bool t,rfl,fun h=>h2 (by simpa using h),fun h=>h1 (by simpa using h)⟩
section
variable (D : Bool) (P : Program) (dst : Option Nat) (op : AOp) (os : List AOper) (s : List (Nat × AV)) (c : List (Nat × List AV)) (K : Env → Prop)
end
section
variable {P : Program} {E : Env} {Q : AExit → Env → Prop} {K : Env → Prop} {D : Bool} {s : List (Nat × AV)} {c : List (Nat × List AV)}
attribute [go_sem] Bool.or_true Bool.true_or Bool.or_false Bool.false_or
attribute [go_sem] List.length_cons List.length_nil List.drop_succ_cons List.drop_zero List.take_succ_cons List.take_zero List.map_cons List.map_nil List.nil_append List.cons_append List.append_nil if_true if_false List.all_cons List.all_nil Bool.and_true Bool.true_and Bool.and_false Bool.false_and Bool.not_true Bool.not_false Value.oneCell' decide_true decide_false decide_not beq_self_eq_true eq_self Bool.false_eq_true List.getElem?_map Option.map_some List.length_map Option.getD_some List.cons.injEq and_true true_and and_false false_and
attribute [go_sem] oneL cellsOf AV.one AV.row
section
variable {os : List AOper} {s : List (Nat × AV)} {c : List (Nat × List AV)} {d : Nat}
attribute [go_sem] tokFree tokFreeL
section
variable (t : TypeId) (k : IntKind) (u v : Int)
end
attribute [go_sem] GT
attribute [go_sem] aval.cutTok
end
end
section
variable {C : Nat → Option (List AV)} {n : Nat}
end
section
variable {d : Option Nat} {g : Option (Nat × Bool)} {os : List AOper}
end
theorem rep_niltok {E:RE} {e e':Nat} {t:Tok} {v:Value} (ht:∀ τ,t≠.own τ) (h:Rep E (.sl .nil e []) v):Rep E (.sl t e' []) v:=by
 simp only [Rep] at h ⊢
 obtain ⟨A,cap,vs,rfl,hc,hr,h1,h2,h3,h4⟩:=h
 have:vs=[]:=List.eq_nil_of_length_eq_zero hr.length
 subst this
 refine ⟨A,cap,[],rfl,hc,hr,by simp,by simp [flat],?_⟩
 cases t with
 | none=>simp
 | nil=>exact ⟨h3,h4⟩
 | bor=>simp
 | own τ=>exact absurd rfl (ht τ)
 | fr τ=>exact .inl ⟨trivial,h4⟩
 | gone=>trivial
theorem repL_nil {e e':Nat} {t:Tok} (ht:∀ τ,t≠.own τ) (E:RE) {post:List AV}:∀ (pre:List AV) {ws:List Value},RepL E (pre++.sl .nil e []::post) ws→RepL E (pre++.sl t e' []::post) ws
 | [],ws,hr=>by
  simp only [List.nil_append,RepL] at hr ⊢
  obtain ⟨v,ws,rfl,h1,h2⟩:=hr
  exact ⟨v,ws,rfl,rep_niltok ht h1,h2⟩
 | x::pre,ws,hr=>by
  simp only [List.cons_append,RepL] at hr ⊢
  obtain ⟨v,ws,rfl,h1,h2⟩:=hr
  exact ⟨v,ws,rfl,h1,repL_nil ht E pre h2⟩
theorem AC.nil {P:Program} {f:FuncId} {e e':Nat} {t:Tok} (pre:List AV) {post:List AV} {r:AV} (h:AC P f (pre++.sl t e' []::post) r) (ht:∀ τ,t≠.own τ):AC P f (pre++.sl .nil e []::post) r:=
 h.conv fun E vs hr=>repL_nil ht E pre hr
end Go.Proofs.YtjceingdmfogeaaDoor.VL
end

section
set_option maxRecDepth 100000
namespace Go.Proofs.YtjceingdmfogeaaDoor.VL
open Go.Proofs
abbrev f_q0 : FuncId:= 3
def c_q6 : ACode :=
 (.seq
 (.region false [
 oo 0 (.mov (.const (.bool false)))] [0])
 (.seq
 (.region false [
 oo 6 (.build [.lit (.int .i64 0),.lit (.int .u32 0)] [(0,1,.const (.int .i64 1))]),
 oo 7 (.bslice 1 2 [.tmp 6]),
 oo 8 (.callm 26 [.tmp 7]),
 om 5 8,
 oo 9 (.ext (.tmp 5) 0),
 oo 10 (.ext (.tmp 5) 1),
 om 1 9,
 om 2 10] [5,6,7,8,9,10])
 (.seq
 (.region false [
 oo 12 (.callm 26 [.const (.slice none 0 0)]),
 om 11 12,
 oo 13 (.ext (.tmp 11) 0),
 oo 14 (.ext (.tmp 11) 1),
 om 3 13,
 om 4 14] [3,11,12,13,14])
 (.seq
 (.region false [
 om 15 2,
 om 16 15,
 og 17 (.mov (.tmp 1)) 16 true,
 og 18 (.bin .eql 3 (.tmp 17) (.const (.int .i64 0))) 16 true,
 oo 19 (.pick (.tmp 16) (.tmp 18) (.const (.bool false))),
 om 20 19,
 og 21 (.mov (.tmp 4)) 20 true,
 og 22 (.un .not (.tmp 21)) 20 true,
 oo 23 (.pick (.tmp 20) (.tmp 22) (.const (.bool false))),
 om 0 23] [1,2,4,15,16,17,18,19,20,21,22,23])
 .ret))))
abbrev v_q6 : List RV:= [.tmp 0]
abbrev f_q6 : FuncId:= 9
theorem k_q6 : closedOf Tryd.prog Tryd.f9 = (false,some true,some v_q6,some c_q6.plain,24):= by kernel_rfl
theorem ac_q6 {args : List AV} {r : AV} (h : aw Tryd.prog c_q6 (env0 args) (endQ v_q6 r)) (hargs : args.length ≤ 24:= by decide) (hok : resOK r = true:= by rfl) : AC Tryd.prog f_q6 args r :=
  AC_mk (by kernel_rfl) Tryd.func9 k_q6 hargs hok (by decide) h
abbrev f_q7 : FuncId:= 10
def c_q10 : ACode :=
 (.seq
 (.region false [
 oo 4 (.mov (.const (.int .i64 0))),
 oo 5 (.mov (.const (.bool false)))] [4,5])
 (.seq
 (.region false [
 om 13 0,
 oo 14 (.callm 35 [.tmp 13]),
 om 6 14] [13,14])
 (.seq
 (.region false [
 om 15 0,
 om 16 1,
 oo 17 (.callm 19 [.tmp 15,.tmp 16]),
 om 7 17] [0,1,15,16,17])
 (.seq
 (.region false [
 oo 8 (.mov (.const (.slice none 0 0)))] [])
 (.seq
 (.seq
 (.region false [
 om 18 7,
 oo 19 (.lenl (.tmp 18)),
 oo 20 (.mov (.const (.int .i64 0)))] [])
 (.block 0
 (.loop
 (.seq
 (.region false [
 oo 21 (.bin .lss 3 (.tmp 20) (.tmp 19))] [])
 (.seq
 (.cond (.tmp 21)
 .skip
 (.exit 0))
 (.seq
 (.block 1
 (.seq
 (.region false [
 oo 22 (.iaddr 1 (.tmp 18) (.tmp 20)),
 oo 23 (.load false 1 (.tmp 22)),
 om 10 23] [21,22,23])
 (.region true [
 om 24 8,
 om 25 6,
 oo 26 (.nilchk (.tmp 25)),
 oo 27 (.faddr 0 1 (.tmp 26)),
 oo 28 (.loadc false 1 (.tmp 27)),
 om 29 6,
 oo 30 (.nilchk (.tmp 29)),
 oo 31 (.faddr 2 1 (.tmp 30)),
 oo 32 (.loadc false 1 (.tmp 31)),
 om 33 10,
 oo 34 (.iaddr 3 (.tmp 32) (.tmp 33)),
 oo 35 (.faddr 0 1 (.tmp 34)),
 oo 36 (.loadc false 1 (.tmp 35)),
 oo 37 (.iaddr 2 (.tmp 28) (.tmp 36)),
 oo 38 (.faddr 1 1 (.tmp 37)),
 oo 39 (.loadc false 1 (.tmp 38)),
 om 40 6,
 oo 41 (.nilchk (.tmp 40)),
 oo 42 (.faddr 2 1 (.tmp 41)),
 oo 43 (.loadc false 1 (.tmp 42)),
 om 44 10,
 oo 45 (.iaddr 3 (.tmp 43) (.tmp 44)),
 oo 46 (.faddr 2 1 (.tmp 45)),
 oo 47 (.loadc false 1 (.tmp 46)),
 oo 48 (.build [.lit (.int .i64 0),.lit (.int .u32 0)] [(0,1,.tmp 39),(1,1,.tmp 47)]),
 oo 49 (.bslice 1 2 [.tmp 48]),
 oo 50 (.app 2 16 [] (.tmp 24) (.tmp 49)),
 om 8 50] [10,24,25,26,27,28,29,30,31,32,33,34,35,36,37,38,39,40,41,42,43,44,45,46,47,48,49,50])) [])
 (.region false [
 oo 51 (.bin .add 3 (.tmp 20) (.const (.int .i64 1))),
 om 20 51] [51])))) [] []) [6,18,19,20,21]))
 (.seq
 (.region false [
 om 53 8,
 oo 54 (.callm 26 [.tmp 53]),
 om 52 54,
 oo 55 (.ext (.tmp 52) 0),
 oo 56 (.ext (.tmp 52) 1),
 om 11 55,
 om 12 56] [8,52,53,54,55,56])
 (.seq
 (.seq
 (.region false [
 om 57 12,
 oo 58 (.un .not (.tmp 57))] [12,57])
 (.cond (.tmp 58)
 (.seq
 (.region false [
 oo 4 (.mov (.const (.int .i64 0))),
 oo 5 (.mov (.const (.bool false)))] [7,11,58])
 .ret)
 .skip))
 (.seq
 (.region false [
 om 59 7,
 om 60 11,
 oo 61 (.iaddr 1 (.tmp 59) (.tmp 60)),
 oo 62 (.load false 1 (.tmp 61)),
 om 4 62,
 oo 5 (.mov (.const (.bool true)))] [7,11,58,59,60,61,62])
 .ret))))))))
abbrev v_q10 : List RV:= [.tmp 4,.tmp 5]
abbrev f_q10 : FuncId:= 13
theorem k_q10 : closedOf Tryd.prog Tryd.f13 = (false,some true,some v_q10,some c_q10.plain,63):= by kernel_rfl
theorem ac_q10 {args : List AV} {r : AV} (h : aw Tryd.prog c_q10 (env0 args) (endQ v_q10 r)) (hargs : args.length ≤ 63:= by decide) (hok : resOK r = true:= by rfl) : AC Tryd.prog f_q10 args r :=
  AC_mk (by kernel_rfl) Tryd.func13 k_q10 hargs hok (by decide) h
def c_q23 : ACode :=
 (.seq
 (.region false [
 oo 2 (.mov (.const (.int .i64 0))),
 oo 3 (.mov (.const (.bool false)))] [2,3])
 (.seq
 (.region false [
 oo 4 (.mov (.const (.int .i64 0)))] [])
 (.seq
 (.seq
 (.region false [
 om 7 0,
 oo 8 (.lenl (.tmp 7)),
 oo 9 (.mov (.const (.int .i64 0)))] [])
 (.block 0
 (.loop
 (.seq
 (.region false [
 oo 10 (.bin .lss 3 (.tmp 9) (.tmp 8))] [])
 (.seq
 (.cond (.tmp 10)
 .skip
 (.exit 0))
 (.seq
 (.block 1
 (.seq
 (.region false [
 om 11 9,
 oo 12 (.iaddr 2 (.tmp 7) (.tmp 9)),
 oo 13 (.load true 2 (.tmp 12)),
 oo 6 (.alloc [.lit (.int .i64 0),.lit (.int .u32 0)]),
 om 5 11,
 ⟨none,.store 2 (.tmp 6) (.tmp 13),none⟩] [10,11,12,13])
 (.seq
 (.region true [
 oo 14 (.load true 2 (.tmp 6)),
 om 15 0,
 om 16 4,
 oo 17 (.iaddr 2 (.tmp 15) (.tmp 16)),
 oo 18 (.load true 2 (.tmp 17)),
 oo 19 (.call 42 [.tmp 14,.tmp 18])] [6,14,15,16,17,18])
 (.cond (.tmp 19)
 (.region false [
 om 20 5,
 om 4 20] [5,19,20])
 .skip))) [5,19])
 (.region false [
 oo 21 (.bin .add 3 (.tmp 9) (.const (.int .i64 1))),
 om 9 21] [21])))) [] [6]) [7,8,9,10]))
 (.seq
 (.region false [
 om 22 4,
 om 23 0,
 oo 24 (.lenl (.tmp 23)),
 oo 25 (.bin .gtr 3 (.tmp 24) (.const (.int .i64 0))),
 om 2 22,
 om 3 25] [0,4,22,23,24,25])
 .ret))))
abbrev v_q23 : List RV:= [.tmp 2,.tmp 3]
abbrev f_q23 : FuncId:= 26
theorem k_q23 : closedOf Tryd.prog Tryd.f26 = (false,some true,some v_q23,some c_q23.plain,26):= by kernel_rfl
theorem ac_q23 {args : List AV} {r : AV} (h : aw Tryd.prog c_q23 (env0 args) (endQ v_q23 r)) (hargs : args.length ≤ 26:= by decide) (hok : resOK r = true:= by rfl) : AC Tryd.prog f_q23 args r :=
  AC_mk (by kernel_rfl) Tryd.func26 k_q23 hargs hok (by decide) h
def c_q39 : ACode :=
 (.seq
 (.region false [
 oo 2 (.box (.tmp 0)),
 oo 3 (.box (.tmp 1)),
 oo 4 (.mov (.const (.bool false)))] [0,1,4])
 (.seq
 (.region false [
 oo 5 (.faddr 0 1 (.tmp 2)),
 oo 6 (.load false 1 (.tmp 5)),
 oo 7 (.faddr 0 1 (.tmp 3)),
 oo 8 (.load false 1 (.tmp 7)),
 oo 9 (.bin .gtr 3 (.tmp 6) (.tmp 8)),
 om 10 9,
 og 11 (.faddr 0 1 (.tmp 2)) 10 false,
 og 12 (.load false 1 (.tmp 11)) 10 false,
 og 13 (.faddr 0 1 (.tmp 3)) 10 false,
 og 14 (.load false 1 (.tmp 13)) 10 false,
 og 15 (.bin .eql 3 (.tmp 12) (.tmp 14)) 10 false,
 og 16 (.mov (.tmp 15)) 10 false,
 og 17 (.faddr 1 1 (.tmp 2)) 16 true,
 og 18 (.load false 1 (.tmp 17)) 16 true,
 og 19 (.faddr 1 1 (.tmp 3)) 16 true,
 og 20 (.load false 1 (.tmp 19)) 16 true,
 og 21 (.bin .gtr 45 (.tmp 18) (.tmp 20)) 16 true,
 og 22 (.pick (.tmp 16) (.tmp 21) (.const (.bool false))) 10 false,
 oo 23 (.pick (.tmp 10) (.const (.bool true)) (.tmp 22)),
 om 4 23] [2,3,5,6,7,8,9,10,11,12,13,14,15,16,17,18,19,20,21,22,23])
 .ret))
abbrev v_q39 : List RV:= [.tmp 4]
abbrev f_q39 : FuncId:= 42
theorem k_q39 : closedOf Tryd.prog Tryd.f42 = (false,some true,some v_q39,some c_q39.plain,24):= by kernel_rfl
theorem ac_q39 {args : List AV} {r : AV} (h : aw Tryd.prog c_q39 (env0 args) (endQ v_q39 r)) (hargs : args.length ≤ 24:= by decide) (hok : resOK r = true:= by rfl) : AC Tryd.prog f_q39 args r :=
  AC_mk (by kernel_rfl) Tryd.func42 k_q39 hargs hok (by decide) h
end Go.Proofs.YtjceingdmfogeaaDoor.VL
end

section
set_option maxHeartbeats 4000000
namespace Go.Proofs.YtjceingdmfogeaaDoor.VL
open Go.RowKit Go.Proofs
theorem onW_le (w:NW)(i:Int):(onW w i).length≤w.pts.length:=by
 simp only[onW,atF]
 split
 ·exact idxK_len _ _
 ·exact Nat.zero_le _
end Go.Proofs.YtjceingdmfogeaaDoor.VL
end

section
set_option maxHeartbeats 4000000
namespace Go.Proofs.YtjceingdmfogeaaDoor.VL
open Go.RowKit Go.Proofs
def avSeat (w a:Int):AV:=.agg [.lit (.int .i64 w),.lit (.int .u32 a)]
def better (w a w' a':Int):Bool:=decide (w'<w)||(w==w'&&decide (a'<a))
theorem C_Better (w a w' a':Int):AC Tryd.prog f_q39 [avSeat w a,avSeat w' a'] (.lit (.bool (better w a w' a'))):=by
 refine ac_q39 ?_ (Nat.le_add_left 2 22)
 simp only [go_sem,c_q39,avSeat]
 refine guardX_of' (fun h1=>?_) (fun h1=>?_)
 ·simp only [go_sem,h1]
  simp [better,h1]
 ·simp only [go_sem,h1]
  refine guardX_of (fun h2=>?_) (fun h2=>?_)
  ·simp only [go_sem,h1,h2]
   simp [better,h1,h2]
  ·simp only [go_sem,h1,h2]
   simp [better,h1,h2]
def avS (p:Int×Int):AV:=avSeat p.1 p.2
def betterP (p q:Int×Int):Bool:=better p.1 p.2 q.1 q.2
def bestAt (l:List (Int×Int)):Nat→Nat
 | 0=>0
 | k+1=>match l[k]?,l[bestAt l k]? with
  | some p,some q=>if betterP p q then k else bestAt l k
  | _,_=>bestAt l k
theorem bestAt_le (l:List (Int×Int)):∀ k,bestAt l k≤k
 | 0=>Nat.le_refl _
 | k+1=>by
  have:=bestAt_le l k
  simp only[bestAt]
  split
  ·split<;>omega
  ·omega
theorem C_Best (t : Tok) (l : List (Int × Int)) (hl : l.length < 9223372036854775808) (hf : frB t = false := by rfl) :
    AC Tryd.prog f_q23 [.sl t 2 (l.map avS)] (.tup [.lit (.int .i64 (bestAt l l.length)), .lit (.bool (decide (0 < l.length)))]) := by
  refine ac_q23 ?_ (Nat.le_add_left 1 25)
  simp only [go_sem, c_q23]
  refine aw_loop (fun m E => ∃ k, k + m = l.length ∧ E = mkE [(0, .sl t 2 (l.map avS)), (4, .lit (.int .i64 (bestAt l k))), (7, .sl t 2 (l.map avS)), (8, .lit (.int .i64 l.length)), (9, .lit (.int .i64 (k : Nat)))] []) l.length ?_ ?_
  · refine ⟨0, by omega, ?_⟩
    simp only [go_sem, bestAt, Int.ofNat_zero]
  · rintro m _ ⟨k, hk, rfl⟩
    simp only [go_sem]
    refine condX_of (fun h => ?_) (fun h => ?_)
    · have hkl : k < l.length := by simpa using h
      obtain ⟨p, hp⟩ : ∃ p, l[k]? = some p := ⟨l[k], List.getElem?_eq_getElem hkl⟩
      have hb := bestAt_le l k
      obtain ⟨q, hq⟩ : ∃ q, l[bestAt l k]? = some q := ⟨l[bestAt l k], List.getElem?_eq_getElem (by omega)⟩
      simp only [go_sem, h, hp, hq, Int.toNat_natCast, Int.natCast_nonneg, avS, avSeat, List.getElem?_map, avRow_some, hf]
      refine callX_of (C_Better _ _ _ _) ?_
      simp only [go_sem, h, hp, hq, Int.toNat_natCast, Int.natCast_nonneg, avS, avSeat, List.getElem?_map, avRow_some, hf]
      have hw := wrap_succ k (by omega)
      refine condX_of (fun h2 => ?_) (fun h2 => ?_)
      · simp only [go_sem, hw]
        refine ⟨m - 1, by omega, k + 1, by omega, ?_⟩
        simp only [bestAt, hp, hq, betterP, h2, if_true]
      · simp only [go_sem, hw]
        refine ⟨m - 1, by omega, k + 1, by omega, ?_⟩
        simp only [bestAt, hp, hq, betterP, h2, if_false, Bool.false_eq_true]
    · have hkl : k = l.length := by have : ¬ k < l.length := by simpa using h
                                    omega
      subst hkl
      simp only [go_sem, h]
      simp
theorem C_first12:AC Tryd.prog f_q6 [] (.lit (.bool true)):=by
 refine ac_q6 ?_ (Nat.zero_le 24)
 simp only [go_sem,c_q6]
 refine callX_of (C_Best .none [(1,0)] (by decide)) ?_
 simp only [go_sem,c_q6]
 refine callX_of ((C_Best .none [] (by decide)).nil [] (by simp)) ?_
 have e:((bestAt [(1,0)] 1:Nat):Int)=0:=by rfl
 simp only [go_sem,c_q6,e,Int.reduceBEq,Nat.lt_irrefl]
end Go.Proofs.YtjceingdmfogeaaDoor.VL
end

section
set_option maxHeartbeats 4000000
namespace Go.Proofs.YtjceingdmfogeaaDoor.VL
open Go.RowKit Go.Proofs
def bidW (w:NW)(p:Nat):Int×Int:=match w.pts[p]? with
 | some x=>((match w.rts[x.rt.toNat]? with|some r=>r.rank|none=>0),(x.a:Int))
 | none=>(0,0)
def seatW (w:NW) (i:Int):Option Nat:=(onW w i)[bestAt ((onW w i).map (bidW w)) (onW w i).length]?
theorem on_mem {w:NW} {i:Int} {p:Nat} (h:p∈onW w i):p<w.pts.length:=by
 simp only[onW,atF] at h
 split at h
 ·exact (mem_idx.1 h).1
 ·cases h
theorem bestAt_lt (l:List (Int×Int))(h:0<l.length):bestAt l l.length<l.length:=by
 obtain ⟨k,hk⟩: ∃ k,l.length=k+1:=⟨l.length - 1,by omega⟩
 have hb:=bestAt_le l k
 rw[hk]
 simp only[bestAt]
 split
 ·split<;>omega
 ·omega
theorem bid_of {w:NW} (hv:vNet w=none) {p:Nat} {x:NPt} (hx:w.pts[p]?=some x):∃ (r:Nat)(y:NRt),x.rt=(r:Int)∧w.rts[r]?=some y∧bidW w p=(y.rank,(x.a:Int)):=by
 obtain ⟨r,hr,hrl⟩:=(portOK hv hx).rt
 have hy:w.rts[r]?=some w.rts[r]:=List.getElem?_eq_getElem hrl
 exact ⟨r,_,hr,hy,by simp[bidW,hx,hr,hy]⟩
def SO (w:NW) (L:List Nat) (i:Nat):Env:=mkE [(6,.rp (netV w)),(7,.sl .none 1 (L.map avI)),(8,rowO [50] 2 ((L.take i).map fun p=>avS (bidW w p))),(18,.sl .none 1 (L.map avI)),(19,.lit (.int .i64 (L.length:Nat))),(20,.lit (.int .i64 (i:Nat)))] []
theorem take_map_succ {α β:Type} (f:α→β) {L:List α} {i:Nat} {p:α} (hp:L[i]?=some p):(L.take (i+1)).map f=(L.take i).map f++[f p]:=by
 rw[List.take_add_one,hp,Option.toList_some,List.map_append]
 rfl
theorem C_seatOf (w:NW) (hf:w.Fit) (hv:vNet w=none) (k:Int):AC Tryd.prog f_q10 [.rp (topoV w),.lit (.int .i64 k)] (.tup [avI ((seatW w k).getD 0),.lit (.bool (seatW w k).isSome)]):=by
 refine ac_q10 ?_ (Nat.le_add_left 2 _)
 simp only [go_sem,c_q10]
 refine callX_of (C_Raw w) ?_
 simp only [go_sem]
 refine callX_of (C_On w hf k) ?_
 have hm:=fun p (hp:p∈onW w k)=>on_mem hp
 have hlen:=onW_le w k
 have h3:=hf.l3
 simp only [go_sem,List.length_map]
 unfold seatW
 generalize onW w k=L at *
 refine aw_loop (fun m E=>∃ i:Nat,i+m=L.length∧E=SO w L i) L.length ?_ ?_
 ·exact ⟨0,by omega,rfl⟩
 ·rintro m _ ⟨i,him,rfl⟩
  by_cases hil:i<L.length
  ·have f1:((i:Int)<(L.length:Int))=True:=eq_true (by omega)
   have hw:=wrap_succ i (by omega)
   obtain ⟨p,hp⟩:∃ p,L[i]?=some p:=⟨L[i],List.getElem?_eq_getElem hil⟩
   have hpl:=hm p (List.mem_of_getElem? hp)
   obtain ⟨x,hx⟩:∃ x,w.pts[p]?=some x:=⟨w.pts[p],List.getElem?_eq_getElem hpl⟩
   obtain ⟨r,y,hr,hy,hb⟩:=bid_of hv hx
   have e1:=take_map_succ (fun p=>avS (bidW w p)) hp
   have hR:((L.take i).map fun p=>avS (bidW w p)).length≤4294967295:=by
    rw [List.length_map,List.length_take]
    omega
   have hrI:=fun x=>avRow_some 1 .none (AV.lit x) rfl
   have q1:=Int.natCast_nonneg p
   have q2:=Int.natCast_nonneg r
   simp only [hb,avS,avSeat] at e1 hR
   simp only [SO,avS,avSeat]
   generalize ((L.take i).map fun p=>AV.agg [.lit (.int .i64 (bidW w p).1),.lit (.int .u32 (bidW w p).2)])=R at *
   cases R with
   | nil=>
    have ea:∀ s c,avApp 2 16 [] 50 s c (.sl .nil 0 []) (.sl (.own [49]) 2 [.agg [.lit (.int .i64 y.rank),.lit (.int .u32 (x.a:Int))]])=_:=fun s c=>avApp_nil (d:=50) (s:=s) (c:=c) 2 16 0 [] [] [.agg [.lit (.int .i64 y.rank),.lit (.int .u32 (x.a:Int))]] (.own [49]) (by simp) (by decide)
    simp only [go_sem,rowO_nil,f1,decide_true,avI,netV,Int.natCast_nonneg,Int.toNat_natCast,List.getElem?_map,hp,hx,hy,hr,hrI,Option.map_some,rowAgg,avPort,avRouter,avU,avStr]
    simp only [go_sem,ea,hw]
    exact ⟨m - 1,by omega,i+1,by omega,by simp only [SO,avS,avSeat,e1];rfl⟩
   | cons z zs=>
    have ea:∀ s c,avApp 2 16 [] 50 s c (.sl (.own [50]) 2 (z::zs)) (.sl (.own [49]) 2 [.agg [.lit (.int .i64 y.rank),.lit (.int .u32 (x.a:Int))]])=_:=fun s c=>avApp_own (d:=50) (s:=s) (c:=c) 2 16 [] [50] (z::zs) [.agg [.lit (.int .i64 y.rank),.lit (.int .u32 (x.a:Int))]] (.own [49]) (by simp at hR ⊢;omega) (by decide) rfl
    simp only [go_sem,rowO_cons,f1,decide_true,avI,netV,Int.natCast_nonneg,Int.toNat_natCast,List.getElem?_map,hp,hx,hy,hr,hrI,Option.map_some,rowAgg,avPort,avRouter,avU,avStr]
    simp only [go_sem,ea,hw]
    exact ⟨m - 1,by omega,i+1,by omega,by simp only [SO,avS,avSeat,e1];rfl⟩
  ·have f1:((i:Int)<(L.length:Int))=False:=eq_false (by omega)
   have e:L.take i=L:=List.take_of_length_le (by omega)
   simp only [SO,e]
   rw [show (L.map fun p=>avS (bidW w p))=(L.map (bidW w)).map avS by rw [List.map_map];rfl]
   by_cases h0:L=[]
   ·subst h0
    have hB:=(C_Best .none [] (by decide)).nil (e:=0) [] (by simp)
    have f0:((i:Int)<((0:Nat):Int))=False:=eq_false (by omega)
    simp only [go_sem,List.map_nil,rowO_nil,f0,decide_false,List.length_nil]
    refine callX_of hB ?_
    simp only [go_sem,bestAt,Nat.lt_irrefl,decide_false]
    rfl
   ·have hpos:0<L.length:=List.length_pos_iff.2 h0
    have hB:=C_Best .none (L.map (bidW w)) (by rw [List.length_map];omega)
    have hlt:=bestAt_lt (L.map (bidW w)) (by rw [List.length_map];exact hpos)
    rw [List.length_map] at hB hlt
    obtain ⟨q,hq⟩:∃ q,L[bestAt (L.map (bidW w)) L.length]?=some q:=⟨_,List.getElem?_eq_getElem hlt⟩
    have er:rowO [50] 2 ((L.map (bidW w)).map avS)=.sl (.own [50]) 2 ((L.map (bidW w)).map avS):=rowO_ne (by simpa using h0)
    have hrI:=fun x=>avRow_some 1 .none (AV.lit x) rfl
    simp only [go_sem,er,f1,decide_false]
    refine callX_of hB ?_
    simp only [go_sem,hpos,decide_true,hq,avI,Int.natCast_nonneg,Int.toNat_natCast,List.getElem?_map,hrI,Option.map_some,Option.getD_some,Option.isSome_some]
end Go.Proofs.YtjceingdmfogeaaDoor.VL
end

section
set_option maxHeartbeats 4000000
namespace Go.Proofs.YtjceingdmfogeaaDoor.VL
open Go.RowKit Go.Proofs
def ranked (w:NW)(f:Nat→Int):NW:={ w with rts:=w.rts.mapIdx fun i x=>{ x with rank:=f i } }
theorem ranked_get (w:NW)(f:Nat→Int)(i:Nat):(ranked w f).rts[i]?=(w.rts[i]?).map fun x=>{ x with rank:=f i }:=by
 simp[ranked,List.getElem?_mapIdx]
theorem ranked_len (w:NW)(f:Nat→Int):(ranked w f).rts.length=w.rts.length:=by simp[ranked]
theorem any_mapIdx {α β:Type} (p:β→Bool)(q:α→Bool):∀ (l:List α)(g:Nat→α→β)(h:∀ j y,p (g j y)=q y)(i:Nat),((l.mapIdx g).take i).any p=(l.take i).any q
 | [],g,h,i=>by simp
 | x::l,g,h,0=>rfl
 | x::l,g,h,i+1=>by
  rw[List.mapIdx_cons,List.take_succ_cons,List.take_succ_cons,List.any_cons,List.any_cons,h,any_mapIdx p q l _ (fun j y=>h _ y) i]
theorem ranked_at (w:NW) (f:Nat→Int) (h:∀ i x,w.rts[i]?=some x→costN (f i)=costN x.rank):∀ k i,vAt (ranked w f) k i=vAt w k i
 | 0,i=>by
  simp only [vAt,ranked_get]
  cases hx:w.rts[i]? with
  | none=>rfl
  | some x=>
   have e:=h i x hx
   have e2:=any_mapIdx (p_router_1 { x with rank:=f i }) (p_router_1 x) w.rts (fun i x=>{ x with rank:=f i }) (fun j y=>rfl) i
   simp only [Option.map_some,Option.bind_some,rtOf,e]
   rw [show (ranked w f).rts=w.rts.mapIdx fun i x=>{ x with rank:=f i } from rfl,e2]
 | 1,i=>rfl
 | 2,i=>by
  show (w.pts[i]?).bind (ptOf (ranked w f).net w.pts i)=(w.pts[i]?).bind (ptOf w.net w.pts i)
  congr 1
  funext x
  unfold ptOf
  rw [show ((ranked w f).net.rts.getD []).length=(w.net.rts.getD []).length from ranked_len w f]
  rfl
 | 3,i=>by
  show (w.ros[i]?).bind (roOf (ranked w f).net)=(w.ros[i]?).bind (roOf w.net)
  congr 1
  funext x
  unfold roOf
  rw [show ((ranked w f).net.rts.getD []).length=(w.net.rts.getD []).length from ranked_len w f]
 | 4,i=>rfl
 | 5,i=>rfl
 | k+6,i=>rfl
theorem ranked_lenN (w:NW)(f:Nat→Int):∀ k,lenN (ranked w f) k=lenN w k
 | 0=>ranked_len w f
 | 1=>rfl
 | 2=>rfl
 | 3=>rfl
 | 4=>rfl
 | 5=>rfl
 | k+6=>rfl
theorem ranked_list (w:NW)(f:Nat→Int)(h:∀ i x,w.rts[i]?=some x→costN (f i)=costN x.rank)(k i:Nat):vList (ranked w f) k i=vList w k i:=by
 unfold vList
 rw[show vAt (ranked w f) k=vAt w k from funext (ranked_at w f h k),ranked_lenN]
theorem ranked_scan (w:NW)(f:Nat→Int)(h:∀ i x,w.rts[i]?=some x→costN (f i)=costN x.rank):∀ n k,scanK (ranked w f) n k=scanK w n k
 | 0,k=>rfl
 | n+1,k=>by
  rw[scanK,scanK,ranked_list w f h,ranked_scan w f h n (k+1)]
theorem ranked_v (w:NW)(f:Nat→Int)(h:∀ i x,w.rts[i]?=some x→costN (f i)=costN x.rank):vNet (ranked w f)=vNet w:=ranked_scan w f h 7 0
def sPts (n:Nat):List NPt:=(List.range n).flatMap fun i=>[portL i 0,portL i (i+1)]
def sRo (i k:Nat):NRo:=⟨i,addrL (k+1) 0,24,addrL 0 (k+1),1⟩
def sRosK (i k:Nat):List NRo:=(List.range k).flatMap fun k=>if k=i then[] else[sRo i k]
def sRos (n i:Nat):List NRo:=(List.range i).flatMap fun i=>sRosK i n
def starW (n:Nat):NW:=⟨rtrs n,links (n+1),sPts n,sRos n n,[⟨3758096384,4,addrL 0 1⟩],[],[]⟩
theorem star_v:∀ n,n<6→vNet (starW (n+1))=none:=by decide+kernel
theorem star_ok (n:Nat)(h:n<6):(starW (n+1)).OK:=by
 have:n=0∨n=1∨n=2∨n=3∨n=4∨n=5:=by omega
 rcases this with rfl|rfl|rfl|rfl|rfl|rfl<;>(constructor<;>decide+kernel)
theorem star_on:∀ n,n<6→onW (starW (n+1)) 0=(List.range (n+1)).map (2 * ·)∧onW (starW (n+1)) ((n+2:Nat):Int)=[]∧∀ b,b<n+1→onW (starW (n+1)) ((b+1:Nat):Int)=[2 * b+1]:=by decide+kernel
theorem star_pt:∀ n,n<6→∀ b,b<n+1→(starW (n+1)).pts[2*b]?=some (portL b 0)∧(starW (n+1)).pts[2*b+1]?=some (portL b (b+1))∧((starW (n+1)).rts[b]?).isSome=true:=by decide+kernel
def rankW (n:Nat)(f:Nat→Int):NW:=ranked (starW n) f
theorem rankW_ok (n:Nat)(h:n<6)(f:Nat→Int):(rankW (n+1) f).OK:=by
 have o:=star_ok n h
 have e:∀ x∈(rankW (n+1) f).rts,x.nm.size<9223372036854775808:=by
  intro x hx
  obtain ⟨i,hi⟩:=List.mem_iff_getElem?.1 hx
  rw[rankW,ranked_get] at hi
  obtain ⟨y,hy,rfl⟩:=Option.map_eq_some_iff.1 hi
  exact o.rtn y (List.mem_of_getElem? hy)
 have e1:(rankW (n+1) f).rts.length<9223372036854775808:=by
  rw[rankW,ranked_len]
  exact o.l1
 exact ⟨e,o.lkn,o.lka,o.pta,o.roa,o.rov,o.rga,o.rgr,o.scs,o.scg,o.mbg,o.mbs,o.mbl,e1,o.l2,o.l3,o.l4,o.l5,o.l6,o.l7⟩
theorem star_rank (n:Nat)(h:n<6) {i:Nat} {x:NRt} (hx:(starW (n+1)).rts[i]?=some x):x.rank=1:=by
 simp only[starW,rtrs,List.getElem?_map,Option.map_eq_some_iff] at hx
 obtain ⟨_,_,rfl⟩:=hx
 rfl
theorem rankW_v (n:Nat)(h:n<6)(f:Nat→Int)(hf:∀ i,0≤f i∧f i≤2):vNet (rankW (n+1) f)=none:=by
 unfold rankW
 rw[ranked_v,star_v n h]
 intro i x hx
 rw[star_rank n h hx]
 have:=hf i
 simp[costN]
 omega
theorem rankW_bid (n:Nat) (h:n<6) (f:Nat→Int) (b:Nat) (hb:b<n+1):bidW (rankW (n+1) f) (2 * b)=(f b,((addrL 0 (b+1):Nat):Int)):=by
 obtain ⟨h1,h2,h3⟩:=star_pt n h b hb
 obtain ⟨y,hy⟩:=Option.isSome_iff_exists.1 h3
 have e1:(rankW (n+1) f).pts[2 * b]?=some (portL b 0):=h1
 have e2:=ranked_get (starW (n+1)) f b
 rw [hy] at e2
 simp only [bidW,e1,portL,Int.toNat_natCast]
 rw [show (rankW (n+1) f).rts[b]?=some { y with rank:=f b } from e2]
def lastB (f:Nat→Int):Nat→Nat
 | 0=>0
 | k+1=>if f (lastB f k)≤f k then k else lastB f k
theorem lastB_le (f:Nat→Int):∀ k,lastB f k≤k - 1
 | 0=>Nat.le_refl _
 | k+1=>by
  have:=lastB_le f k
  simp only[lastB]
  split<;>omega
theorem bids_last (f:Nat→Int)(n:Nat):∀ k,k≤n→bestAt ((List.range n).map fun b=>(f b,((addrL 0 (b+1):Nat):Int))) k=lastB f k
 | 0,_=>rfl
 | k+1,hk=>by
  have ih:=bids_last f n k (by omega)
  have hl:=lastB_le f k
  have hk2:lastB f k<n:=by omega
  have g1:((List.range n).map fun b=>(f b,((addrL 0 (b+1):Nat):Int)))[k]?=some (f k,((addrL 0 (k+1):Nat):Int)):=by
   rw[List.getElem?_map,List.getElem?_range (by omega)]
   rfl
  have g2:((List.range n).map fun b=>(f b,((addrL 0 (b+1):Nat):Int)))[lastB f k]?=some (f (lastB f k),((addrL 0 (lastB f k+1):Nat):Int)):=by
   rw[List.getElem?_map,List.getElem?_range hk2]
   rfl
  simp only[bestAt,ih,g1,g2,lastB,betterP,better]
  by_cases h0:k=0
  ·subst h0
   simp[lastB]
  ·have ha:(((addrL 0 (lastB f k+1):Nat):Int)<((addrL 0 (k+1):Nat):Int)):=by simp only[addrL];omega
   have e:(decide (f (lastB f k)<f k)||(f k==f (lastB f k)&&decide (((addrL 0 (lastB f k+1):Nat):Int)<((addrL 0 (k+1):Nat):Int))))=decide (f (lastB f k)≤f k):=by
    rw[decide_eq_true ha,Bool.and_true,Bool.eq_iff_iff]
    simp only[Bool.or_eq_true,decide_eq_true_eq,beq_iff_eq]
    omega
   rw[e]
   simp only[decide_eq_true_eq]
theorem rankW_seat (n:Nat) (h:n<6) (f:Nat→Int):seatW (rankW (n+1) f) 0=some (2 * lastB f (n+1))∧seatW (rankW (n+1) f) ((lastB f (n+1)+1:Nat):Int)=some (2 * lastB f (n+1)+1)∧seatW (rankW (n+1) f) ((n+2:Nat):Int)=none:=by
 have hl:=lastB_le f (n+1)
 obtain ⟨o1,o2,o3⟩:=star_on n h
 have e1:onW (rankW (n+1) f) 0=(List.range (n+1)).map (2 * ·):=o1
 have e2:onW (rankW (n+1) f) ((n+2:Nat):Int)=[]:=o2
 have e3:onW (rankW (n+1) f) ((lastB f (n+1)+1:Nat):Int)=[2 * lastB f (n+1)+1]:=o3 _ (by omega)
 refine ⟨?_,?_,?_⟩
 ·have eb:((List.range (n+1)).map (2 * ·)).map (bidW (rankW (n+1) f))=(List.range (n+1)).map fun b=>(f b,((addrL 0 (b+1):Nat):Int)):=by
   rw [List.map_map]
   exact List.map_congr_left fun b hb=>rankW_bid n h f b (List.mem_range.1 hb)
  rw [seatW,e1,eb]
  simp only [List.length_map,List.length_range]
  rw [bids_last f (n+1) (n+1) (Nat.le_refl _),List.getElem?_map,List.getElem?_range (by omega)]
  rfl
 ·rw [seatW,e3]
  generalize 2 * lastB f (n+1)+1=q
  simp only [List.map_cons,List.map_nil,List.length_singleton,bestAt]
  split
  ·split<;>rfl
  ·rfl
 ·rw [seatW,e2]
  rfl
end Go.Proofs.YtjceingdmfogeaaDoor.VL
end

section
set_option maxRecDepth 100000
namespace Go.Proofs.YtjceingdmfogeaaDoor.VL
open Go.Proofs
def c_rivuletlaw12_SeatRanksS:ACode:=
 (.seq
 (.region false [
 ⟨some 2,.mov (.const (.bool false)),none⟩] [2])
 (.seq
 (.region false [
 ⟨some 15,.callm 9 [],none⟩,
 ⟨some 3,.mov (.tmp 15),none⟩] [15])
 (.seq
 (.seq
 (.region false [
 ⟨some 16,.mov (.tmp 3),none⟩,
 ⟨some 17,.un .not (.tmp 16),none⟩] [16])
 (.cond (.tmp 17)
 (.seq
 (.region false [
 ⟨some 2,.mov (.const (.bool false)),none⟩] [0,3,17])
 .ret)
 .skip))
 (.seq
 (.seq
 (.region false [
 ⟨some 18,.mov (.tmp 0),none⟩,
 ⟨some 19,.lenl (.tmp 18),none⟩,
 ⟨some 20,.bin .eql 3 (.tmp 19) (.const (.int .i64 0)),none⟩,
 ⟨some 21,.mov (.tmp 20),none⟩,
 ⟨some 22,.mov (.tmp 0),(some (21,false))⟩,
 ⟨some 23,.lenl (.tmp 22),(some (21,false))⟩,
 ⟨some 24,.bin .gtr 3 (.tmp 23) (.const (.int .i64 6)),(some (21,false))⟩,
 ⟨some 25,.pick (.tmp 21) (.const (.bool true)) (.tmp 24),none⟩] [17,18,19,20,21,22,23,24])
 (.cond (.tmp 25)
 (.seq
 (.region false [
 ⟨some 26,.mov (.tmp 3),none⟩,
 ⟨some 2,.mov (.tmp 26),none⟩] [0,3,25,26])
 .ret)
 .skip))
 (.seq
 (.region false [
 ⟨some 27,.mov (.tmp 0),none⟩,
 ⟨some 28,.lenl (.tmp 27),none⟩,
 ⟨some 29,.callm 10 [.tmp 28],none⟩,
 ⟨some 4,.alloc [.sl .nil 0 [],.sl .nil 0 [],.sl .nil 0 [],.sl .nil 0 [],.sl .nil 0 [],.sl .nil 0 [],.sl .nil 0 []],none⟩,
 ⟨none,.store 7 (.tmp 4) (.tmp 29),none⟩] [25,27,28,29])
 (.seq
 (.region false [
 ⟨some 5,.mov (.const (.int .i64 0)),none⟩] [])
 (.seq
 (.seq
 (.shift
 (.region false [
 ⟨some 6,.mov (.const (.int .i64 0)),none⟩] []))
 (.block 0
 (.loop
 (.seq
 (.seq
 (.region false [
 ⟨some 30,.mov (.tmp 6),none⟩,
 ⟨some 31,.mov (.tmp 0),none⟩,
 ⟨some 32,.lenl (.tmp 31),none⟩,
 ⟨some 33,.bin .lss 3 (.tmp 30) (.tmp 32),none⟩] [30,31,32])
 (.cond (.tmp 33)
 .skip
 (.exit 0)))
 (.seq
 (.block 1
 (.seq
 (.region true [
 ⟨some 36,.faddr 0 1 (.tmp 4),none⟩,
 ⟨some 37,.load false 1 (.tmp 36),none⟩,
 ⟨some 38,.mov (.tmp 6),none⟩,
 ⟨some 39,.mov (.tmp 0),none⟩,
 ⟨some 40,.mov (.tmp 6),none⟩,
 ⟨some 41,.iaddr 1 (.tmp 39) (.tmp 40),none⟩,
 ⟨some 42,.load false 1 (.tmp 41),none⟩,
 ⟨some 43,.call 11 [.tmp 42,.const (.int .i64 3)],none⟩,
 ⟨some 44,.iaddr 2 (.tmp 37) (.tmp 38),none⟩,
 ⟨some 45,.faddr 1 1 (.tmp 44),none⟩,
 ⟨none,.store 1 (.tmp 45) (.tmp 43),none⟩] [33,36,37,38,39,40,41,42,43,44,45])
 (.seq
 (.region true [
 ⟨some 46,.faddr 0 1 (.tmp 4),none⟩,
 ⟨some 47,.load false 1 (.tmp 46),none⟩,
 ⟨some 48,.mov (.tmp 6),none⟩,
 ⟨some 49,.iaddr 2 (.tmp 47) (.tmp 48),none⟩,
 ⟨some 50,.faddr 1 1 (.tmp 49),none⟩,
 ⟨some 51,.load false 1 (.tmp 50),none⟩,
 ⟨some 52,.faddr 0 1 (.tmp 4),none⟩,
 ⟨some 53,.load false 1 (.tmp 52),none⟩,
 ⟨some 54,.mov (.tmp 5),none⟩,
 ⟨some 55,.iaddr 2 (.tmp 53) (.tmp 54),none⟩,
 ⟨some 56,.faddr 1 1 (.tmp 55),none⟩,
 ⟨some 57,.load false 1 (.tmp 56),none⟩,
 ⟨some 58,.bin .geq 3 (.tmp 51) (.tmp 57),none⟩] [46,47,48,49,50,51,52,53,54,55,56,57])
 (.cond (.tmp 58)
 (.region false [
 ⟨some 59,.mov (.tmp 6),none⟩,
 ⟨some 5,.mov (.tmp 59),none⟩] [58,59])
 .skip))) [58])
 (.region false [
 ⟨some 34,.mov (.tmp 6),none⟩,
 ⟨some 35,.bin .add 3 (.tmp 34) (.const (.int .i64 1)),none⟩,
 ⟨some 6,.mov (.tmp 35),none⟩] [34,35]))) [] []) [6,33]))
 (.seq
 (.shift
 (.region false [
 ⟨some 61,.load true 7 (.tmp 4),none⟩,
 ⟨some 62,.callm 12 [.tmp 61],none⟩,
 ⟨some 60,.mov (.tmp 62),none⟩,
 ⟨some 63,.ext (.tmp 60) 0,none⟩,
 ⟨some 64,.ext (.tmp 60) 1,none⟩,
 ⟨some 7,.mov (.tmp 63),none⟩,
 ⟨some 8,.mov (.tmp 64),none⟩] [60,61,62,63,64]))
 (.seq
 (.seq
 (.region false [
 ⟨some 65,.mov (.tmp 7),none⟩,
 ⟨some 66,.eqp false (.tmp 65),none⟩,
 ⟨some 67,.mov (.tmp 66),none⟩,
 ⟨some 68,.mov (.tmp 8),(some (67,false))⟩,
 ⟨some 69,.eqn true (.tmp 68),(some (67,false))⟩,
 ⟨some 70,.pick (.tmp 67) (.const (.bool true)) (.tmp 69),none⟩] [8,65,66,67,68,69])
 (.cond (.tmp 70)
 (.seq
 (.region false [
 ⟨some 2,.mov (.const (.bool false)),none⟩] [0,3,4,5,7,70])
 .ret)
 .skip))
 (.seq
 (.region false [
 ⟨some 72,.mov (.tmp 7),none⟩,
 ⟨some 73,.callm 13 [.tmp 72,.const (.int .i64 0)],none⟩,
 ⟨some 71,.mov (.tmp 73),none⟩,
 ⟨some 74,.ext (.tmp 71) 0,none⟩,
 ⟨some 75,.ext (.tmp 71) 1,none⟩,
 ⟨some 9,.mov (.tmp 74),none⟩,
 ⟨some 10,.mov (.tmp 75),none⟩] [70,71,72,73,74,75])
 (.seq
 (.region false [
 ⟨some 77,.mov (.tmp 7),none⟩,
 ⟨some 78,.mov (.tmp 5),none⟩,
 ⟨some 79,.bin .add 3 (.tmp 78) (.const (.int .i64 1)),none⟩,
 ⟨some 80,.callm 13 [.tmp 77,.tmp 79],none⟩,
 ⟨some 76,.mov (.tmp 80),none⟩,
 ⟨some 81,.ext (.tmp 76) 0,none⟩,
 ⟨some 82,.ext (.tmp 76) 1,none⟩,
 ⟨some 11,.mov (.tmp 81),none⟩,
 ⟨some 12,.mov (.tmp 82),none⟩] [76,77,78,79,80,81,82])
 (.seq
 (.region false [
 ⟨some 84,.mov (.tmp 7),none⟩,
 ⟨some 85,.mov (.tmp 0),none⟩,
 ⟨some 86,.lenl (.tmp 85),none⟩,
 ⟨some 87,.bin .add 3 (.tmp 86) (.const (.int .i64 1)),none⟩,
 ⟨some 88,.callm 13 [.tmp 84,.tmp 87],none⟩,
 ⟨some 83,.mov (.tmp 88),none⟩,
 ⟨some 89,.ext (.tmp 83) 0,none⟩,
 ⟨some 90,.ext (.tmp 83) 1,none⟩,
 ⟨some 13,.mov (.tmp 89),none⟩,
 ⟨some 14,.mov (.tmp 90),none⟩] [0,7,13,83,84,85,86,87,88,89,90])
 (.seq
 (.region false [
 ⟨some 91,.mov (.tmp 3),none⟩,
 ⟨some 92,.mov (.tmp 91),none⟩,
 ⟨some 93,.mov (.tmp 10),(some (92,true))⟩,
 ⟨some 94,.pick (.tmp 92) (.tmp 93) (.const (.bool false)),none⟩,
 ⟨some 95,.mov (.tmp 94),none⟩,
 ⟨some 96,.faddr 2 1 (.tmp 4),(some (95,true))⟩,
 ⟨some 97,.load false 1 (.tmp 96),(some (95,true))⟩,
 ⟨some 98,.mov (.tmp 9),(some (95,true))⟩,
 ⟨some 99,.iaddr 3 (.tmp 97) (.tmp 98),(some (95,true))⟩,
 ⟨some 100,.faddr 0 1 (.tmp 99),(some (95,true))⟩,
 ⟨some 101,.load false 1 (.tmp 100),(some (95,true))⟩,
 ⟨some 102,.mov (.tmp 5),(some (95,true))⟩,
 ⟨some 103,.bin .eql 3 (.tmp 101) (.tmp 102),(some (95,true))⟩,
 ⟨some 104,.pick (.tmp 95) (.tmp 103) (.const (.bool false)),none⟩,
 ⟨some 105,.mov (.tmp 104),none⟩,
 ⟨some 106,.mov (.tmp 12),(some (105,true))⟩,
 ⟨some 107,.pick (.tmp 105) (.tmp 106) (.const (.bool false)),none⟩,
 ⟨some 108,.mov (.tmp 107),none⟩,
 ⟨some 109,.faddr 2 1 (.tmp 4),(some (108,true))⟩,
 ⟨some 110,.load false 1 (.tmp 109),(some (108,true))⟩,
 ⟨some 111,.mov (.tmp 11),(some (108,true))⟩,
 ⟨some 112,.iaddr 3 (.tmp 110) (.tmp 111),(some (108,true))⟩,
 ⟨some 113,.faddr 0 1 (.tmp 112),(some (108,true))⟩,
 ⟨some 114,.load false 1 (.tmp 113),(some (108,true))⟩,
 ⟨some 115,.mov (.tmp 5),(some (108,true))⟩,
 ⟨some 116,.bin .eql 3 (.tmp 114) (.tmp 115),(some (108,true))⟩,
 ⟨some 117,.pick (.tmp 108) (.tmp 116) (.const (.bool false)),none⟩,
 ⟨some 118,.mov (.tmp 117),none⟩,
 ⟨some 119,.mov (.tmp 14),(some (118,true))⟩,
 ⟨some 120,.un .not (.tmp 119),(some (118,true))⟩,
 ⟨some 121,.pick (.tmp 118) (.tmp 120) (.const (.bool false)),none⟩,
 ⟨some 2,.mov (.tmp 121),none⟩] [3,4,5,9,10,11,12,14,91,92,93,94,95,96,97,98,99,100,101,102,103,104,105,106,107,108,109,110,111,112,113,114,115,116,117,118,119,120,121])
 .ret)))))))))))))
abbrev v_rivuletlaw12_SeatRanksS:List RV:=[.tmp 2]
theorem k_rivuletlaw12_SeatRanksS:closedOf Tryd.prog Tryd.f3=(false,some true,some v_rivuletlaw12_SeatRanksS,some c_rivuletlaw12_SeatRanksS.plain,122):=by kernel_rfl
theorem ac_rivuletlaw12_SeatRanksS {args:List AV} {r:AV} (h:aw Tryd.prog c_rivuletlaw12_SeatRanksS (env0 args) (endQ v_rivuletlaw12_SeatRanksS r)) (hargs:args.length≤122:=by decide) (hok:resOK r=true:=by rfl):AC Tryd.prog f_q0 args r:=
 AC_mk (by kernel_rfl) Tryd.func3 k_rivuletlaw12_SeatRanksS hargs hok (by decide) h
def c_rivuletnet_StarS:ACode:=
 (.seq
 (.region false [
 ⟨some 2,.alloc [.sl .nil 0 [],.sl .nil 0 [],.sl .nil 0 [],.sl .nil 0 [],.sl .nil 0 [],.sl .nil 0 [],.sl .nil 0 []],none⟩] [])
 (.seq
 (.region false [
 ⟨some 8,.build [.sl .nil 0 [],.sl .nil 0 [],.sl .nil 0 [],.sl .nil 0 [],.sl .nil 0 [],.sl .nil 0 [],.sl .nil 0 []] [],none⟩,
 ⟨some 3,.alloc [.sl .nil 0 [],.sl .nil 0 [],.sl .nil 0 [],.sl .nil 0 [],.sl .nil 0 [],.sl .nil 0 [],.sl .nil 0 []],none⟩,
 ⟨none,.store 7 (.tmp 3) (.tmp 8),none⟩] [8])
 (.seq
 (.seq
 (.region false [
 ⟨some 4,.mov (.const (.int .i64 0)),none⟩] [])
 (.block 0
 (.loop
 (.seq
 (.seq
 (.region false [
 ⟨some 9,.mov (.tmp 4),none⟩,
 ⟨some 10,.mov (.tmp 0),none⟩,
 ⟨some 11,.bin .leq 3 (.tmp 9) (.tmp 10),none⟩] [9,10])
 (.cond (.tmp 11)
 .skip
 (.exit 0)))
 (.seq
 (.block 1
 (.region true [
 ⟨some 14,.faddr 1 1 (.tmp 3),none⟩,
 ⟨some 15,.loadc false 1 (.tmp 14),none⟩,
 ⟨some 16,.mov (.tmp 4),none⟩,
 ⟨some 17,.call 27 [.tmp 16],none⟩,
 ⟨some 18,.bslice 1 3 [.tmp 17],none⟩,
 ⟨some 19,.app 3 32 [] (.tmp 15) (.tmp 18),none⟩,
 ⟨some 20,.faddr 1 1 (.tmp 3),none⟩,
 ⟨none,.store 1 (.tmp 20) (.tmp 19),none⟩] [11,14,15,16,17,18,19,20]) [])
 (.region false [
 ⟨some 12,.mov (.tmp 4),none⟩,
 ⟨some 13,.bin .add 3 (.tmp 12) (.const (.int .i64 1)),none⟩,
 ⟨some 4,.mov (.tmp 13),none⟩] [12,13]))) [] []) [4,11]))
 (.seq
 (.seq
 (.shift
 (.region false [
 ⟨some 5,.mov (.const (.int .i64 0)),none⟩] []))
 (.block 2
 (.loop
 (.seq
 (.seq
 (.region false [
 ⟨some 21,.mov (.tmp 5),none⟩,
 ⟨some 22,.mov (.tmp 0),none⟩,
 ⟨some 23,.bin .lss 3 (.tmp 21) (.tmp 22),none⟩] [21,22])
 (.cond (.tmp 23)
 .skip
 (.exit 2)))
 (.seq
 (.block 3
 (.seq
 (.region true [
 ⟨some 26,.faddr 0 1 (.tmp 3),none⟩,
 ⟨some 27,.loadc false 1 (.tmp 26),none⟩,
 ⟨some 28,.mov (.tmp 5),none⟩,
 ⟨some 29,.call 28 [.const (.string ⟨#[114]⟩),.tmp 28],none⟩,
 ⟨some 30,.build [.lit (.string ⟨#[]⟩),.lit (.int .i64 0)] [(0,1,.tmp 29),(1,1,.const (.int .i64 1))],none⟩,
 ⟨some 31,.bslice 1 2 [.tmp 30],none⟩,
 ⟨some 32,.app 2 24 [] (.tmp 27) (.tmp 31),none⟩,
 ⟨some 33,.faddr 0 1 (.tmp 3),none⟩,
 ⟨none,.store 1 (.tmp 33) (.tmp 32),none⟩] [23,26,27,28,29,30,31,32,33])
 (.region true [
 ⟨some 34,.faddr 2 1 (.tmp 3),none⟩,
 ⟨some 35,.loadc false 1 (.tmp 34),none⟩,
 ⟨some 36,.mov (.tmp 5),none⟩,
 ⟨some 37,.call 29 [.tmp 36,.const (.int .i64 0)],none⟩,
 ⟨some 38,.mov (.tmp 5),none⟩,
 ⟨some 39,.mov (.tmp 5),none⟩,
 ⟨some 40,.bin .add 3 (.tmp 39) (.const (.int .i64 1)),none⟩,
 ⟨some 41,.call 29 [.tmp 38,.tmp 40],none⟩,
 ⟨some 42,.bslice 2 3 [.tmp 37,.tmp 41],none⟩,
 ⟨some 43,.app 3 24 [] (.tmp 35) (.tmp 42),none⟩,
 ⟨some 44,.faddr 2 1 (.tmp 3),none⟩,
 ⟨none,.store 1 (.tmp 44) (.tmp 43),none⟩] [34,35,36,37,38,39,40,41,42,43,44])) [])
 (.region false [
 ⟨some 24,.mov (.tmp 5),none⟩,
 ⟨some 25,.bin .add 3 (.tmp 24) (.const (.int .i64 1)),none⟩,
 ⟨some 5,.mov (.tmp 25),none⟩] [24,25]))) [] []) [5,23]))
 (.seq
 (.seq
 (.region false [
 ⟨some 6,.mov (.const (.int .i64 0)),none⟩] [])
 (.block 4
 (.loop
 (.seq
 (.seq
 (.region false [
 ⟨some 45,.mov (.tmp 6),none⟩,
 ⟨some 46,.mov (.tmp 0),none⟩,
 ⟨some 47,.bin .lss 3 (.tmp 45) (.tmp 46),none⟩] [45,46])
 (.cond (.tmp 47)
 .skip
 (.exit 4)))
 (.seq
 (.block 5
 (.seq
 (.region false [
 ⟨some 7,.mov (.const (.int .i64 0)),none⟩] [47])
 (.block 6
 (.loop
 (.seq
 (.seq
 (.region false [
 ⟨some 50,.mov (.tmp 7),none⟩,
 ⟨some 51,.mov (.tmp 0),none⟩,
 ⟨some 52,.bin .lss 3 (.tmp 50) (.tmp 51),none⟩] [50,51])
 (.cond (.tmp 52)
 .skip
 (.exit 6)))
 (.seq
 (.block 7
 (.seq
 (.region false [
 ⟨some 55,.mov (.tmp 7),none⟩,
 ⟨some 56,.mov (.tmp 6),none⟩,
 ⟨some 57,.bin .neq 3 (.tmp 55) (.tmp 56),none⟩] [52,55,56])
 (.cond (.tmp 57)
 (.region true [
 ⟨some 58,.faddr 3 1 (.tmp 3),none⟩,
 ⟨some 59,.loadc false 1 (.tmp 58),none⟩,
 ⟨some 60,.mov (.tmp 6),none⟩,
 ⟨some 61,.faddr 1 1 (.tmp 3),none⟩,
 ⟨some 62,.loadc false 1 (.tmp 61),none⟩,
 ⟨some 63,.mov (.tmp 7),none⟩,
 ⟨some 64,.bin .add 3 (.tmp 63) (.const (.int .i64 1)),none⟩,
 ⟨some 65,.iaddr 3 (.tmp 62) (.tmp 64),none⟩,
 ⟨some 66,.faddr 1 2 (.tmp 65),none⟩,
 ⟨some 67,.loadc true 2 (.tmp 66),none⟩,
 ⟨some 68,.mov (.tmp 7),none⟩,
 ⟨some 69,.bin .add 3 (.tmp 68) (.const (.int .i64 1)),none⟩,
 ⟨some 70,.call 21 [.const (.int .i64 0),.tmp 69],none⟩,
 ⟨some 71,.build [.lit (.int .i64 0),.lit (.int .u32 0),.lit (.int .i64 0),.lit (.int .u32 0),.lit (.int .i64 0)] [(0,1,.tmp 60),(1,2,.tmp 67),(3,1,.tmp 70),(4,1,.const (.int .i64 1))],none⟩,
 ⟨some 72,.bslice 1 5 [.tmp 71],none⟩,
 ⟨some 73,.app 5 40 [] (.tmp 59) (.tmp 72),none⟩,
 ⟨some 74,.faddr 3 1 (.tmp 3),none⟩,
 ⟨none,.store 1 (.tmp 74) (.tmp 73),none⟩] [57,58,59,60,61,62,63,64,65,66,67,68,69,70,71,72,73,74])
 .skip)) [57])
 (.region false [
 ⟨some 53,.mov (.tmp 7),none⟩,
 ⟨some 54,.bin .add 3 (.tmp 53) (.const (.int .i64 1)),none⟩,
 ⟨some 7,.mov (.tmp 54),none⟩] [53,54]))) [] []) [7,52])) [])
 (.region false [
 ⟨some 48,.mov (.tmp 6),none⟩,
 ⟨some 49,.bin .add 3 (.tmp 48) (.const (.int .i64 1)),none⟩,
 ⟨some 6,.mov (.tmp 49),none⟩] [48,49]))) [] []) [0,6,47]))
 (.seq
 (.region false [
 ⟨some 75,.callm 30 [],none⟩,
 ⟨some 76,.callm 21 [.const (.int .i64 0),.const (.int .i64 1)],none⟩,
 ⟨some 77,.build [.lit (.int .u32 0),.lit (.int .i64 0),.lit (.int .u32 0)] [(0,2,.tmp 75),(2,1,.tmp 76)],none⟩,
 ⟨some 78,.bslice 1 3 [.tmp 77],none⟩,
 ⟨some 79,.faddr 4 1 (.tmp 3),none⟩,
 ⟨none,.store 1 (.tmp 79) (.tmp 78),none⟩] [75,76,77,78,79])
 (.seq
 (.region false [
 ⟨some 80,.load true 7 (.tmp 3),none⟩,
 ⟨none,.store 7 (.tmp 2) (.tmp 80),none⟩] [3,80])
 .ret)))))))
abbrev v_rivuletnet_StarS:List RV:=[.cell true 7 2]
theorem k_rivuletnet_StarS:closedOf Tryd.prog Tryd.f10=(false,some true,some v_rivuletnet_StarS,some c_rivuletnet_StarS.plain,81):=by kernel_rfl
theorem ac_rivuletnet_StarS {args:List AV} {r:AV} (h:aw Tryd.prog c_rivuletnet_StarS (env0 args) (endQ v_rivuletnet_StarS r)) (hargs:args.length≤81:=by decide) (hok:resOK r=true:=by rfl):AC Tryd.prog f_q7 args r:=
 AC_mk (by kernel_rfl) Tryd.func10 k_rivuletnet_StarS hargs hok (by decide) h
end Go.Proofs.YtjceingdmfogeaaDoor.VL
end

section
set_option maxHeartbeats 4000000
namespace Go.Proofs.YtjceingdmfogeaaDoor.VL
open Go.RowKit Go.Proofs
theorem sPts_succ (k:Nat):sPts (k+1)=sPts k++[portL k 0,portL k (k+1)]:=by simp[sPts,List.range_succ]
theorem sPts_len:∀ k,(sPts k).length=2*k
 | 0=>rfl
 | k+1=>by rw[sPts_succ,List.length_append,sPts_len k];simp;omega
theorem sRosK_succ (i k:Nat):sRosK i (k+1)=sRosK i k++(if k=i then[] else[sRo i k]):=by simp[sRosK,List.range_succ]
theorem sRos_succ (n i:Nat):sRos n (i+1)=sRos n i++sRosK i n:=by simp[sRos,List.range_succ]
theorem sRosK_len (i:Nat):∀ k,(sRosK i k).length≤k
 | 0=>Nat.le_refl 0
 | k+1=>by
  have:=sRosK_len i k
  rw[sRosK_succ,List.length_append]
  split<;>simp<;>omega
theorem sRos_len (n:Nat):∀ i,(sRos n i).length≤i*n
 | 0=>Nat.zero_le _
 | i+1=>by
  have:=sRos_len n i
  have:=sRosK_len i n
  rw[sRos_succ,List.length_append,Nat.succ_mul]
  omega
theorem sR_len (n i k:Nat) (hn:n<9) (hi:i<9) (hk:k<10):(sRos n i++sRosK i k).length≤1000:=by
 have h1:=sRos_len n i
 have h2:=sRosK_len i k
 have h3:i * n≤9 * 10:=Nat.mul_le_mul (by omega) (by omega)
 rw [List.length_append]
 omega
def St1 (n i:Nat):Env:=mkE [(0,avI n),(2,.lp 2 0),(3,.lp 3 0),(4,avI i)] [(2,nils),(3,[.sl .nil 0 [],rowO [19] 3 ((links i).map avLink),.sl .nil 0 [],.sl .nil 0 [],.sl .nil 0 [],.sl .nil 0 [],.sl .nil 0 []])]
def St2 (n i:Nat):Env:=mkE [(0,avI n),(2,.lp 2 0),(3,.lp 3 0),(5,avI i)] [(2,nils),(3,[.sl (.fr [32]) 2 ((rtrs i).map avRouter),.sl (.own [19]) 3 ((links (n+1)).map avLink),rowO [43] 3 ((sPts i).map avPort),.sl .nil 0 [],.sl .nil 0 [],.sl .nil 0 [],.sl .nil 0 []])]
def StC (n:Nat) (rows:List AV):List (Nat × List AV):=[(2,nils),(3,[.sl (.fr [32]) 2 ((rtrs n).map avRouter),.sl (.own [19]) 3 ((links (n+1)).map avLink),.sl (.own [43]) 3 ((sPts n).map avPort),rowO [73] 5 rows,.sl .nil 0 [],.sl .nil 0 [],.sl .nil 0 []])]
def St3 (n i:Nat):Env:=mkE [(0,avI n),(2,.lp 2 0),(3,.lp 3 0),(6,avI i)] (StC n ((sRos n i).map avRoute))
def St4 (n i k:Nat):Env:=mkE [(0,avI n),(2,.lp 2 0),(3,.lp 3 0),(6,avI i),(7,avI k)] (StC n ((sRos n i++sRosK i k).map avRoute))
def starO (n:Nat):List AV:=[.sl (.fr [32]) 2 ((rtrs n).map avRouter),.sl (.own [19]) 3 ((links (n+1)).map avLink),.sl (.own [43]) 3 ((sPts n).map avPort),rowO [73] 5 ((sRos n n).map avRoute),.sl (.own [78]) 3 [avRange ⟨3758096384,4,addrL 0 1⟩],.sl .nil 0 [],.sl .nil 0 []]
theorem resOK_star (n:Nat):resOK (.agg (starO n))=true:=by
 have:=resOK_rowO [73] 5 ((sRos n n).map avRoute)
 simp only [starO,resOK,resOKL,this,Bool.and_self]
theorem C_StarO (n:Nat) (hn0:0<n) (hn:n<9):AC Tryd.prog f_q7 [avI n] (.agg (starO n)):=by
 refine ac_rivuletnet_StarS ?_ (Nat.le_add_left 1 _) (resOK_star n)
 simp only [go_sem,c_rivuletnet_StarS,avI]
 refine aw_loop (fun m E=>∃ i:Nat,i+m=n+1∧E=St1 n i) (n+1) ?_ ?_
 ·exact ⟨0,by omega,by simp only [go_sem,St1];rfl⟩
 ·rintro m _ ⟨i,him,rfl⟩
  by_cases hil:i≤n
  ·have f1:((i:Int)≤(n:Int))=True:=eq_true (by omega)
   have hw:=wrap_succ i (by omega)
   cases i with
   | zero=>
    simp only [go_sem,St1,links,List.range_zero,List.map_nil,rowO_nil,avI,f1,decide_true]
    refine callX_of (C_nLink 0 (by decide)) ?_
    have ea:∀ s c,avApp 3 32 [] 19 s c (.sl .nil 0 []) (.sl (.own [18]) 3 [avLink (linkL 0)])=_:=fun s c=>avApp_nil (d:=19) (s:=s) (c:=c) 3 32 0 [] [] [avLink (linkL 0)] (.own [18]) (by decide) (by decide)
    simp only [go_sem,avLink,avU,avStr] at ea ⊢
    simp only [go_sem,ea]
    exact ⟨m - 1,by omega,1,by omega,rfl⟩
   | succ j=>
    have e1:(links (j+1+1)).map avLink=(links (j+1)).map avLink++[avLink (linkL (j+1))]:=by simp [links,List.range_succ]
    have e2:rowO [19] 3 ((links (j+1)).map avLink)=.sl (.own [19]) 3 ((links (j+1)).map avLink):=rowO_ne (by simp [links])
    have e3:rowO [19] 3 ((links (j+1)).map avLink++[avLink (linkL (j+1))])=.sl (.own [19]) 3 ((links (j+1)).map avLink++[avLink (linkL (j+1))]):=rowO_ne (by simp)
    have hlen:((links (j+1)).map avLink).length+[avLink (linkL (j+1))].length≤4294967296:=by simp [links];omega
    simp only [St1,e2]
    have hL:=C_nLink (j+1) (by omega)
    have ea:∀ s c,avApp 3 32 [] 19 s c (.sl (.own [19]) 3 ((links (j+1)).map avLink)) (.sl (.own [18]) 3 [avLink (linkL (j+1))])=_:=fun s c=>avApp_own (d:=19) (s:=s) (c:=c) 3 32 [] [19] ((links (j+1)).map avLink) [avLink (linkL (j+1))] (.own [18]) hlen (by decide) rfl
    generalize (links (j+1)).map avLink=R at *
    simp only [go_sem,avI,f1,decide_true]
    refine callX_of hL ?_
    simp only [go_sem,avLink,avU,avStr] at ea ⊢
    simp only [go_sem,ea,hw]
    refine ⟨m - 1,by omega,j+1+1,by omega,?_⟩
    rw [e1,e3]
    rfl
  ·have f1:((i:Int)≤(n:Int))=False:=eq_false (by omega)
   have ei:i=n+1:=by omega
   subst ei
   have e2:rowO [19] 3 ((links (n+1)).map avLink)=.sl (.own [19]) 3 ((links (n+1)).map avLink):=rowO_ne (by simp [links])
   simp only [go_sem,St1,e2,avI,f1,decide_false]
   refine shiftX_of (VS.tell (p:=.cell 3 0) (y:=.sl (.fr [32]) 2 []) rfl fun F v h=>rep_nil_fr h) ?_
   rintro _ rfl
   rw [set_cell (cs:=[.sl .nil 0 [],.sl (.own [19]) 3 ((links (n+1)).map avLink),.sl .nil 0 [],.sl .nil 0 [],.sl .nil 0 [],.sl .nil 0 [],.sl .nil 0 []]) (by simp only [go_sem])]
   simp only [go_sem,List.set_cons_succ,List.set_cons_zero]
   refine aw_loop (fun m E=>∃ i:Nat,i+m=n∧E=St2 n i) n ?_ ?_
   ·exact ⟨0,by omega,rfl⟩
   ·rintro m _ ⟨i,him,rfl⟩
    by_cases hil:i<n
    ·have f1:((i:Int)<(n:Int))=True:=eq_true (by omega)
     have hw:=wrap_succ i (by omega)
     have hN:=C_name 114 i (by omega)
     have hP1:=C_nPort i 0 (by omega) (by omega)
     have hP2:=C_nPort i (i+1) (by omega) (by omega)
     have e1:(rtrs (i+1)).map avRouter=(rtrs i).map avRouter++[avRouter (rtrL i)]:=by simp [rtrs,List.range_succ]
     have e1':(sPts (i+1)).map avPort=(sPts i).map avPort++[avPort (portL i 0),avPort (portL i (i+1))]:=by rw [sPts_succ];simp
     have hlen:((rtrs i).map avRouter).length+[avRouter (rtrL i)].length≤4294967296:=by simp [rtrs];omega
     have hlen':((sPts i).map avPort).length≤1000:=by rw [List.length_map,sPts_len];omega
     have ea:∀ s c,avApp 2 24 [] 32 s c (.sl (.fr [32]) 2 ((rtrs i).map avRouter)) (.sl (.own [31]) 2 [avRouter (rtrL i)])=_:=fun s c=>avApp_fr (d:=32) (s:=s) (c:=c) 2 24 [] [32] ((rtrs i).map avRouter) [avRouter (rtrL i)] (.own [31]) hlen (by decide) rfl
     simp only [St2]
     generalize (rtrs i).map avRouter=R at *
     generalize (sPts i).map avPort=Q at *
     have z0:avI 0=.lit (.int .i64 0):=rfl
     cases Q with
     | nil=>
      have eb:∀ s c,avApp 3 24 [] 43 s c (.sl .nil 0 []) (.sl (.own [42]) 3 [avPort (portL i 0),avPort (portL i (i+1))])=_:=fun s c=>avApp_nil (d:=43) (s:=s) (c:=c) 3 24 0 [] [] [avPort (portL i 0),avPort (portL i (i+1))] (.own [42]) (by simp) (by decide)
      simp only [go_sem,avI,f1,decide_true,rowO_nil]
      refine callX_of hN ?_
      simp only [go_sem,avRouter,rtrL,avU,avStr] at ea ⊢
      simp only [go_sem,ea]
      refine callX_of hP1 ?_
      simp only [go_sem,hw]
      refine callX_of hP2 ?_
      simp only [go_sem,avPort,avU] at eb ⊢
      simp only [go_sem,eb,hw]
      exact ⟨m - 1,by omega,i+1,by omega,by rw [e1,e1'];rfl⟩
     | cons z zs=>
      have eb:∀ s c,avApp 3 24 [] 43 s c (.sl (.own [43]) 3 (z::zs)) (.sl (.own [42]) 3 [avPort (portL i 0),avPort (portL i (i+1))])=_:=fun s c=>avApp_own (d:=43) (s:=s) (c:=c) 3 24 [] [43] (z::zs) [avPort (portL i 0),avPort (portL i (i+1))] (.own [42]) (by simp at hlen' ⊢;omega) (by decide) rfl
      simp only [go_sem,avI,f1,decide_true,rowO_cons]
      refine callX_of hN ?_
      simp only [go_sem,avRouter,rtrL,avU,avStr] at ea ⊢
      simp only [go_sem,ea]
      refine callX_of hP1 ?_
      simp only [go_sem,hw]
      refine callX_of hP2 ?_
      simp only [go_sem,avPort,avU] at eb ⊢
      simp only [go_sem,eb,hw]
      exact ⟨m - 1,by omega,i+1,by omega,by rw [e1,e1'];rfl⟩
    ·have f1:((i:Int)<(n:Int))=False:=eq_false (by omega)
     have ei:n=i:=by omega
     subst ei
     have ep:rowO [43] 3 ((sPts n).map avPort)=.sl (.own [43]) 3 ((sPts n).map avPort):=rowO_ne (by
      intro e
      have:=congrArg List.length e
      rw [List.length_map,sPts_len] at this
      simp at this
      omega)
     simp only [go_sem,St2,ep,avI,f1,decide_false]
     refine aw_loop (fun m E=>∃ i:Nat,i+m=n∧E=St3 n i) n ?_ ?_
     ·exact ⟨0,by omega,rfl⟩
     ·rintro m _ ⟨i,him,rfl⟩
      by_cases hil:i<n
      ·have f1:((i:Int)<(n:Int))=True:=eq_true (by omega)
       have hw:=wrap_succ i (by omega)
       simp only [go_sem,St3,StC,avI,f1,decide_true]
       refine aw_loop (fun m E=>∃ k:Nat,k+m=n∧E=St4 n i k) n ?_ ?_
       ·exact ⟨0,by omega,by simp only [go_sem,St4,StC,sRosK,List.range_zero,List.flatMap_nil,List.append_nil,avI,Int.natCast_zero]⟩
       ·rintro m2 _ ⟨k,hkm,rfl⟩
        by_cases hkn:k<n
        ·have g1:((k:Int)<(n:Int))=True:=eq_true (by omega)
         have hw2:=wrap_succ k (by omega)
         by_cases hki:k=i
         ·subst hki
          have g2:((k:Int) !=(k:Int))=false:=by simp
          have e1:(sRos n k++sRosK k (k+1)).map avRoute=(sRos n k++sRosK k k).map avRoute:=by
           rw [sRosK_succ,if_pos rfl,List.append_nil]
          simp only [St4,StC,e1]
          simp only [go_sem,avI,g1,g2,hw2,decide_true]
          exact ⟨m2 - 1,by omega,k+1,by omega,by simp only [St4,StC,e1]⟩
         ·have g2:((k:Int) !=(i:Int))=true:=by simp;omega
          have hA:=C_nAddr 0 (k+1) (by decide) (by omega)
          have e1:(sRos n i++sRosK i (k+1)).map avRoute=(sRos n i++sRosK i k).map avRoute++[avRoute (sRo i k)]:=by
           rw [sRosK_succ,if_neg hki]
           simp
          have hl:=links_get (n:=n+1) (k:=k+1) (by omega)
          have hlen:=sR_len n i k (by omega) (by omega) (by omega)
          simp only [St4,StC]
          have hR:((sRos n i++sRosK i k).map avRoute).length≤1000:=by rw [List.length_map];exact hlen
          generalize (sRos n i++sRosK i k).map avRoute=R at *
          have hr3:=fun cs=>avRow_some 3 (.own [19]) (AV.agg cs) rfl
          have z0:avI 0=.lit (.int .i64 0):=rfl
          cases R with
          | nil=>
           have ea:∀ s c,avApp 5 40 [] 73 s c (.sl .nil 0 []) (.sl (.own [72]) 5 [avRoute (sRo i k)])=_:=fun s c=>avApp_nil (d:=73) (s:=s) (c:=c) 5 40 0 [] [] [avRoute (sRo i k)] (.own [72]) (by simp) (by decide)
           simp only [go_sem,avI,g1,g2,hw,hw2,decide_true,rowO_nil,Int.natCast_nonneg,Int.toNat_natCast,List.getElem?_map,hl,Option.map_some,avLink,avU,hr3]
           refine callX_of hA ?_
           simp only [go_sem,avRoute,sRo,avU,linkL] at ea ⊢
           simp only [go_sem,ea,hw2]
           exact ⟨m2 - 1,by omega,k+1,by omega,by simp only [St4,StC,e1];rfl⟩
          | cons r rs=>
           have ea:∀ s c,avApp 5 40 [] 73 s c (.sl (.own [73]) 5 (r::rs)) (.sl (.own [72]) 5 [avRoute (sRo i k)])=_:=fun s c=>avApp_own (d:=73) (s:=s) (c:=c) 5 40 [] [73] (r::rs) [avRoute (sRo i k)] (.own [72]) (by simp at hR ⊢;omega) (by decide) rfl
           simp only [go_sem,avI,g1,g2,hw,hw2,decide_true,rowO_cons,Int.natCast_nonneg,Int.toNat_natCast,List.getElem?_map,hl,Option.map_some,avLink,avU,hr3]
           refine callX_of hA ?_
           simp only [go_sem,avRoute,sRo,avU,linkL] at ea ⊢
           simp only [go_sem,ea,hw2]
           exact ⟨m2 - 1,by omega,k+1,by omega,by simp only [St4,StC,e1];rfl⟩
        ·have g1:((k:Int)<(n:Int))=False:=eq_false (by omega)
         have ek:n=k:=by omega
         subst ek
         simp only [go_sem,St4,StC,avI,g1,decide_false,hw]
         refine ⟨m - 1,by omega,i+1,by omega,?_⟩
         simp only [St3,StC,sRos_succ]
      ·have f1:((i:Int)<(n:Int))=False:=eq_false (by omega)
       have ei:n=i:=by omega
       subst ei
       simp only [go_sem,St3,StC,avI,f1,decide_false]
       refine callX_of C_rGroups ?_
       simp only [go_sem,avPfx]
       refine callX_of (C_nAddr 0 1 (by decide) (by decide)) ?_
       simp only [starO]
       generalize (sRos n n).map avRoute=R
       cases R with
       | nil=>simp only [go_sem,rowO_nil,avU,nils,avRange]
       | cons r rs=>simp only [go_sem,rowO_cons,avU,nils,avRange]
def starV (n:Nat):List AV:=[.sl (.fr [32]) 2 ((rtrs n).map avRouter),.sl .none 3 ((links (n+1)).map avLink),.sl .none 3 ((sPts n).map avPort),.sl .none 5 ((sRos n n).map avRoute),.sl .none 3 [avRange ⟨3758096384,4,addrL 0 1⟩],.sl .none 3 [],.sl .none 4 []]
theorem C_Star (n:Nat) (hn0:0<n) (hn:n<9):AC Tryd.prog f_q7 [avI n] (.agg (starV n)):=
 AC_weak (C_StarO n hn0 hn) (wk_agg ⟨Wk.rfl _,wk_own _ _ _,wk_own _ _ _,wk_rowO _ _ _,wk_own _ _ _,wk_nil _ _,wk_nil _ _,trivial⟩)
end Go.Proofs.YtjceingdmfogeaaDoor.VL
end

section
set_option maxHeartbeats 4000000
namespace Go.Proofs.YtjceingdmfogeaaDoor.VL
open Go.RowKit Go.Proofs
def rkC (f:Nat→Int)(k i:Nat):List AV:=[avStr (nameN 114 i),.lit (.int .i64 (if i<k then f i else 1))]
def rksC (f:Nat→Int)(n k:Nat):List AV:=(List.range n).flatMap (rkC f k)
theorem rksC_len (f:Nat→Int)(k:Nat):∀ n,(rksC f n k).length=2*n
 | 0=>rfl
 | n+1=>by
  have e:rksC f (n+1) k=rksC f n k++rkC f k n:=by simp[rksC,List.range_succ]
  rw[e,List.length_append,rksC_len f k n]
  simp[rkC]
  omega
theorem rksC_get (f:Nat→Int)(k:Nat):∀ n i,i<n→(rksC f n k)[i*2]?=some (avStr (nameN 114 i))∧(rksC f n k)[i*2+1]?=some (.lit (.int .i64 (if i<k then f i else 1)))
 | 0,i,h=>absurd h (Nat.not_lt_zero i)
 | n+1,i,h=>by
  have e:rksC f (n+1) k=rksC f n k++rkC f k n:=by simp[rksC,List.range_succ]
  have hl:=rksC_len f k n
  rw[e]
  by_cases hi:i<n
  ·rw[List.getElem?_append_left (by omega),List.getElem?_append_left (by omega)]
   exact rksC_get f k n i hi
  ·obtain rfl:i=n:=by omega
   rw[List.getElem?_append_right (by omega),List.getElem?_append_right (by omega),hl]
   rw[show i*2 - 2*i=0 by omega,show i*2+1 - 2*i=1 by omega]
   exact ⟨rfl,rfl⟩
theorem rksC_ext (f:Nat→Int) (n k:Nat) (cs:List AV) (hl:cs.length=2 * n) (h:∀ i,i<n→cs[i * 2]?=some (avStr (nameN 114 i))∧cs[i * 2+1]?=some (.lit (.int .i64 (if i<k then f i else 1)))):cs=rksC f n k:=by
 refine List.ext_getElem? fun j=>?_
 by_cases hj:j<2 * n
 ·obtain ⟨h1,h2⟩:=h (j / 2) (by omega)
  obtain ⟨g1,g2⟩:=rksC_get f k n (j / 2) (by omega)
  have:=Nat.div_add_mod j 2
  rcases Nat.mod_two_eq_zero_or_one j with e | e
  ·rw [show j=j / 2 * 2 by omega]
   rw [h1,g1]
  ·rw [show j=j / 2 * 2+1 by omega]
   rw [h2,g2]
 ·rw [List.getElem?_eq_none (by omega),List.getElem?_eq_none (by rw [rksC_len];omega)]
theorem rksC_put (f:Nat→Int) {n k:Nat} (hk:k<n) (rest:List AV):(rksC f n k++rest).take (k * 2+1)++[.lit (.int .i64 (f k))]++(rksC f n k++rest).drop (k * 2+1+1)=rksC f n (k+1)++rest:=by
 have hl:=rksC_len f k n
 rw [List.take_append_of_le_length (by omega),List.drop_append_of_le_length (by omega),← List.append_assoc]
 congr 1
 have hs:(rksC f n k).set (k * 2+1) (.lit (.int .i64 (f k)))=(rksC f n k).take (k * 2+1)++[.lit (.int .i64 (f k))]++(rksC f n k).drop (k * 2+1+1):=by
  rw [List.set_eq_take_append_cons_drop,if_pos (by omega),List.append_assoc,List.singleton_append]
 rw [← hs]
 refine rksC_ext f n (k+1) _ (by rw [List.length_set,hl]) fun i hi=>?_
 obtain ⟨g1,g2⟩:=rksC_get f k n i hi
 by_cases hik:i=k
 ·subst hik
  rw [List.getElem?_set_ne (by omega),g1,List.getElem?_set_self (by omega),if_pos (by omega)]
  exact ⟨rfl,rfl⟩
 ·rw [List.getElem?_set_ne (by omega),g1,List.getElem?_set_ne (by omega),g2]
  refine ⟨rfl,?_⟩
  by_cases h:i<k
  ·rw [if_pos h,if_pos (by omega)]
  ·rw [if_neg h,if_neg (by omega)]
theorem rks_start (f:Nat→Int):∀ n,((rtrs n).map avRouter).flatMap cellsOf=rksC f n 0
 | 0=>rfl
 | n+1=>by
  have e:rksC f (n+1) 0=rksC f n 0++rkC f 0 n:=by simp[rksC,List.range_succ]
  have e2:rtrs (n+1)=rtrs n++[rtrL n]:=by simp[rtrs,List.range_succ]
  rw[e,e2,List.map_append,List.flatMap_append,rks_start f n]
  rfl
theorem chunk_rk (f:Nat→Int)(k:Nat)(rest:List AV):∀ (l:List Nat),chunk true 2 l.length (l.flatMap (rkC f k)++rest)=l.map fun i=>AV.agg (rkC f k i)
 | []=>rfl
 | i::l=>by
  have:=chunk_rk f k rest l
  simp only[List.flatMap_cons,List.length_cons,List.map_cons,chunk,List.append_assoc]
  rw[show rkC f k i++(l.flatMap (rkC f k)++rest)=[avStr (nameN 114 i),AV.lit (.int .i64 (if i<k then f i else 1))]++(l.flatMap (rkC f k)++rest) from rfl]
  simp only[List.cons_append,List.nil_append,List.take_succ_cons,List.take_zero,List.drop_succ_cons,List.drop_zero,this]
  rfl
theorem rank_rows (n:Nat)(f:Nat→Int):((List.range n).map fun i=>AV.agg (rkC f n i))=(rankW n f).rts.map avRouter:=by
 refine List.ext_getElem? fun i=>?_
 rw[List.getElem?_map,List.getElem?_map,rankW,ranked_get]
 by_cases h:i<n
 ·simp[starW,rtrs,List.getElem?_range,h,rkC,avRouter,rtrL]
 ·simp[starW,rtrs,List.getElem?_range,h]
theorem rank_net (n:Nat)(f:Nat→Int):netV (rankW n f)=[.sl .none 2 ((rankW n f).rts.map avRouter),.sl .none 3 ((links (n+1)).map avLink),.sl .none 3 ((sPts n).map avPort),.sl .none 5 ((sRos n n).map avRoute),.sl .none 3 [avRange ⟨3758096384,4,addrL 0 1⟩],.sl .none 3 [],.sl .none 4 []]:=rfl
theorem C_SeatRanks (l:List Int):AC Tryd.prog f_q0 [.sl .none 1 (l.map iI)] (.lit (.bool true)):=by
 refine ac_rivuletlaw12_SeatRanksS ?_ (Nat.le_add_left 1 _)
 simp only [go_sem,c_rivuletlaw12_SeatRanksS]
 refine callX_of C_first12 ?_
 by_cases hl0:l.length=0
 ·have k0:((l.length:Int)==0)=true:=by simp [hl0]
  simp only [go_sem,List.length_map,k0]
 by_cases hl6:6<l.length
 ·have k0:((l.length:Int)==0)=false:=beq_eq_false_iff_ne.2 (by omega)
  have f2:((l.length:Int) > 6)=True:=eq_true (by omega)
  have f3:((6:Int)<(l.length:Int))=True:=eq_true (by omega)
  simp only [go_sem,List.length_map,k0,f2,f3,decide_true]
 have k0:((l.length:Int)==0)=false:=beq_eq_false_iff_ne.2 (by omega)
 have f2:((l.length:Int) > 6)=False:=eq_false (by omega)
 have f3:((6:Int)<(l.length:Int))=False:=eq_false (by omega)
 obtain ⟨n,hn⟩:∃ n,l.length=n+1:=⟨l.length - 1,by omega⟩
 obtain ⟨f,hfd⟩:∃ f:Nat→Int,∀ i,f i=(l[i]?.getD 0) % 3:=⟨_,fun _=>rfl⟩
 have hfb:∀ i,0≤f i∧f i≤2:=fun i=>by rw [hfd];omega
 have hSt:=C_Star (n+1) (by omega) (by omega)
 have hv:=rankW_v n (by omega) f hfb
 have hok:=rankW_ok n (by omega) f
 have hf:=vfit hv
 have hN:=C_New (rankW (n+1) f) hok hf hv
 rw [rank_net] at hN
 obtain ⟨s1,s2,s3⟩:=rankW_seat n (by omega) f
 have hS1:=C_seatOf (rankW (n+1) f) hf hv 0
 have hS2:=C_seatOf (rankW (n+1) f) hf hv ((lastB f (n+1)+1:Nat):Int)
 have hS3:=C_seatOf (rankW (n+1) f) hf hv ((n+2:Nat):Int)
 rw [s1] at hS1
 rw [s2] at hS2
 rw [s3] at hS3
 have hbl:=lastB_le f (n+1)
 obtain ⟨p1,p2,_⟩:=star_pt n (by omega) (lastB f (n+1)) (by omega)
 have q1:((sPts (n+1)).map avPort)[2 * lastB f (n+1)]?=some (avPort (portL (lastB f (n+1)) 0)):=by
  rw [List.getElem?_map]
  rw [show sPts (n+1)=(starW (n+1)).pts from rfl,p1]
  rfl
 have q2:((sPts (n+1)).map avPort)[2 * lastB f (n+1)+1]?=some (avPort (portL (lastB f (n+1)) (lastB f (n+1)+1))):=by
  rw [List.getElem?_map]
  rw [show sPts (n+1)=(starW (n+1)).pts from rfl,p2]
  rfl
 have hst:=rks_start f (n+1)
 have hne:(rtrs (n+1)).map avRouter≠[]:=by simp [rtrs]
 have hrow:∀ r∈(rtrs (n+1)).map avRouter,r.row=true:=fun r hr=>by
  obtain ⟨x,_,rfl⟩:=List.mem_map.1 hr
  rfl
 have hrl:((rtrs (n+1)).map avRouter).length=n+1:=by simp [rtrs]
 simp only [avI,avU,starV,Option.getD_some,Option.isSome_some,Option.getD_none,Option.isSome_none] at hSt hS1 hS2 hS3
 generalize (rtrs (n+1)).map avRouter=RT at *
 generalize (links (n+1+1)).map avLink=A2 at *
 generalize (sPts (n+1)).map avPort=A3 at *
 generalize (sRos (n+1) (n+1)).map avRoute=A4 at *
 generalize avRange ⟨3758096384,4,addrL 0 1⟩=A5 at *
 generalize topoV (rankW (n+1) f)=T at *
 rw [hn] at k0 f2 f3
 simp only [go_sem,List.length_map,k0,f2,f3,decide_false,hn]
 refine callX_of hSt ?_
 simp only [go_sem]
 refine shiftX_of (VS.adopt (p:=.cell 4 0) (g:=true) 900 rfl hne hrow (by decide) rfl) ?_
 rintro _ ⟨cap,j,hcap,rfl⟩
 rw [hst]
 simp only [hrl] at hcap ⊢
 simp only [mkE_strip]
 rw [set_cell (cs:=[.sl .gone 2 RT,.sl .none 3 A2,.sl .none 3 A3,.sl .none 5 A4,.sl .none 3 [A5],.sl .none 3 [],.sl .none 4 []]) (by simp only [go_sem])]
 simp only [mkE_putc]
 generalize hrest:List.replicate j AV.dead=rest
 simp only [go_sem,List.set_cons_succ,List.set_cons_zero]
 refine aw_loop (fun m E=>∃ i:Nat,i+m=n+1∧E=mkE [(0,.sl .none 1 (l.map iI)),(3,.lit (.bool true)),(4,.lp 4 0),(5,.lit (.int .i64 (lastB f i:Nat))),(6,.lit (.int .i64 (i:Nat)))] [(4,[.ml 900 0 (n+1) cap true 2,.sl .none 3 A2,.sl .none 3 A3,.sl .none 5 A4,.sl .none 3 [A5],.sl .none 3 [],.sl .none 4 []]),(900,rksC f (n+1) i++rest)]) (n+1) ?_ ?_
 ·exact ⟨0,by omega,rfl⟩
 ·rintro m _ ⟨i,him,rfl⟩
  by_cases hi:i<n+1
  ·have f1:((i:Int)<((n+1:Nat):Int))=True:=eq_true (by omega)
   have w1:=wrap_succ i (by omega)
   obtain ⟨x,hx⟩:∃ x,l[i]?=some x:=⟨l[i]'(by omega),List.getElem?_eq_getElem (by omega)⟩
   have hfi:x % 3=f i:=by rw [hfd,hx];rfl
   have hNum:=C_Number x 3 (by decide) (by decide)
   rw [hfi] at hNum
   have hrI:=fun x=>avRow_some 1 .none (AV.lit x) rfl
   have hlb:=lastB_le f i
   have hput:=rksC_put f hi rest
   have hlen:∀ k,(rksC f (n+1) k++rest).length=2 * (n+1)+rest.length:=fun k=>by rw [List.length_append,rksC_len]
   have hln:i * 2+1+1≤2 * (n+1)+rest.length:=by omega
   have get:∀ b,b<i+1→aval.ld false 1 ((rksC f (n+1) (i+1)++rest).drop (b * 2+1))=some (.lit (.int .i64 (f b))):=fun b hb=>by
    rw [ld_drop,List.getElem?_append_left (by rw [rksC_len];omega),(rksC_get f (i+1) (n+1) b (by omega)).2,if_pos hb]
   have g1:=get i (by omega)
   have g2:=get (lastB f i) (by omega)
   have hi2:((lastB f i:Int)<((n+1:Nat):Int))=True:=eq_true (by omega)
   have hs:lastB f (i+1)=if f (lastB f i)≤f i then i else lastB f i:=rfl
   generalize lastB f i=q at *
   simp only [go_sem,List.length_map,hn,f1,decide_true,Int.natCast_nonneg,Int.toNat_natCast,List.getElem?_map,hx,Option.map_some,hrI,iI]
   refine callX_of hNum ?_
   by_cases hge:f q≤f i
   ·have c1:(f i ≥ f q)=True:=eq_true hge
    have c2:(f q≤f i)=True:=eq_true hge
    rw [if_pos hge] at hs
    simp only [go_sem,f1,hi2,Int.natCast_nonneg,Int.toNat_natCast,Nat.zero_add,hlen,hln,hput,g1,g2,c1,c2,decide_true,w1]
    exact ⟨m - 1,by omega,i+1,by omega,by rw [hs]⟩
   ·have c1:(f i ≥ f q)=False:=eq_false hge
    have c2:(f q≤f i)=False:=eq_false hge
    rw [if_neg hge] at hs
    simp only [go_sem,f1,hi2,Int.natCast_nonneg,Int.toNat_natCast,Nat.zero_add,hlen,hln,hput,g1,g2,c1,c2,decide_true,decide_false,w1]
    exact ⟨m - 1,by omega,i+1,by omega,by rw [hs]⟩
  ·have f1:((i:Int)<((n+1:Nat):Int))=False:=eq_false (by omega)
   have ei:i=n+1:=by omega
   subst ei
   have w1:=wrap_succ (lastB f (n+1)) (by omega)
   have w2:=wrap_succ (n+1) (by omega)
   have hch:chunk true 2 (n+1) ((rksC f (n+1) (n+1)++rest).take ((n+1) * 2))=(rankW (n+1) f).rts.map avRouter:=by
    rw [List.take_append_of_le_length (by rw [rksC_len];omega),List.take_of_length_le (by rw [rksC_len];omega),← rank_rows]
    have:=chunk_rk f (n+1) [] (List.range (n+1))
    rw [List.append_nil,List.length_range] at this
    exact this
   have hcl:mapO closeV (((rksC f (n+1) (n+1)++rest).drop 0).take ((n+1) * 2))=some ((rksC f (n+1) (n+1)++rest).take ((n+1) * 2)):=by
    rw [List.drop_zero]
    refine mapO_id fun y hy=>?_
    rw [List.take_append_of_le_length (by rw [rksC_len];omega)] at hy
    obtain ⟨z,_,hz⟩:=List.mem_flatMap.1 (List.mem_of_mem_take hy)
    simp only [rkC,List.mem_cons,List.not_mem_nil,or_false] at hz
    rcases hz with rfl | rfl<;>rfl
   generalize (rankW (n+1) f).rts.map avRouter=RR at *
   generalize hQ:lastB f (n+1)=q at *
   simp only [go_sem,List.length_map,hn,f1,decide_false]
   refine shiftX_of (VS.freezeM (p:=.cell 4 0) rfl (by decide) rfl ⟨by rw [List.length_append,rksC_len];omega,hcap,.inl rfl⟩ hcl (fun i e=>by injection e with e;omega)) ?_
   rintro _ rfl
   rw [hch,mkE_forget]
   simp only [go_sem]
   rw [set_cell (cs:=[.dead,.sl .none 3 A2,.sl .none 3 A3,.sl .none 5 A4,.sl .none 3 [A5],.sl .none 3 [],.sl .none 4 []]) (by simp only [go_sem])]
   simp only [go_sem,List.set_cons_succ,List.set_cons_zero]
   refine callX_of hN ?_
   simp only [go_sem]
   refine callX_of hS1 ?_
   simp only [go_sem,w1]
   refine callX_of hS2 ?_
   simp only [go_sem,List.length_map,hn,w2]
   refine callX_of hS3 ?_
   have hr3:=fun cs=>avRow_some 3 .none (AV.agg cs) rfl
   simp only [avPort,portL] at q1 q2
   simp only [go_sem,Int.natCast_nonneg,Int.toNat_natCast,q1,q2,hr3,BEq.rfl]
end Go.Proofs.YtjceingdmfogeaaDoor.VL
end

