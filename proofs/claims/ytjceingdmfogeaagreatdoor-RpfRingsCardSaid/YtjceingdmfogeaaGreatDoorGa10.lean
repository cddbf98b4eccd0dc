import Derived.RangeFuncBox
import Derived.RangeFuncLeaves
import Derived.Shelf.Abstract
import Derived.WalkKit
import Derived.OwnWalkIn
import Derived.TacticsInMore
import Derived.LoopNIn
import Derived.LoopIn
import Derived.Maps.AppendAt
import Derived.Test.YtjceingdmfogeaaGreatDoorProg
import Derived.Sort.AssemblyPlain
import Derived.Sort.LotD1
import Derived.Sort.LotD5
import Derived.Laws.Bits64
import Derived.Laws.Bits64b
import Derived.Test.YtjceingdmfogeaaGreatDoorGa9
set_option linter.unusedVariables false
set_option linter.unusedSimpArgs false
section
set_option maxHeartbeats 4000000
namespace Go.Proofs.YtjceingdmfogeaaGreatDoor.VL
open Go.RowKit Go.Proofs
theorem nat_beqb (n m : Nat) : ((n : Int) == (m : Int)) = (n == m):= by
 rw [Bool.eq_iff_iff]
 simp only [beq_iff_eq]
 omega
def p_router_1 (x : NRt) (y : NRt) : Bool:= y.nm.toList == x.nm.toList
theorem C_router_1 (x : NRt) (y : NRt) : AC Tryz.prog f_q63 [avRouter y,.bp [avStr x.nm,.lit (.int .i64 x.rank)]] (.lit (.bool (p_router_1 x y))):= by
 refine ac_q63 ?_ (Nat.le_add_left 2 _)
 unfold p_router_1
 simp only [go_sem,c_q63,avRouter,avStr,avU,nat_beqb]
theorem C_has_router_1 (x : NRt) (t : Tok) (e : Nat) (l : List NRt) (ht : lowTok t = t) (hf : frB t = false) (he : e = 2 ∨ l = []) (hl : l.length < 9223372036854775808) :
  AC Tryz.prog f_q62 [.sl t e (l.map avRouter),.clo (.func f_q63) [] [.bp [avStr x.nm,.lit (.int .i64 x.rank)]]] (.lit (.bool (l.any (p_router_1 x)))):= by
 refine ac_q62 ?_ (Nat.le_add_left 2 _)
 simp only [go_sem,c_q62,avStr,avU,ht]
 refine callX_of (C_IndexFuncRouter (asf:= fun y => [avRouter y,.bp [avStr x.nm,.lit (.int .i64 x.rank)]]) (p:= p_router_1 x) t e l hf he hl (fun y => ?_) (fun y hy => C_router_1 x y)) ?_
 ·simp only [go_sem,avRouter,avStr,avU,lower]
 ·simp only [go_sem,any_idx]
def p_link_1 (x : NLk) (y : NLk) : Bool:= y.nm.toList == x.nm.toList
theorem C_link_1 (x : NLk) (y : NLk) : AC Tryz.prog f_q66 [avLink y,.bp [avStr x.nm,avU x.a,.lit (.int .i64 x.b)]] (.lit (.bool (p_link_1 x y))):= by
 refine ac_q66 ?_ (Nat.le_add_left 2 _)
 unfold p_link_1
 simp only [go_sem,c_q66,avLink,avStr,avU,nat_beqb]
theorem C_has_link_1 (x : NLk) (t : Tok) (e : Nat) (l : List NLk) (ht : lowTok t = t) (hf : frB t = false) (he : e = 3 ∨ l = []) (hl : l.length < 9223372036854775808) :
  AC Tryz.prog f_q65 [.sl t e (l.map avLink),.clo (.func f_q66) [] [.bp [avStr x.nm,avU x.a,.lit (.int .i64 x.b)]]] (.lit (.bool (l.any (p_link_1 x)))):= by
 refine ac_q65 ?_ (Nat.le_add_left 2 _)
 simp only [go_sem,c_q65,avStr,avU,ht]
 refine callX_of (C_IndexFuncLink (asf:= fun y => [avLink y,.bp [avStr x.nm,avU x.a,.lit (.int .i64 x.b)]]) (p:= p_link_1 x) t e l hf he hl (fun y => ?_) (fun y hy => C_link_1 x y)) ?_
 ·simp only [go_sem,avLink,avStr,avU,lower]
 ·simp only [go_sem,any_idx]
def p_port_1 (x : NPt) (y : NPt) : Bool:= y.a == x.a || (y.rt == x.rt && y.lk == x.lk)
theorem C_port_1 (x : NPt) (y : NPt) : AC Tryz.prog f_q72 [avPort y,.bp [.lit (.int .i64 x.rt),.lit (.int .i64 x.lk),avU x.a]] (.lit (.bool (p_port_1 x y))):= by
 refine ac_q72 ?_ (Nat.le_add_left 2 _)
 unfold p_port_1
 cases e0 : (y.a == x.a) <;> cases e1 : (y.rt == x.rt) <;> simp only [go_sem,c_q72,avPort,avStr,avU,nat_beqb,e0,e1,Bool.true_and,Bool.false_and,Bool.true_or,Bool.false_or,Bool.or_true,Bool.or_false,bne]
theorem C_has_port_1 (x : NPt) (t : Tok) (e : Nat) (l : List NPt) (ht : lowTok t = t) (hf : frB t = false) (he : e = 3 ∨ l = []) (hl : l.length < 9223372036854775808) :
  AC Tryz.prog f_q71 [.sl t e (l.map avPort),.clo (.func f_q72) [] [.bp [.lit (.int .i64 x.rt),.lit (.int .i64 x.lk),avU x.a]]] (.lit (.bool (l.any (p_port_1 x)))):= by
 refine ac_q71 ?_ (Nat.le_add_left 2 _)
 simp only [go_sem,c_q71,avStr,avU,ht]
 refine callX_of (C_IndexFuncPort (asf:= fun y => [avPort y,.bp [.lit (.int .i64 x.rt),.lit (.int .i64 x.lk),avU x.a]]) (p:= p_port_1 x) t e l hf he hl (fun y => ?_) (fun y hy => C_port_1 x y)) ?_
 ·simp only [go_sem,avPort,avStr,avU,lower]
 ·simp only [go_sem,any_idx]
def p_ranges_1 (x : NRg) (y : NRg) : Bool:= y.a == x.a && y.b == x.b
theorem C_ranges_1 (x : NRg) (y : NRg) : AC Tryz.prog f_q75 [avRange y,.bp [avU x.a,.lit (.int .i64 x.b),avU x.root]] (.lit (.bool (p_ranges_1 x y))):= by
 refine ac_q75 ?_ (Nat.le_add_left 2 _)
 unfold p_ranges_1
 cases e0 : (y.a == x.a) <;> simp only [go_sem,c_q75,avRange,avStr,avU,nat_beqb,e0,Bool.true_and,Bool.false_and,Bool.true_or,Bool.false_or,Bool.or_true,Bool.or_false,bne]
theorem C_has_ranges_1 (x : NRg) (t : Tok) (e : Nat) (l : List NRg) (ht : lowTok t = t) (hf : frB t = false) (he : e = 3 ∨ l = []) (hl : l.length < 9223372036854775808) :
  AC Tryz.prog f_q74 [.sl t e (l.map avRange),.clo (.func f_q75) [] [.bp [avU x.a,.lit (.int .i64 x.b),avU x.root]]] (.lit (.bool (l.any (p_ranges_1 x)))):= by
 refine ac_q74 ?_ (Nat.le_add_left 2 _)
 simp only [go_sem,c_q74,avStr,avU,ht]
 refine callX_of (C_IndexFuncRange (asf:= fun y => [avRange y,.bp [avU x.a,.lit (.int .i64 x.b),avU x.root]]) (p:= p_ranges_1 x) t e l hf he hl (fun y => ?_) (fun y hy => C_ranges_1 x y)) ?_
 ·simp only [go_sem,avRange,avStr,avU,lower]
 ·simp only [go_sem,any_idx]
def p_source_1 (x : NSc) (y : NSc) : Bool:= (y.s == x.s && y.g == x.g) || (y.s == x.s && y.lk != x.lk)
theorem C_source_1 (x : NSc) (y : NSc) : AC Tryz.prog f_q78 [avSource y,.bp [.lit (.int .i64 x.lk),avU x.s,avU x.g]] (.lit (.bool (p_source_1 x y))):= by
 refine ac_q78 ?_ (Nat.le_add_left 2 _)
 unfold p_source_1
 cases e0 : (y.s == x.s) <;> cases e1 : (y.g == x.g) <;> simp only [go_sem,c_q78,avSource,avStr,avU,nat_beqb,e0,e1,Bool.true_and,Bool.false_and,Bool.true_or,Bool.false_or,Bool.or_true,Bool.or_false,bne]
theorem C_has_source_1 (x : NSc) (t : Tok) (e : Nat) (l : List NSc) (ht : lowTok t = t) (hf : frB t = false) (he : e = 3 ∨ l = []) (hl : l.length < 9223372036854775808) :
  AC Tryz.prog f_q77 [.sl t e (l.map avSource),.clo (.func f_q78) [] [.bp [.lit (.int .i64 x.lk),avU x.s,avU x.g]]] (.lit (.bool (l.any (p_source_1 x)))):= by
 refine ac_q77 ?_ (Nat.le_add_left 2 _)
 simp only [go_sem,c_q77,avStr,avU,ht]
 refine callX_of (C_IndexFuncSource (asf:= fun y => [avSource y,.bp [.lit (.int .i64 x.lk),avU x.s,avU x.g]]) (p:= p_source_1 x) t e l hf he hl (fun y => ?_) (fun y hy => C_source_1 x y)) ?_
 ·simp only [go_sem,avSource,avStr,avU,lower]
 ·simp only [go_sem,any_idx]
def p_source_2 (x : NSc) (y : NPt) : Bool:= y.a == x.s
theorem C_source_2 (x : NSc) (y : NPt) : AC Tryz.prog f_q79 [avPort y,.bp [.lit (.int .i64 x.lk),avU x.s,avU x.g]] (.lit (.bool (p_source_2 x y))):= by
 refine ac_q79 ?_ (Nat.le_add_left 2 _)
 unfold p_source_2
 simp only [go_sem,c_q79,avPort,avStr,avU,nat_beqb]
theorem C_has_source_2 (x : NSc) (t : Tok) (e : Nat) (l : List NPt) (ht : lowTok t = t) (hf : frB t = false) (he : e = 3 ∨ l = []) (hl : l.length < 9223372036854775808) :
  AC Tryz.prog f_q71 [.sl t e (l.map avPort),.clo (.func f_q79) [] [.bp [.lit (.int .i64 x.lk),avU x.s,avU x.g]]] (.lit (.bool (l.any (p_source_2 x)))):= by
 refine ac_q71 ?_ (Nat.le_add_left 2 _)
 simp only [go_sem,c_q71,avStr,avU,ht]
 refine callX_of (C_IndexFuncPort (asf:= fun y => [avPort y,.bp [.lit (.int .i64 x.lk),avU x.s,avU x.g]]) (p:= p_source_2 x) t e l hf he hl (fun y => ?_) (fun y hy => C_source_2 x y)) ?_
 ·simp only [go_sem,avPort,avStr,avU,lower]
 ·simp only [go_sem,any_idx]
end Go.Proofs.YtjceingdmfogeaaGreatDoor.VL
end

section
set_option maxHeartbeats 4000000
namespace Go.Proofs.YtjceingdmfogeaaGreatDoor.VL
open Go.RowKit Go.Proofs
structure NMb where
 lk : Int
 g : Nat
 only : Bool
 src : Option (List Nat)
def avMember (x : NMb) : AV:= .agg [.lit (.int .i64 x.lk),avU x.g,.lit (.bool x.only),rowV 1 avU x.src]
structure Net where
 rts : Option (List NRt)
 lks : Option (List NLk)
 pts : Option (List NPt)
 ros : Option (List NRo)
 rgs : Option (List NRg)
 scs : Option (List NSc)
 mbs : Option (List NMb)
def netL (c : Net) : List AV:= [rowV 2 avRouter c.rts,rowV 3 avLink c.lks,rowV 3 avPort c.pts,rowV 5 avRoute c.ros,rowV 3 avRange c.rgs,rowV 3 avSource c.scs,rowV 4 avMember c.mbs]
def amiss : Option Nat → AV
 | none => .lit .nilIface
 | some g => .gl g
def rtOf (l : List NRt) (i : Nat) (x : NRt) : Option Nat :=
 if nameOK x.nm.data.toList = false then some 6 else if (l.take i).any (p_router_1 x) = true then some 1 else if costN x.rank = false then some 2 else none
theorem headSl {α : Type} (f : α → AV) (n : Nat) (l : List α) (i : Nat) (h : i ≤ l.length) : avSl n .none n (l.map f) (some ((0 : Nat) : Int)) (some (i : Int)) = some (.sl .none n ((l.take i).map f)):= by
 rw [avSl_some n .none (l.map f) _ _ rfl ⟨by omega,by omega,by rw [List.length_map]; omega⟩]
 rw [List.map_take]
 simp [aval.cutTok]
theorem rowAgg (n : Nat) (cs : List AV) : avRow n n .none (some (.agg cs)) = if (AV.agg cs).row = true then some (rowP .none (.agg cs)) else none:= avRow_some n .none (.agg cs) rfl
theorem C_router (c : Net) (l : List NRt) (hc : c.rts = some l) (i : Nat) (x : NRt) (hx : l[i]? = some x) (hl : l.length < 9223372036854775808) (hn : x.nm.size < 9223372036854775808) :
  AC Tryz.prog f_q35 [.agg (netL c),.lit (.int .i64 (i : Nat))] (amiss (rtOf l i x)):= by
 have hi : i < l.length:= (List.getElem?_eq_some_iff.1 hx).1
 refine ac_q35 ?_ (Nat.le_add_left 2 _) (by unfold rtOf; split <;> (try split) <;> (try split) <;> rfl)
 obtain ⟨t2,e2,r2,lt2,gt2,ft2,_⟩:= rowV_cases 3 avLink c.lks
 obtain ⟨t3,e3,r3,lt3,gt3,ft3,_⟩:= rowV_cases 3 avPort c.pts
 obtain ⟨t4,e4,r4,lt4,gt4,ft4,_⟩:= rowV_cases 5 avRoute c.ros
 obtain ⟨t5,e5,r5,lt5,gt5,ft5,_⟩:= rowV_cases 3 avRange c.rgs
 obtain ⟨t6,e6,r6,lt6,gt6,ft6,_⟩:= rowV_cases 3 avSource c.scs
 obtain ⟨t7,e7,r7,lt7,gt7,ft7,_⟩:= rowV_cases 4 avMember c.mbs
 have r1 : rowV 2 avRouter (some l) = .sl .none 2 (l.map avRouter):= rfl
 simp only [go_sem,c_q35,netL,hc,r1,r2,r3,r4,r5,r6,r7,lt2,lt3,lt4,lt5,lt6,lt7,gt2,gt3,gt4,gt5,gt6,gt7,Int.toNat_natCast,Int.natCast_nonneg,List.getElem?_map,hx,rowAgg,avRouter,avStr]
 refine callX_of (C_Name x.nm hn) ?_
 cases h1 : nameOK x.nm.data.toList
 ·simp only [go_sem,errN,h1,gs1,rtOf,amiss,Bool.false_eq_true,if_true]
 have sl1:= headSl avRouter 2 l i (by omega)
 simp only [go_sem,errN,h1,Int.toNat_natCast,Int.natCast_nonneg,sl1]
 have hC:= C_has_router_1 x .none 2 (l.take i) rfl rfl (.inl rfl) (by rw [List.length_take]; omega)
 simp only [avStr] at hC
 refine callX_of hC ?_
 have g2 : (1 ∈ GS) = True:= eq_true (by simp [GS])
 have g3 : (2 ∈ GS) = True:= eq_true (by simp [GS])
 cases h2 : (l.take i).any (p_router_1 x)
 ·simp only [go_sem,h2]
  refine callX_of (C_cost x.rank) ?_
  cases h3 : costN x.rank
  ·simp only [go_sem,h3,g3,rtOf,h1,h2,amiss,Bool.not_false,Bool.true_eq_false,Bool.false_eq_true]
  ·simp only [go_sem,h3,rtOf,h1,h2,amiss,Bool.not_true,Bool.true_eq_false,Bool.false_eq_true]
 ·simp only [go_sem,h2,g2,rtOf,h1,amiss,Bool.true_eq_false,Bool.false_eq_true]
end Go.Proofs.YtjceingdmfogeaaGreatDoor.VL
end

section
set_option maxHeartbeats 4000000
namespace Go.Proofs.YtjceingdmfogeaaGreatDoor.VL
open Go.RowKit Go.Proofs
theorem g_twice : (1 ∈ GS) = True:= eq_true (by simp [GS])
theorem g_range : (2 ∈ GS) = True:= eq_true (by simp [GS])
theorem g_kind : (3 ∈ GS) = True:= eq_true (by simp [GS])
def lkOf (l : List NLk) (i : Nat) (x : NLk) : Option Nat :=
 if nameOK x.nm.data.toList = false then some 6 else if (l.take i).any (p_link_1 x) = true then some 1 else if validN x.a x.b = false then some 2
 else if (withinN x.a x.b 3758096384 4 || withinN 3758096384 4 x.a x.b) = true then some 3 else none
theorem C_link (c : Net) (l : List NLk) (hc : c.lks = some l) (i : Nat) (x : NLk) (hx : l[i]? = some x) (hl : l.length < 9223372036854775808) (hn : x.nm.size < 9223372036854775808) (ha : x.a < 4294967296) :
  AC Tryz.prog f_q36 [.agg (netL c),.lit (.int .i64 (i : Nat))] (amiss (lkOf l i x)):= by
 have hi : i < l.length:= (List.getElem?_eq_some_iff.1 hx).1
 refine ac_q36 ?_ (Nat.le_add_left 2 _) (by unfold lkOf; split <;> (try split) <;> (try split) <;> (try split) <;> rfl)
 obtain ⟨t2,e2,r2,lt2,gt2,ft2,_⟩:= rowV_cases 2 avRouter c.rts
 obtain ⟨t3,e3,r3,lt3,gt3,ft3,_⟩:= rowV_cases 3 avPort c.pts
 obtain ⟨t4,e4,r4,lt4,gt4,ft4,_⟩:= rowV_cases 5 avRoute c.ros
 obtain ⟨t5,e5,r5,lt5,gt5,ft5,_⟩:= rowV_cases 3 avRange c.rgs
 obtain ⟨t6,e6,r6,lt6,gt6,ft6,_⟩:= rowV_cases 3 avSource c.scs
 obtain ⟨t7,e7,r7,lt7,gt7,ft7,_⟩:= rowV_cases 4 avMember c.mbs
 have r1 : rowV 3 avLink (some l) = .sl .none 3 (l.map avLink):= rfl
 simp only [go_sem,c_q36,netL,hc,r1,r2,r3,r4,r5,r6,r7,lt2,lt3,lt4,lt5,lt6,lt7,gt2,gt3,gt4,gt5,gt6,gt7,Int.toNat_natCast,Int.natCast_nonneg,List.getElem?_map,hx,rowAgg,avLink,avStr,avU]
 refine callX_of (C_Name x.nm hn) ?_
 cases h1 : nameOK x.nm.data.toList
 ·simp only [go_sem,errN,h1,gs1,lkOf,amiss,Bool.false_eq_true,if_true]
 have sl1:= headSl avLink 3 l i (by omega)
 simp only [go_sem,errN,h1,Int.toNat_natCast,Int.natCast_nonneg,sl1]
 have hC:= C_has_link_1 x .none 3 (l.take i) rfl rfl (.inl rfl) (by rw [List.length_take]; omega)
 simp only [avStr,avU] at hC
 refine callX_of hC ?_
 cases h2 : (l.take i).any (p_link_1 x)
 ·simp only [go_sem,h2]
  refine callX_of (C_Valid x.a x.b ha) ?_
  cases h3 : validN x.a x.b
  ·simp only [go_sem,h3,g_range,lkOf,h1,h2,amiss,Bool.not_false,Bool.true_eq_false,Bool.false_eq_true]
  simp only [go_sem,h3,Bool.not_true]
  refine callX_of C_groups ?_
  simp only [go_sem,avPfx,avU]
  refine callX_of (C_Within x.a x.b 3758096384 4 ha (by decide)) ?_
  cases h4 : withinN x.a x.b 3758096384 4
  ·simp only [go_sem,h4]
   refine callX_of C_groups ?_
   simp only [go_sem,avPfx,avU]
   refine callX_of (C_Within 3758096384 4 x.a x.b (by decide) ha) ?_
   cases h5 : withinN 3758096384 4 x.a x.b
   ·simp only [go_sem,h5,lkOf,h1,h2,h3,h4,amiss,Bool.or_false,Bool.true_eq_false,Bool.false_eq_true]
   ·simp only [go_sem,h5,g_kind,lkOf,h1,h2,h3,h4,amiss,Bool.false_or,Bool.true_eq_false,Bool.false_eq_true]
  ·simp only [go_sem,h4,g_kind,lkOf,h1,h2,h3,amiss,Bool.true_or,Bool.true_eq_false,Bool.false_eq_true]
 ·simp only [go_sem,h2,g_twice,lkOf,h1,amiss,Bool.true_eq_false,Bool.false_eq_true]
end Go.Proofs.YtjceingdmfogeaaGreatDoor.VL
end

section
set_option maxHeartbeats 4000000
namespace Go.Proofs.YtjceingdmfogeaaGreatDoor.VL
open Go.RowKit Go.Proofs
def onN (y : NLk) (a : Nat) : Bool:= !(a == 0) && inN y.a y.b a
theorem C_on (c : Net) (l : List NLk) (hc : c.lks = some l) (k : Nat) (y : NLk) (hy : l[k]? = some y) (a : Nat) (ha : a < 4294967296) (hp : y.a < 4294967296) :
  AC Tryz.prog f_q70 [.agg (netL c),.lit (.int .i64 (k : Nat)),avU a] (.lit (.bool (onN y a))):= by
 refine ac_q70 ?_ (Nat.le_add_left 3 _)
 obtain ⟨t2,e2,r2,lt2,gt2,ft2,_⟩:= rowV_cases 2 avRouter c.rts
 obtain ⟨t3,e3,r3,lt3,gt3,ft3,_⟩:= rowV_cases 3 avPort c.pts
 obtain ⟨t4,e4,r4,lt4,gt4,ft4,_⟩:= rowV_cases 5 avRoute c.ros
 obtain ⟨t5,e5,r5,lt5,gt5,ft5,_⟩:= rowV_cases 3 avRange c.rgs
 obtain ⟨t6,e6,r6,lt6,gt6,ft6,_⟩:= rowV_cases 3 avSource c.scs
 obtain ⟨t7,e7,r7,lt7,gt7,ft7,_⟩:= rowV_cases 4 avMember c.mbs
 have r1 : rowV 3 avLink (some l) = .sl .none 3 (l.map avLink):= rfl
 have e : ((a : Int) != 0) = !(a == 0):= by rw [bne,nat_beq0]; rfl
 have hI:= C_In y.a y.b a hp ha
 simp only [avPfx,avU] at hI
 unfold onN
 cases h : a == 0
 ·simp only [go_sem,c_q70,netL,hc,r1,r2,r3,r4,r5,r6,r7,lt2,lt3,lt4,lt5,lt6,lt7,gt2,gt3,gt4,gt5,gt6,gt7,avU,e,h,Bool.not_false,Bool.true_and,Int.toNat_natCast,Int.natCast_nonneg,List.getElem?_map,hy,rowAgg,avLink,avStr]
  refine callX_of hI ?_
  simp only [go_sem,h,Bool.not_false]
 ·simp only [go_sem,c_q70,netL,hc,r1,r2,r3,r4,r5,r6,r7,lt2,lt3,lt4,lt5,lt6,lt7,gt2,gt3,gt4,gt5,gt6,gt7,avU,e,h,Bool.not_true,Bool.false_and]
end Go.Proofs.YtjceingdmfogeaaGreatDoor.VL
end

section
set_option maxHeartbeats 4000000
namespace Go.Proofs.YtjceingdmfogeaaGreatDoor.VL
open Go.RowKit Go.Proofs
theorem g_none : (4 ∈ GS) = True:= eq_true (by simp [GS])
theorem g_away : (5 ∈ GS) = True:= eq_true (by simp [GS])
def roOf (c : Net) (x : NRo) : Option Nat :=
 if placeN x.rt (c.rts.getD []).length = false then some 4 else if (validN x.a x.b && costN x.cost) = false then some 2
 else if hostN x.via = false then some 3 else none
theorem C_route (c : Net) (l : List NRo) (hc : c.ros = some l) (i : Nat) (x : NRo) (hx : l[i]? = some x) (hl : l.length < 9223372036854775808) (ha : x.a < 4294967296) (hv : x.via < 4294967296) :
  AC Tryz.prog f_q38 [.agg (netL c),.lit (.int .i64 (i : Nat))] (amiss (roOf c x)):= by
 refine ac_q38 ?_ (Nat.le_add_left 2 _) (by unfold roOf; split <;> (try split) <;> (try split) <;> rfl)
 obtain ⟨t1,e1,r1,lt1,gt1,ft1,_⟩:= rowV_cases 2 avRouter c.rts
 obtain ⟨t2,e2,r2,lt2,gt2,ft2,_⟩:= rowV_cases 3 avLink c.lks
 obtain ⟨t3,e3,r3,lt3,gt3,ft3,_⟩:= rowV_cases 3 avPort c.pts
 obtain ⟨t5,e5,r5,lt5,gt5,ft5,_⟩:= rowV_cases 3 avRange c.rgs
 obtain ⟨t6,e6,r6,lt6,gt6,ft6,_⟩:= rowV_cases 3 avSource c.scs
 obtain ⟨t7,e7,r7,lt7,gt7,ft7,_⟩:= rowV_cases 4 avMember c.mbs
 have r4 : rowV 5 avRoute (some l) = .sl .none 5 (l.map avRoute):= rfl
 simp only [go_sem,c_q38,netL,hc,r1,r2,r3,r4,r5,r6,r7,lt1,lt2,lt3,lt5,lt6,lt7,gt1,gt2,gt3,gt5,gt6,gt7,Int.toNat_natCast,Int.natCast_nonneg,List.getElem?_map,hx,rowAgg,avRoute,avU,List.length_map]
 refine callX_of (C_place x.rt (c.rts.getD []).length) ?_
 cases h1 : placeN x.rt (c.rts.getD []).length
 ·simp only [go_sem,h1,g_none,roOf,amiss,Bool.not_false]
 simp only [go_sem,h1,Bool.not_true]
 have hV:= C_Valid x.a x.b ha
 simp only [avPfx,avU] at hV
 refine callX_of hV ?_
 cases h2 : validN x.a x.b
 ·simp only [go_sem,h2,g_range,roOf,h1,amiss,Bool.not_false,Bool.false_and,Bool.true_eq_false]
 simp only [go_sem,h2,Bool.not_true]
 refine callX_of (C_cost x.cost) ?_
 cases h3 : costN x.cost
 ·simp only [go_sem,h3,h2,g_range,roOf,h1,amiss,Bool.not_false,Bool.not_true,Bool.and_false,Bool.true_eq_false]
 simp only [go_sem,h3,Bool.not_true]
 refine callX_of (C_host x.via hv) ?_
 cases h4 : hostN x.via
 ·simp only [go_sem,h4,h3,h2,g_kind,roOf,h1,amiss,Bool.not_false,Bool.and_self,Bool.true_eq_false]
 ·simp only [go_sem,h4,h3,h2,roOf,h1,amiss,Bool.not_true,Bool.and_self,Bool.true_eq_false]
end Go.Proofs.YtjceingdmfogeaaGreatDoor.VL
end

section
set_option maxHeartbeats 4000000
namespace Go.Proofs.YtjceingdmfogeaaGreatDoor.VL
open Go.RowKit Go.Proofs
def rgOf (l : List NRg) (i : Nat) (x : NRg) : Option Nat :=
 if validN x.a x.b = false then some 2 else if (withinN x.a x.b 3758096384 4 && hostN x.root) = false then some 3
 else if (l.take i).any (p_ranges_1 x) = true then some 1 else none
theorem C_ranges (c : Net) (l : List NRg) (hc : c.rgs = some l) (i : Nat) (x : NRg) (hx : l[i]? = some x) (hl : l.length < 9223372036854775808) (ha : x.a < 4294967296) (hv : x.root < 4294967296) :
  AC Tryz.prog f_q39 [.agg (netL c),.lit (.int .i64 (i : Nat))] (amiss (rgOf l i x)):= by
 have hi : i < l.length:= (List.getElem?_eq_some_iff.1 hx).1
 refine ac_q39 ?_ (Nat.le_add_left 2 _) (by unfold rgOf; split <;> (try split) <;> (try split) <;> rfl)
 obtain ⟨t1,e1,r1,lt1,gt1,ft1,_⟩:= rowV_cases 2 avRouter c.rts
 obtain ⟨t2,e2,r2,lt2,gt2,ft2,_⟩:= rowV_cases 3 avLink c.lks
 obtain ⟨t3,e3,r3,lt3,gt3,ft3,_⟩:= rowV_cases 3 avPort c.pts
 obtain ⟨t4,e4,r4,lt4,gt4,ft4,_⟩:= rowV_cases 5 avRoute c.ros
 obtain ⟨t6,e6,r6,lt6,gt6,ft6,_⟩:= rowV_cases 3 avSource c.scs
 obtain ⟨t7,e7,r7,lt7,gt7,ft7,_⟩:= rowV_cases 4 avMember c.mbs
 have r5 : rowV 3 avRange (some l) = .sl .none 3 (l.map avRange):= rfl
 have hV:= C_Valid x.a x.b ha
 have hW:= C_Within x.a x.b 3758096384 4 ha (by decide)
 have hC:= C_has_ranges_1 x .none 3 (l.take i) rfl rfl (.inl rfl) (by rw [List.length_take]; omega)
 have sl1:= headSl avRange 3 l i (by omega)
 have hG:= C_groups
 simp only [avPfx,avU] at hV hW hC hG
 simp only [go_sem,c_q39,netL,hc,r1,r2,r3,r4,r5,r6,r7,lt1,lt2,lt3,lt4,lt6,lt7,gt1,gt2,gt3,gt4,gt6,gt7,Int.toNat_natCast,Int.natCast_nonneg,List.getElem?_map,hx,rowAgg,avRange,avU,List.length_map]
 refine callX_of hV ?_
 cases h1 : validN x.a x.b
 ·simp only [go_sem,h1,g_range,rgOf,amiss,Bool.not_false]
 simp only [go_sem,h1,Bool.not_true]
 refine callX_of hG ?_
 simp only [go_sem]
 refine callX_of hW ?_
 cases h2 : withinN x.a x.b 3758096384 4
 ·simp only [go_sem,h2,g_kind,rgOf,h1,amiss,Bool.not_false,Bool.false_and,Bool.true_eq_false]
 simp only [go_sem,h2,Bool.not_true]
 refine callX_of (C_host x.root hv) ?_
 cases h3 : hostN x.root
 ·simp only [go_sem,h3,h2,g_kind,rgOf,h1,amiss,Bool.not_false,Bool.not_true,Bool.and_false,Bool.true_eq_false]
 simp only [go_sem,h3,Bool.not_true,Int.toNat_natCast,Int.natCast_nonneg,sl1]
 refine callX_of hC ?_
 cases h4 : (l.take i).any (p_ranges_1 x)
 ·simp only [go_sem,h4,h3,h2,rgOf,h1,amiss,Bool.not_true,Bool.and_self,Bool.true_eq_false,Bool.false_eq_true]
 ·simp only [go_sem,h4,h3,h2,g_twice,rgOf,h1,amiss,Bool.and_self,Bool.true_eq_false]
end Go.Proofs.YtjceingdmfogeaaGreatDoor.VL
end

section
set_option maxHeartbeats 4000000
namespace Go.Proofs.YtjceingdmfogeaaGreatDoor.VL
open Go.RowKit Go.Proofs
def onAt (c : Net) (k : Int) (a : Nat) : Bool:= match (c.lks.getD [])[k.toNat]? with
 | some y => onN y a
 | none => false
def ptOf (c : Net) (l : List NPt) (i : Nat) (x : NPt) : Option Nat :=
 if (placeN x.rt (c.rts.getD []).length && placeN x.lk (c.lks.getD []).length) = false then some 4 else if onAt c x.lk x.a = false then some 5
 else if (l.take i).any (p_port_1 x) = true then some 1 else none
theorem C_port (c : Net) (l : List NPt) (hc : c.pts = some l) (i : Nat) (x : NPt) (hx : l[i]? = some x) (hl : l.length < 9223372036854775808) (ha : x.a < 4294967296) (hp : ∀ y ∈ c.lks.getD [],y.a < 4294967296) :
  AC Tryz.prog f_q37 [.agg (netL c),.lit (.int .i64 (i : Nat))] (amiss (ptOf c l i x)):= by
 have hi : i < l.length:= (List.getElem?_eq_some_iff.1 hx).1
 refine ac_q37 ?_ (Nat.le_add_left 2 _) (by unfold ptOf; split <;> (try split) <;> (try split) <;> rfl)
 obtain ⟨t1,e1,r1,lt1,gt1,ft1,_⟩:= rowV_cases 2 avRouter c.rts
 obtain ⟨t2,e2,r2,lt2,gt2,ft2,_⟩:= rowV_cases 3 avLink c.lks
 obtain ⟨t4,e4,r4,lt4,gt4,ft4,_⟩:= rowV_cases 5 avRoute c.ros
 obtain ⟨t5,e5,r5,lt5,gt5,ft5,_⟩:= rowV_cases 3 avRange c.rgs
 obtain ⟨t6,e6,r6,lt6,gt6,ft6,_⟩:= rowV_cases 3 avSource c.scs
 obtain ⟨t7,e7,r7,lt7,gt7,ft7,_⟩:= rowV_cases 4 avMember c.mbs
 have r3 : rowV 3 avPort (some l) = .sl .none 3 (l.map avPort):= rfl
 have hC:= C_has_port_1 x .none 3 (l.take i) rfl rfl (.inl rfl) (by rw [List.length_take]; omega)
 have sl1:= headSl avPort 3 l i (by omega)
 simp only [avU] at hC
 simp only [go_sem,c_q37,netL,hc,r1,r2,r3,r4,r5,r6,r7,lt1,lt2,lt4,lt5,lt6,lt7,gt1,gt2,gt4,gt5,gt6,gt7,Int.toNat_natCast,Int.natCast_nonneg,List.getElem?_map,hx,rowAgg,avPort,avU,List.length_map]
 refine callX_of (C_place x.rt (c.rts.getD []).length) ?_
 cases h1 : placeN x.rt (c.rts.getD []).length
 ·simp only [go_sem,h1,g_none,ptOf,amiss,Bool.not_false,Bool.false_and]
 simp only [go_sem,h1,Bool.not_true,List.length_map]
 refine callX_of (C_place x.lk (c.lks.getD []).length) ?_
 cases h2 : placeN x.lk (c.lks.getD []).length
 ·simp only [go_sem,h2,h1,g_none,ptOf,amiss,Bool.not_false,Bool.and_false]
 obtain ⟨k,y,hk,hy⟩ : ∃ (k : Nat) (y : NLk),x.lk = (k : Int) ∧ (c.lks.getD [])[k]? = some y:= by
  simp only [placeN,Bool.and_eq_true,decide_eq_true_eq] at h2
  exact ⟨x.lk.toNat,(c.lks.getD [])[x.lk.toNat]'(by omega),by omega,List.getElem?_eq_getElem (by omega)⟩
 obtain ⟨ls,hls⟩ : ∃ ls,c.lks = some ls:= by
  cases h : c.lks with
  | none => rw [h] at hy; simp at hy
  | some ls => exact ⟨ls,rfl⟩
 have hO:= C_on c ls hls k y (by rw [hls] at hy; exact hy) x.a ha (hp y (List.mem_of_getElem? hy))
 simp only [netL,hc,r1,r2,r3,r4,r5,r6,r7,avU] at hO
 have hat : onAt c x.lk x.a = onN y x.a:= by simp only [onAt,hk,Int.toNat_natCast,hy]
 simp only [go_sem,h2,Bool.not_true,hk,lt1,lt2,lt4,lt5,lt6,lt7]
 refine callX_of hO ?_
 cases h3 : onN y x.a
 ·simp only [go_sem,h3,← hk,hat,h2,h1,g_away,ptOf,amiss,Bool.not_false,Bool.and_self,Bool.true_eq_false]
 simp only [go_sem,h3,Bool.not_true,Int.toNat_natCast,Int.natCast_nonneg,sl1,← hk]
 refine callX_of hC ?_
 cases h4 : (l.take i).any (p_port_1 x)
 ·simp only [go_sem,h4,hat,h3,h2,h1,ptOf,amiss,Bool.and_self,Bool.true_eq_false,Bool.false_eq_true]
 ·simp only [go_sem,h4,hat,h3,h2,h1,g_twice,ptOf,amiss,Bool.and_self,Bool.true_eq_false]
end Go.Proofs.YtjceingdmfogeaaGreatDoor.VL
end

section
set_option maxHeartbeats 4000000
namespace Go.Proofs.YtjceingdmfogeaaGreatDoor.VL
open Go.RowKit Go.Proofs
def scOf (c : Net) (l : List NSc) (i : Nat) (x : NSc) : Option Nat :=
 if placeN x.lk (c.lks.getD []).length = false then some 4 else if onAt c x.lk x.s = false then some 5
 else if groupN x.g = false then some 3 else if ((l.take i).any (p_source_1 x) || (c.pts.getD []).any (p_source_2 x)) = true then some 1 else none
theorem C_source (c : Net) (l : List NSc) (hc : c.scs = some l) (i : Nat) (x : NSc) (hx : l[i]? = some x) (hl : l.length < 9223372036854775808) (hlp : (c.pts.getD []).length < 9223372036854775808) (ha : x.s < 4294967296) (hg : x.g < 4294967296) (hp : ∀ y ∈ c.lks.getD [],y.a < 4294967296) :
  AC Tryz.prog f_q40 [.agg (netL c),.lit (.int .i64 (i : Nat))] (amiss (scOf c l i x)):= by
 have hi : i < l.length:= (List.getElem?_eq_some_iff.1 hx).1
 refine ac_q40 ?_ (Nat.le_add_left 2 _) (by unfold scOf; split <;> (try split) <;> (try split) <;> (try split) <;> rfl)
 obtain ⟨t1,e1,r1,lt1,gt1,ft1,_⟩:= rowV_cases 2 avRouter c.rts
 obtain ⟨t2,e2,r2,lt2,gt2,ft2,_⟩:= rowV_cases 3 avLink c.lks
 obtain ⟨t3,e3,r3,lt3,gt3,ft3,he3,_⟩:= rowV_cases 3 avPort c.pts
 obtain ⟨t4,e4,r4,lt4,gt4,ft4,_⟩:= rowV_cases 5 avRoute c.ros
 obtain ⟨t5,e5,r5,lt5,gt5,ft5,_⟩:= rowV_cases 3 avRange c.rgs
 obtain ⟨t7,e7,r7,lt7,gt7,ft7,_⟩:= rowV_cases 4 avMember c.mbs
 have r6 : rowV 3 avSource (some l) = .sl .none 3 (l.map avSource):= rfl
 have hC:= C_has_source_1 x .none 3 (l.take i) rfl rfl (.inl rfl) (by rw [List.length_take]; omega)
 have hD:= C_has_source_2 x t3 e3 (c.pts.getD []) lt3 ft3 he3 hlp
 have sl1:= headSl avSource 3 l i (by omega)
 simp only [avU] at hC hD
 simp only [go_sem,c_q40,netL,hc,r1,r2,r3,r4,r5,r6,r7,lt1,lt2,lt3,lt4,lt5,lt7,gt1,gt2,gt3,gt4,gt5,gt7,Int.toNat_natCast,Int.natCast_nonneg,List.getElem?_map,hx,rowAgg,avSource,avU,List.length_map]
 refine callX_of (C_place x.lk (c.lks.getD []).length) ?_
 cases h2 : placeN x.lk (c.lks.getD []).length
 ·simp only [go_sem,h2,g_none,scOf,amiss,Bool.not_false]
 obtain ⟨k,y,hk,hy⟩ : ∃ (k : Nat) (y : NLk),x.lk = (k : Int) ∧ (c.lks.getD [])[k]? = some y:= by
  simp only [placeN,Bool.and_eq_true,decide_eq_true_eq] at h2
  exact ⟨x.lk.toNat,(c.lks.getD [])[x.lk.toNat]'(by omega),by omega,List.getElem?_eq_getElem (by omega)⟩
 obtain ⟨ls,hls⟩ : ∃ ls,c.lks = some ls:= by
  cases h : c.lks with
  | none => rw [h] at hy; simp at hy
  | some ls => exact ⟨ls,rfl⟩
 have hO:= C_on c ls hls k y (by rw [hls] at hy; exact hy) x.s ha (hp y (List.mem_of_getElem? hy))
 simp only [netL,hc,r1,r2,r3,r4,r5,r6,r7,avU] at hO
 have hat : onAt c x.lk x.s = onN y x.s:= by simp only [onAt,hk,Int.toNat_natCast,hy]
 simp only [go_sem,h2,Bool.not_true,lt1,lt2,lt3,lt4,lt5,lt7]
 rw [← hk] at hO
 refine callX_of hO ?_
 cases h3 : onN y x.s
 ·simp only [go_sem,h3,hat,h2,g_away,scOf,amiss,Bool.not_false,Bool.true_eq_false]
 simp only [go_sem,h3,Bool.not_true]
 refine callX_of (C_Group x.g hg) ?_
 cases h4 : groupN x.g
 ·simp only [go_sem,h4,hat,h3,h2,g_kind,scOf,amiss,Bool.not_false,Bool.true_eq_false]
 simp only [go_sem,h4,Bool.not_true,Int.toNat_natCast,Int.natCast_nonneg,sl1]
 refine callX_of hC ?_
 cases h5 : (l.take i).any (p_source_1 x)
 ·simp only [go_sem,h5,lt3,gt3]
  refine callX_of hD ?_
  cases h6 : (c.pts.getD []).any (p_source_2 x)
  ·simp only [go_sem,h6,h5,h4,hat,h3,h2,scOf,amiss,Bool.or_false,Bool.true_eq_false,Bool.false_eq_true]
  ·simp only [go_sem,h6,h5,h4,hat,h3,h2,g_twice,scOf,amiss,Bool.false_or,Bool.true_eq_false]
 ·simp only [go_sem,h5,h4,hat,h3,h2,g_twice,scOf,amiss,Bool.true_or,Bool.true_eq_false]
end Go.Proofs.YtjceingdmfogeaaGreatDoor.VL
end

section
set_option maxHeartbeats 4000000
namespace Go.Proofs.YtjceingdmfogeaaGreatDoor.VL
open Go.RowKit Go.Proofs
structure NM where
 lk : Int
 g : Nat
 only : Bool
 src : List Nat
deriving DecidableEq
def avMb (x : NM) : AV:= .agg [.lit (.int .i64 x.lk),avU x.g,.lit (.bool x.only),.sl .none 1 (x.src.map avU)]
def NM.mb (x : NM) : NMb:= ⟨x.lk,x.g,x.only,some x.src⟩
structure NW where
 rts : List NRt
 lks : List NLk
 pts : List NPt
 ros : List NRo
 rgs : List NRg
 scs : List NSc
 mbs : List NM
def netV (w : NW) : List AV:= [.sl .none 2 (w.rts.map avRouter),.sl .none 3 (w.lks.map avLink),.sl .none 3 (w.pts.map avPort),.sl .none 5 (w.ros.map avRoute),.sl .none 3 (w.rgs.map avRange),.sl .none 3 (w.scs.map avSource),.sl .none 4 (w.mbs.map avMb)]
def NW.net (w : NW) : Net:= ⟨some w.rts,some w.lks,some w.pts,some w.ros,some w.rgs,some w.scs,some (w.mbs.map NM.mb)⟩
theorem netV_eq (w : NW) : netL w.net = netV w:= by
 have e : (w.mbs.map NM.mb).map avMember = w.mbs.map avMb:= by rw [List.map_map]; exact List.map_congr_left fun x _ => rfl
 simp only [netL,NW.net,rowV,netV,e]
structure NW.OK (w : NW) : Prop where
 rtn : ∀ x ∈ w.rts,x.nm.size < 9223372036854775808
 lkn : ∀ x ∈ w.lks,x.nm.size < 9223372036854775808
 lka : ∀ x ∈ w.lks,x.a < 4294967296
 pta : ∀ x ∈ w.pts,x.a < 4294967296
 roa : ∀ x ∈ w.ros,x.a < 4294967296
 rov : ∀ x ∈ w.ros,x.via < 4294967296
 rga : ∀ x ∈ w.rgs,x.a < 4294967296
 rgr : ∀ x ∈ w.rgs,x.root < 4294967296
 scs : ∀ x ∈ w.scs,x.s < 4294967296
 scg : ∀ x ∈ w.scs,x.g < 4294967296
 mbg : ∀ x ∈ w.mbs,x.g < 4294967296
 mbs : ∀ x ∈ w.mbs,∀ a ∈ x.src,a < 4294967296
 mbl : ∀ x ∈ w.mbs,x.src.length < 9223372036854775808
 l1 : w.rts.length < 9223372036854775808
 l2 : w.lks.length < 9223372036854775808
 l3 : w.pts.length < 9223372036854775808
 l4 : w.ros.length < 9223372036854775808
 l5 : w.rgs.length < 9223372036854775808
 l6 : w.scs.length < 9223372036854775808
 l7 : w.mbs.length < 9223372036854775808
def mbOf (w : NW) (x : NM) : Option Nat :=
 if placeN x.lk w.lks.length = false then some 4 else if (!groupN x.g || x.src.any fun a => !hostN a) = true then some 3
 else if decide (4 < x.src.length) = true then some 0 else if decide x.src.Nodup = false then some 1 else none
def vAt (w : NW) (k i : Nat) : Option Nat:= match k with
 | 0 => (w.rts[i]?).bind (rtOf w.rts i)
 | 1 => (w.lks[i]?).bind (lkOf w.lks i)
 | 2 => (w.pts[i]?).bind (ptOf w.net w.pts i)
 | 3 => (w.ros[i]?).bind (roOf w.net)
 | 4 => (w.rgs[i]?).bind (rgOf w.rgs i)
 | 5 => (w.scs[i]?).bind (scOf w.net w.scs i)
 | _ => (w.mbs[i]?).bind (mbOf w)
def lenN (w : NW) : Nat → Nat
 | 0 => w.rts.length
 | 1 => w.lks.length
 | 2 => w.pts.length
 | 3 => w.ros.length
 | 4 => w.rgs.length
 | 5 => w.scs.length
 | _ => w.mbs.length
def mostN : Nat → Nat
 | 0 => 16
 | 1 => 24
 | 2 => 64
 | 3 => 96
 | 4 => 8
 | 5 => 8
 | _ => 24
def scanI (most : Nat) (f : Nat → Option Nat) : Nat → Nat → Option Nat
 | 0,_ => none
 | n + 1,i => if most ≤ i then some 0 else match f i with
  | some g => some g
  | none => scanI most f n (i + 1)
def vList (w : NW) (k i : Nat) : Option Nat:= scanI (mostN k) (vAt w k) (lenN w k - i) i
def scanK (w : NW) : Nat → Nat → Option Nat
 | 0,_ => none
 | n + 1,k => match vList w k 0 with
  | some g => some g
  | none => scanK w n (k + 1)
def vNet (w : NW) : Option Nat:= scanK w 7 0
theorem vList_end (w : NW) (k i : Nat) (h : lenN w k ≤ i) : vList w k i = none:= by
 unfold vList
 rw [show lenN w k - i = 0 by omega]
 rfl
theorem vList_many (w : NW) (k i : Nat) (h : i < lenN w k) (h2 : mostN k ≤ i) : vList w k i = some 0:= by
 unfold vList
 obtain ⟨n,hn⟩ : ∃ n,lenN w k - i = n + 1:= ⟨lenN w k - i - 1,by omega⟩
 rw [hn,scanI,if_pos h2]
theorem vList_some (w : NW) (k i g : Nat) (h : i < lenN w k) (h2 : i < mostN k) (h3 : vAt w k i = some g) : vList w k i = some g:= by
 unfold vList
 obtain ⟨n,hn⟩ : ∃ n,lenN w k - i = n + 1:= ⟨lenN w k - i - 1,by omega⟩
 rw [hn,scanI,if_neg (by omega),h3]
theorem vList_none (w : NW) (k i : Nat) (h : i < lenN w k) (h2 : i < mostN k) (h3 : vAt w k i = none) : vList w k i = vList w k (i + 1):= by
 unfold vList
 obtain ⟨n,hn⟩ : ∃ n,lenN w k - i = n + 1:= ⟨lenN w k - i - 1,by omega⟩
 rw [hn,scanI,if_neg (by omega),h3,show lenN w k - (i + 1) = n by omega]
theorem vList_ok (w : NW) (k : Nat) : ∀ (n i : Nat),lenN w k - i = n → vList w k i = none → ∀ j,i ≤ j → j < lenN w k → j < mostN k ∧ vAt w k j = none
 | 0,i,hn,_,j,h1,h2 => by omega
 | n + 1,i,hn,h,j,h1,h2 => by
  by_cases hm : mostN k ≤ i
  ·rw [vList_many w k i (by omega) hm] at h; cases h
  cases hv : vAt w k i with
  | some g => rw [vList_some w k i g (by omega) (by omega) hv] at h; cases h
  | none =>
   rw [vList_none w k i (by omega) (by omega) hv] at h
   by_cases e : j = i
   ·subst e; exact ⟨by omega,hv⟩
   ·exact vList_ok w k n (i + 1) (by omega) h j (by omega) h2
theorem scanK_ok (w : NW) : ∀ (n k : Nat),scanK w n k = none → ∀ q,k ≤ q → q < k + n → vList w q 0 = none
 | 0,k,_,q,h1,h2 => by omega
 | n + 1,k,h,q,h1,h2 => by
  simp only [scanK] at h
  cases hv : vList w k 0 with
  | some g => rw [hv] at h; cases h
  | none =>
   rw [hv] at h
   by_cases e : q = k
   ·subst e; exact hv
   ·exact scanK_ok w n (k + 1) h q (by omega) (by omega)
theorem vNet_ok {w : NW} (h : vNet w = none) (k i : Nat) (hk : k < 7) (hi : i < lenN w k) : i < mostN k ∧ vAt w k i = none :=
 vList_ok w k _ 0 rfl (scanK_ok w 7 0 h k (by omega) (by omega)) i (by omega) hi
section
variable (w : NW) (h : w.OK) (i : Nat)
include h
theorem W_router (x : NRt) (hx : w.rts[i]? = some x) : AC Tryz.prog f_q35 [.agg (netV w),.lit (.int .i64 (i : Nat))] (amiss (rtOf w.rts i x)):= by
 have:= C_router w.net w.rts rfl i x hx h.l1 (h.rtn x (List.mem_of_getElem? hx))
 rwa [netV_eq] at this
theorem W_link (x : NLk) (hx : w.lks[i]? = some x) : AC Tryz.prog f_q36 [.agg (netV w),.lit (.int .i64 (i : Nat))] (amiss (lkOf w.lks i x)):= by
 have:= C_link w.net w.lks rfl i x hx h.l2 (h.lkn x (List.mem_of_getElem? hx)) (h.lka x (List.mem_of_getElem? hx))
 rwa [netV_eq] at this
theorem W_port (x : NPt) (hx : w.pts[i]? = some x) : AC Tryz.prog f_q37 [.agg (netV w),.lit (.int .i64 (i : Nat))] (amiss (ptOf w.net w.pts i x)):= by
 have:= C_port w.net w.pts rfl i x hx h.l3 (h.pta x (List.mem_of_getElem? hx)) h.lka
 rwa [netV_eq] at this
theorem W_route (x : NRo) (hx : w.ros[i]? = some x) : AC Tryz.prog f_q38 [.agg (netV w),.lit (.int .i64 (i : Nat))] (amiss (roOf w.net x)):= by
 have:= C_route w.net w.ros rfl i x hx h.l4 (h.roa x (List.mem_of_getElem? hx)) (h.rov x (List.mem_of_getElem? hx))
 rwa [netV_eq] at this
theorem W_ranges (x : NRg) (hx : w.rgs[i]? = some x) : AC Tryz.prog f_q39 [.agg (netV w),.lit (.int .i64 (i : Nat))] (amiss (rgOf w.rgs i x)):= by
 have:= C_ranges w.net w.rgs rfl i x hx h.l5 (h.rga x (List.mem_of_getElem? hx)) (h.rgr x (List.mem_of_getElem? hx))
 rwa [netV_eq] at this
theorem W_source (x : NSc) (hx : w.scs[i]? = some x) : AC Tryz.prog f_q40 [.agg (netV w),.lit (.int .i64 (i : Nat))] (amiss (scOf w.net w.scs i x)):= by
 have:= C_source w.net w.scs rfl i x hx h.l6 h.l3 (h.scs x (List.mem_of_getElem? hx)) (h.scg x (List.mem_of_getElem? hx)) h.lka
 rwa [netV_eq] at this
end
end Go.Proofs.YtjceingdmfogeaaGreatDoor.VL
end

section
namespace Go.Proofs.YtjceingdmfogeaaGreatDoor.SQ
open Go.RowKit Go.Shelf Go.Proofs
attribute [local go_sem] Oper.semAt_some
def enc (x : Nat) : Value:= .int .u32 (x : Nat)
def upto (f : Nat → Nat) (k : Nat) : List Nat:= (List.range k).map f
theorem upto_succ (f : Nat → Nat) (k : Nat) : upto f (k + 1) = upto f k ++ [f k]:= by simp [upto,List.range_succ]
theorem upto_length (f : Nat → Nat) (k : Nat) : (upto f k).length = k:= by simp [upto]
theorem upto_all (zs : List Nat) : upto (fun j => zs[j]?.getD 0) zs.length = zs:= by
 apply List.ext_getElem
 ·simp [upto]
 ·intro i h1 h2
  simp [upto,h2]
set_option maxRecDepth 100000 in
set_option maxHeartbeats 2000000 in
theorem values1_in (F : Fence) (n : Nat) (h7 : F.fn 114) (hro : F.round = none) (hn : 1 ≤ n) (l Bs Bo n₀ b off len cap : Nat) (zs : List Nat) (hreach : len ≤ 4294967296) (hb : b < n₀) (J Jx : List Nat → World → Prop)
  (hY : ∀ pre x W,J pre W → pre.length < len → YieldAt F (n - 1) Tryz.prog l #[.int .u32 (x : Nat)] W fun e W' =>
   (e = .returned (.bool true) ∧ J (pre ++ [x]) W' ∧ Below n₀ W W') ∨ (e = .returned (.bool false) ∧ Jx (pre ++ [x]) W'))
  (W : World) (hBs : W.cell? ⟨Bs,Bo,none⟩ = some (.slice (some ⟨b,off,none⟩) len cap)) (hc : ∀ j,j < len → W.cell? ⟨b,off + j,none⟩ = some (.int .u32 ((zs[j]?.getD 0 : Nat) : Int))) (h0 : J [] W) :
  CallsIn F n Tryz.prog 114 #[.func (.yield l) #[] #[],.pointer (some ⟨Bs,Bo,none⟩)] W fun e W' => (∃ v,e = .returned v) ∧
   ((∃ ys,ys = upto (fun j => zs[j]?.getD 0) len ∧ J ys W') ∨ (∃ pre,(∃ k,k ≤ len ∧ pre = upto (fun j => zs[j]?.getD 0) k) ∧ Jx pre W')):= by
 refine callsIn_of_wp Tryz.func114 rfl h7 ?_ hro
 simp only [Tryz.ntmps114,List.size_toArray,List.length_cons,List.length_nil,Nat.reduceAdd,Nat.reduceSub,Array.replicate_succ,Array.replicate_zero,List.push_toArray,List.append_toArray,List.nil_append,List.cons_append]
 gi_wp2
 gi_loopw [7] (fun i wr => ∃ k : Nat,k ≤ len ∧ i = .int .i64 k ∧ J (upto (fun j => zs[j]?.getD 0) k) wr ∧ Below n₀ W wr)
  (fun i _ => len - (intOf i).toNat)
 case atStart => exact ⟨0,Nat.zero_le _,rfl,h0,Below.refl _ _⟩
 case round =>
  obtain ⟨k,hk,rfl,hJs,hnx⟩:= hrel
  have hcx : k < len → wr.cell? ⟨b,off + k,none⟩ = some (.int .u32 ((zs[k]?.getD 0 : Nat) : Int)):= fun h => (hnx.cell (p:= ⟨b,off + k,none⟩) hb).trans (hc k h)
  by_cases hlt : k < len
  ·obtain ⟨fn,tmps,assign,body,hy,hR⟩:= hY _ (zs[k]?.getD 0) wr hJs (by rw [upto_length]; exact hlt)
   have hcx':= hcx hlt
   gi_wp2
   refine hR.mono ?_
   rintro e W3 (⟨rfl,hJ3,hk3⟩ | ⟨rfl,hJx3⟩)
   ·gi_wp2
    go_roundw
    case rel => exact ⟨k + 1,by omega,by simp,by rw [upto_succ]; exact hJ3,hnx.trans hk3⟩
    case measure => simp [intOf]; omega
   ·gi_wp2
    refine bodyPost_ret (results_none rfl _ _ _) rfl ?_
    exact ⟨⟨_,rfl⟩,.inr ⟨_,⟨k + 1,by omega,(upto_succ _ _).symm⟩,hJx3⟩⟩
  ·obtain rfl : k = len:= by omega
   gi_wp2
   go_end0
   exact ⟨⟨_,rfl⟩,.inl ⟨_,rfl,hJs⟩⟩
set_option maxRecDepth 100000 in
set_option maxHeartbeats 1000000 in
theorem values1_nil_in (F : Fence) (n : Nat) (h7 : F.fn 114) (hro : F.round = none) (l Bs Bo cap : Nat) (A : Option Addr) (J : List Nat → World → Prop) (W : World) (hBs : W.cell? ⟨Bs,Bo,none⟩ = some (.slice A 0 cap)) (h0 : J [] W) :
  CallsIn F n Tryz.prog 114 #[.func (.yield l) #[] #[],.pointer (some ⟨Bs,Bo,none⟩)] W fun e W' => (∃ v,e = .returned v) ∧ J [] W':= by
 refine callsIn_of_wp Tryz.func114 rfl h7 ?_ hro
 simp only [Tryz.ntmps114,List.size_toArray,List.length_cons,List.length_nil,Nat.reduceAdd,Nat.reduceSub,Array.replicate_succ,Array.replicate_zero,List.push_toArray,List.append_toArray,List.nil_append,List.cons_append]
 gi_wp2
 gi_loopw [7] (fun i wr => i = .int .i64 0 ∧ J [] wr) (fun _ _ => 0)
 case atStart => exact ⟨rfl,h0⟩
 case round =>
  obtain ⟨rfl,hJs⟩:= hrel
  gi_wp2
  go_end0
  exact ⟨⟨_,rfl⟩,hJs⟩
def Nums (n₀ : Nat) (W : World) (sv : Value) (zs : List Nat) : Prop :=
 ∃ A cap,sv = .slice A zs.length cap ∧ (zs ≠ [] → ∃ b off,A = some ⟨b,off,none⟩ ∧ b < n₀ ∧ ∀ j,j < zs.length → W.cell? ⟨b,off + j,none⟩ = some (.int .u32 ((zs[j]?.getD 0 : Nat) : Int)))
theorem Nums.below {n₀ : Nat} {A B : World} (h : Below n₀ A B) {sv : Value} {zs : List Nat} : Nums n₀ A sv zs → Nums n₀ B sv zs
 | ⟨A,cap,e,hx⟩ => ⟨A,cap,e,fun hne => let ⟨b,off,e2,hb,hc⟩:= hx hne; ⟨b,off,e2,hb,fun j hj => (h.cell (p:= ⟨b,off + j,none⟩) hb).trans (hc j hj)⟩⟩
theorem upto_take (zs : List Nat) {k : Nat} (hk : k ≤ zs.length) : upto (fun j => zs[j]?.getD 0) k = zs.take k:= by
 apply List.ext_getElem
 ·simp [upto,hk]
 ·intro i h1 h2
  have : i < zs.length:= by simp [upto] at h1; omega
  simp [upto,this]
theorem values_stops (F : Fence) (n : Nat) (h7 : F.fn 114) (hro : F.round = none) (hn : 1 ≤ n) (Bs Bo n₀ : Nat) (sv : Value) (zs : List Nat) (hreach : zs.length ≤ 4294967296) (w : World) (hBs : Bs < w.heap.size) (hn₀ : n₀ ≤ w.heap.size)
  (hc : w.cell? ⟨Bs,Bo,none⟩ = some sv) (hI : Nums n₀ w sv zs) :
  SeqStopsK F n Tryz.prog 114 #[.pointer (some ⟨Bs,Bo,none⟩)] (fun x : Nat => #[Value.int .u32 (x : Nat)]) (Below n₀) (fun ys => ys = zs) (fun pre => pre <+: zs) zs.length w:= fun l J Jx W hW _ _ hY h0 => by
 have hc':= (hW.cell (p:= ⟨Bs,Bo,none⟩) hBs).trans hc
 obtain ⟨A,cap,rfl,hx⟩:= hI.below (hW.mono hn₀)
 by_cases hz : zs = []
 ·subst hz
  exact (values1_nil_in F n h7 hro l Bs Bo cap A J W hc' h0).mono fun e W' ⟨he,hj⟩ => ⟨he,.inl ⟨_,rfl,hj⟩⟩
 ·obtain ⟨b,off,rfl,hb,hcs⟩:= hx hz
  refine (values1_in F n h7 hro hn l Bs Bo n₀ b off zs.length cap zs hreach hb J Jx hY W hc' hcs h0).mono ?_
  rintro e W' ⟨he,⟨ys,rfl,hj⟩ | ⟨pre,⟨k,hk,rfl⟩,hj⟩⟩
  ·exact ⟨he,.inl ⟨_,upto_all zs,hj⟩⟩
  ·exact ⟨he,.inr ⟨_,by rw [upto_take zs hk]; exact List.take_prefix _ _,hj⟩⟩
def OneRow (w : World) (v : Value) : Prop:= ∀ g cur e fr,v.ownBlock = some g → w.heap[g]? = some (.cells cur e fr) → ∀ u ∈ cur.toList,u.oneCell' = true
theorem OneRow.kept {w w' : World} {row : Option Nat} {base : Nat} {e : TypeId} {size n : Nat} {v : Value} {xs : List Value} (h : OneRow w v) (ho : w.ownsRow base e size v n xs) (hg : w.grownBy w' row) (hne : v.ownBlock = none ∨ v.ownBlock ≠ row) : OneRow w' v:= by
 intro g cur e' fr hb hh
 refine h g cur e' fr hb ?_
 rw [← hh]
 refine (hg.block g (ho.lt g hb).2 ?_).symm
 rcases hne with hne | hne
 ·rw [hne] at hb; cases hb
 ·rw [← hb]; exact hne
theorem one_zero {z : Array Value} (h : ∀ u ∈ z.toList,u.oneCell' = true) (n : Nat) : ∀ u ∈ (Builtin.zeroCells z n).toList,u.oneCell' = true:= by
 intro u hu
 unfold Builtin.zeroCells at hu
 rw [Array.toList_map] at hu
 obtain ⟨i,hi,rfl⟩:= List.mem_map.1 hu
 have hi2 : i < n * z.size:= by simpa using hi
 have hz : 0 < z.size:= by
  rcases Nat.eq_zero_or_pos z.size with h0 | h0
  ·rw [h0] at hi2; omega
  ·exact h0
 have hlt:= Nat.mod_lt i hz
 rw [getElem!_pos z (i % z.size) hlt]
 exact h _ (by simp)
theorem one_appended {P : Program} (w : World) (base : Nat) (t ty e : TypeId) (i : TypeInfo) (z : Value) (size bytes : Nat) (ht : P.underlying t = some (.slice e)) (hi : P.info? e = some i) (hz : i.zero = some z)
  (hsize : i.size = size) (hby : i.bytes = bytes) (hz1 : ∀ u ∈ z.cells.toList,u.oneCell' = true)
  (v : Value) (n : Nat) (xs : List Value) (hown : w.ownsRow base e size v n xs) (hone : OneRow w v)
  (a : Addr) (m c : Nat) (news : List Value) (hl : news.length = m * size) (hnews : ∀ j u,news[j]? = some u → w.cell? (a.add j) = some u) (h1 : ∀ u ∈ news,u.oneCell' = true) (hm : 0 < m)
  (h63 : n + m ≤ maxLen) (hbytes : (n + m) * bytes ≤ 140737488355328) {v' : Value} {w' : World} (hrun : (Builtin.append_ #[t,t] ty #[v,.slice (some a) m c]).run P w = .ok v' w') : OneRow w' v':= by
 subst hsize
 subst hby
 have hsmall : n + m ≤ 9223372036854775807:= by simp only [maxLen] at h63; omega
 have hxs : ∀ u ∈ xs,u.oneCell' = true:= by
  intro u hu
  rcases hown.2 with ⟨rfl,rfl⟩ | ⟨g,cap,cur,rfl,_,hg,_,_,_,htake⟩
  ·have : xs = []:= List.eq_nil_of_length_eq_zero (by simpa using hown.1)
   rw [this] at hu
   cases hu
  ·rw [← htake] at hu
   exact hone g cur e (0,0) rfl hg u (List.mem_of_mem_take hu)
 have fresh : ∀ (W : World) (k : Nat) (cur : Array Value) (cp : Nat),(∀ u ∈ cur.toList,u.oneCell' = true) → OneRow (W.alloc (.cells cur e)) (.slice (some ⟨W.heap.size,0,none⟩) k cp):= by
  intro W k cur cp hc g cur' e' fr hb hh
  simp only [Value.ownBlock,Option.some.injEq] at hb
  subst hb
  rw [World.alloc_heap_new W] at hh
  injection hh with hh
  injection hh with h2
  rw [← h2]
  exact hc
 have cat : ∀ (l l' : List Value) (k : Nat),(∀ u ∈ l,u.oneCell' = true) → (∀ u ∈ l',u.oneCell' = true) → ∀ u ∈ (l.toArray ++ l'.toArray ++ Builtin.zeroCells z.cells k).toList,u.oneCell' = true:= by
  intro l l' k h2 h3 u hu
  simp only [Array.toList_append,List.mem_append] at hu
  rcases hu with (hu | hu) | hu
  ·exact h2 u hu
  ·exact h3 u hu
  ·exact one_zero hz1 k u hu
 rcases hown.2 with ⟨rfl,rfl⟩ | ⟨g,cap,cur,rfl,hbg,hg,hnc,hcm,hcs,htake⟩
 ·rw [run_append_nil (P:= P) w t ty e i z ht hi hz a m c news hl hnews hm (by omega) (by simp only [Nat.zero_add] at hbytes; omega)] at hrun
  injection hrun with e1 e2
  subst e1 e2
  have:= cat [] news (grownCap w m 0 e - m) (fun u hu => by cases hu) h1
  exact fresh w.drew m _ _ (by simpa using this)
 ·by_cases hroom : n + m ≤ cap
  ·have hfit : n * i.size + news.length ≤ cur.size:= by rw [hl,hcs,← Nat.add_mul]; exact Nat.mul_le_mul_right _ hroom
   rw [run_append_room (P:= P) w t ty e i ht hi g n cap cur hg a m c news hl hnews h1 hroom hfit] at hrun
   injection hrun with e1 e2
   subst e1 e2
   intro g' cur' e' fr hb hh
   simp only [Value.ownBlock,Option.some.injEq] at hb
   subst hb
   rw [setRow_heap w g cur _ e _ hg] at hh
   injection hh with hh
   injection hh with h2
   rw [← h2]
   intro u hu
   simp only [List.mem_append] at hu
   have hc:= hone g cur e (0,0) rfl hg
   rcases hu with (hu | hu) | hu
   ·exact hc u (List.mem_of_mem_take hu)
   ·exact h1 u hu
   ·exact hc u (List.mem_of_mem_drop hu)
  ·have holds : ∀ j u,xs[j]? = some u → w.cell? ((⟨g,0,none⟩ : Addr).add j) = some u:= hown.cells (g:= g) rfl
   rw [run_append_grow (P:= P) w t ty e i z ht hi hz ⟨g,0,none⟩ n cap xs hown.1 holds a m c news hl hnews (by omega) (by omega) (growslice_fits (by omega) hbytes)] at hrun
   injection hrun with e1 e2
   subst e1 e2
   exact fresh w.drew (n + m) _ _ (cat xs news _ hxs h1)
theorem wpListIn_append_one {F : Fence} {n : Nat} {P : Program} (w : World) {ops : Array Oper} {rest : List Oper} {o : Oper} {a : Act} {Q : Exit → Act → World → Prop}
  (hg : o.guard = none) (s x : Operand) (t : TypeId) (hop : o.op = Op.call { callee:= Callee.builtin Builtin.append,args:= #[s,x],argTypes:= #[t,t] })
  (base : Nat) (e : TypeId) (i : TypeInfo) (z : Value) (size bytes : Nat) (h1 : P.underlying t = some (.slice e)) (h2 : P.info? e = some i) (h3 : i.zero = some z) (h4 : i.size = size) (h5 : i.bytes = bytes) (h6 : z.cells.size = size) (h7 : 0 < size) (hz1 : ∀ u ∈ z.cells.toList,u.oneCell' = true)
  (v : Value) (k : Nat) (xs : List Value) (hs : a.eval s = v) (hown : w.ownsRow base e size v k xs) (hone : OneRow w v) (ad : Addr) (m c : Nat) (news : List Value) (hx : a.eval x = .slice (some ad) m c) (hn : news.length = m * size)
  (hc : ∀ j u,news[j]? = some u → w.cell? (ad.add j) = some u) (h1c : ∀ u ∈ news,u.oneCell' = true) (hm : 0 < m) (b1 : k + m ≤ maxLen) (b2 : (k + m) * bytes ≤ 140737488355328) (b3 : base ≤ w.heap.size)
  (hK : ∀ v' w',w'.ownsRow base e size v' (k + m) (xs ++ news) → w.grownBy w' v.ownBlock → OneRow w' v' → wpListIn F n P ops Q rest (a.put o.dst v') w') :
  wpListIn F n P ops Q (o :: rest) a w:= by
 refine wpListIn_plain hg fun K hK' => ?_
 obtain ⟨v',w',hrun,r1,r2,_⟩:= run_append_own (P:= P) w base t o.type e i z size bytes h1 h2 h3 h4 h5 h6 h7 v k xs hown ad m c news hn hc h1c b1 b2 b3
 have r3:= one_appended w base t o.type e i z size bytes h1 h2 h3 h4 h5 hz1 v k xs hown hone ad m c news hn hc h1c hm b1 b2 hrun
 unfold Oper.wpIn
 refine ⟨?_,?_⟩
 ·simp [Oper.about,hop,resolve,Target.leads,Sem.run_pure]
 ·rw [Oper.semAt_plain F _ _ (by rw [hop]; intro c hc'; cases hc')]
  simp [execOp,hop,resolve,invoke,builtin,hs,hx,hrun,Result.andThen]
  exact hK' _ _ (hK v' w' r1 r2 r3)
theorem holdsOne_own {β : Type} (n₀ B : Nat) (t e : TypeId) (size : Nat) (k : β → Nat) (f : β → List Value) : Own (fun s W => ∃ v,Boxed W B t v ∧ W.ownsRow n₀ e size v (k s) (f s) ∧ OneRow W v):= by
 rintro s X Y row ⟨v,hv,hr,hG⟩ hg hrow
 have hne : v.ownBlock = none ∨ v.ownBlock ≠ row:= by
  rcases hr.2 with ⟨rfl,_⟩ | ⟨g,cap,cur,rfl,_,hgb,_⟩
  ·exact .inl rfl
  ·refine .inr fun e' => ?_
   obtain ⟨o,ho,hc⟩:= hrow g (by simpa [Value.ownBlock] using e'.symm)
   rw [hgb] at ho; cases ho; cases hc
 refine ⟨v,hv.kept hg (fun e' => ?_),hr.kept hg hne,hG.kept hr hg hne⟩
 obtain ⟨o,ho,hc⟩:= hrow B e'.symm
 rw [show X.heap[B]? = _ from hv] at ho; cases ho; cases hc
theorem infoA : (Tryz.prog.info? 37).map (fun i => (i.zero,i.size,i.bytes)) = some (some (.int .u32 0),1,4):= by kernel_rfl
theorem own_ne {W : World} {base : Nat} {e : TypeId} {size : Nat} {v : Value} {k : Nat} {xs : List Value} (h : W.ownsRow base e size v k xs) {l : Nat} {o : Obj} (hl : W.heap[l]? = some o) (ho : o.isCells = false) : v.ownBlock = none ∨ v.ownBlock ≠ some l:= by
 rcases h.2 with ⟨rfl,_⟩ | ⟨g,cap,cur,rfl,_,hgb,_⟩
 ·exact .inl rfl
 ·refine .inr fun e' => ?_
  obtain rfl : g = l:= by simpa [Value.ownBlock] using e'
  rw [hgb] at hl; cases hl; cases ho
set_option maxRecDepth 100000 in
set_option maxHeartbeats 2000000 in
/-- slices.AppendSeq(nil, slices.Values(zs)): a slice of the call's own that holds zs. -/
theorem appendSeq_in (F : Fence) (n : Nat) (h3 : F.fn 125) (h5 : F.fn 114) (hro : F.round = none) (hn : 3 ≤ n) (Bs Bo : Nat) (sv : Value) (zs : List Nat) (hlen : zs.length ≤ 4294967296) (w : World) (hBs : Bs < w.heap.size)
  (hsv : w.cell? ⟨Bs,Bo,none⟩ = some sv) (hL : Nums w.heap.size w sv zs) :
  CallsIn F n Tryz.prog 125 #[.slice none 0 0,.func (.func 114) #[] #[.pointer (some ⟨Bs,Bo,none⟩)]] w fun e W' => ∃ v,e = .returned v ∧ W'.ownsRow w.heap.size 37 1 v zs.length (zs.map enc) ∧ OneRow W' v ∧ Below w.heap.size w W':= by
 have h1 : 1 ≤ n:= by omega
 obtain ⟨i0,hi,hz0,hz1,hz2⟩:= info_parts infoA
 refine callsIn_of_wp_marks Tryz.func125 rfl h3 ?_ hro
 simp only [Tryz.ntmps125,List.size_toArray,List.length_cons,List.length_nil,Nat.reduceAdd,Nat.reduceSub,Array.replicate_succ,Array.replicate_zero,List.push_toArray,List.append_toArray,List.nil_append,List.cons_append]
 gi_wp2
 have bO:= Boxed.new w 77 (.slice none 0 0)
 have hB0 : Below w.heap.size w (w.alloc (.cells #[.slice none 0 0] 77)):= (Below.refl _ w).alloc (Nat.le_refl _) _
 refine wpIn_rangeFunc_ownG hro h1 (gf:= 114) (lb:= #[.pointer (some ⟨Bs,Bo,none⟩)]) rfl h5 (enters_of Tryz.func114 (by kernel_rfl) rfl)
  (values_stops F (n - 1) h5 hro (by omega) Bs Bo w.heap.size sv zs hlen _ (by simp; omega) (by simp) ((hB0.cell (p:= ⟨Bs,Bo,none⟩) hBs).trans hsv) (hL.below hB0)) belowK_t (belowK_b (by simp)) (Below.refl _ _) (fun _ => rfl)
  (fun pre W => (∃ v,Boxed W w.heap.size 77 v ∧ W.ownsRow w.heap.size 37 1 v pre.length (pre.map enc) ∧ OneRow W v) ∧ Below w.heap.size w W)
  (fun _ _ _ => False)
  (OwnFrom.and (Own.from (holdsOne_own w.heap.size w.heap.size 77 37 1 (fun pre : List Nat => pre.length) (fun pre : List Nat => pre.map enc)) _) (ownFrom_below (Nat.le_refl _) (by simp)))
  (fun _ _ _ _ _ hs _ _ => hs)
  ⟨⟨_,bO,World.ownsRow_nil _ _ _ _,fun g cur e fr hb _ => by cases hb⟩,hB0⟩
  (fun x => { tmps:= #[.slice none 0 0,.func (.func 114) #[] #[.pointer (some ⟨Bs,Bo,none⟩)],.pointer (some ⟨w.heap.size,0,none⟩),undef,.slice none 0 0,.int .u32 (x : Nat),.func (.func 114) #[] #[.pointer (some ⟨Bs,Bo,none⟩)],.int .u32 (x : Nat),undef,undef,undef,undef,undef],defers:= [] }) ?assign ?body ?done ?stop
 case assign =>
  intro l x W K hK
  gi_wp2
  exact hK
 case body =>
  rintro l pre x W ⟨⟨v,hv,hrow,hone⟩,hB⟩ hlt
  have hc:= hv.cell
  have hz3 : ∀ u ∈ (Value.int .u32 0).cells.toList,u.oneCell' = true:= by decide
  have hne : v.ownBlock = none ∨ v.ownBlock ≠ none:= by cases v.ownBlock <;> simp
  gi_wp2_with (gi_at_builtin; refine wpListIn_append_one _ rfl _ _ 77 rfl w.heap.size 37 i0 (.int .u32 0) 1 4 Tryz.underlying77 hi hz0 hz1 hz2 rfl (by decide) hz3 _ _ _ rfl (hrow.alloc _) (hone.kept hrow (World.grownBy_alloc W _ none) hne) ⟨W.heap.size,0,none⟩ 1 1 [.int .u32 (x : Nat)] rfl rfl (cell_one_new _ _ _) (by simp [Value.oneCell']) (by decide) (by have : maxLen = 9223372036854775807:= rfl; omega) (by omega) (by have:= hB.size; simp; omega) ?_; intro v' w1 hown' hgrow hone'; obtain ⟨g',cap',rfl⟩:= ownsRow_succ hown'; obtain ⟨hv1,hv2,hr2,hk2,hb2⟩:= hv.appended (by decide) hrow hB.size (Nat.le_refl _) hown' hgrow; have hc1:= hv1.cell; have hf1:= hv1.frozen)
  exact ⟨hk2.from _,hb2,⟨_,hv2,by simpa [enc] using hr2,hone'.kept hown' (grownBy_setCell' _ _ _) (.inr (hv1.not_row (by decide) hown').symm)⟩,hB.trans hb2⟩
 case done =>
  rintro D ys W hD rfl ⟨⟨v,hv,hrow,hone⟩,hB⟩ hK
  have hc:= hv.cell
  gi_wp2
  refine ⟨by simp,.inl ⟨_,_,rfl,run_takeDeferred hK,?_⟩⟩
  exact ⟨_,results_tmp rfl _ _ _,v,rfl,ownsRow_putObj hrow _ hK rfl,hone.kept hrow (grownBy_putObj' W D _) (own_ne hrow hK rfl),hB.trans (belowK_b (w:= w) (Nat.le_refl _) W D _ _ (by simp at hD; omega) hK rfl rfl)⟩
 case stop =>
  rintro D c pre W _ _ h _
  exact h.elim
end Go.Proofs.YtjceingdmfogeaaGreatDoor.SQ
end

section
set_option maxHeartbeats 4000000
namespace Go.Proofs.YtjceingdmfogeaaGreatDoor.VL
open Go.RowKit Go.Proofs Go.Sort
theorem iw (x : Int) (h0 : -9223372036854775808 ≤ x) (h1 : x ≤ 9223372036854775807) : IntKind.i64.wrap x = x:= by
 rw [IntKind.wrap_i64]; omega
theorem iwn {x : Int} (n : Nat) (e : x = n) (h1 : n ≤ 9223372036854775807) : IntKind.i64.wrap x = (n : Int):= by
 rw [e]; exact iw _ (by omega) (by omega)
abbrev aI (n : Int) : AV:= .lit (.int .u32 n)
abbrev iI (n : Int) : AV:= .lit (.int .i64 n)
def Tl (tl : List AV) : Prop:= ∀ x ∈ tl,x = .dead ∨ ∃ v,x = .lit v
def dC (d : Array Int) (tl : List AV) : List AV:= d.toList.map aI ++ tl
theorem dC_len (d : Array Int) (tl : List AV) : (dC d tl).length = d.size + tl.length:= by simp [dC]
theorem dC_get {d : Array Int} (tl : List AV) {j : Nat} (h : j < d.size) : (dC d tl)[j]? = some (aI d[j]!):= by
 rw [dC,List.getElem?_append_left (by simpa using h),List.getElem?_map]
 simp [h]
theorem dC_ld {d : Array Int} (tl : List AV) {j : Nat} (h : j < d.size) : aval.ld false 1 ((dC d tl).drop j) = some (aI d[j]!):= by
 simp only [aval.ld,List.getElem?_drop,Nat.add_zero]
 exact dC_get tl h
theorem dC_set {d : Array Int} (tl : List AV) {j : Nat} (h : j < d.size) (v : Int) : (dC d tl).take j ++ [aI v] ++ (dC d tl).drop (j + 1) = dC (d.setIfInBounds j v) tl:= by
 apply List.ext_getElem?
 intro i
 have hl:= dC_len d tl
 have htl : ((dC d tl).take j).length = j:= by rw [List.length_take]; omega
 simp only [dC,Array.toList_setIfInBounds,List.map_set]
 rw [List.append_assoc]
 by_cases h1 : i < j
 ·rw [List.getElem?_append_left (by rw [List.length_take,List.length_append,List.length_map,Array.length_toList]; omega),List.getElem?_take_of_lt h1]
  rw [List.getElem?_append_left (by simp; omega),List.getElem?_append_left (by simp; omega),List.getElem?_set_ne (by omega)]
 ·rw [List.getElem?_append_right (by rw [List.length_take,List.length_append,List.length_map,Array.length_toList]; omega)]
  have e : (List.take j (d.toList.map aI ++ tl)).length = j:= by rw [List.length_take,List.length_append,List.length_map,Array.length_toList]; omega
  rw [e]
  by_cases h2 : i = j
  ·subst h2
   have e2 : ((List.map aI d.toList).set i (aI v) ++ tl)[i]? = some (aI v):= by
    rw [List.getElem?_append_left (by rw [List.length_set,List.length_map,Array.length_toList]; exact h),List.getElem?_set_self (by rw [List.length_map,Array.length_toList]; exact h)]
   rw [e2,Nat.sub_self]
   rfl
  ·have h3 : i - j = (i - j - 1) + 1:= by omega
   rw [h3,List.singleton_append,List.getElem?_cons_succ,List.getElem?_drop]
   have h4 : j + 1 + (i - j - 1) = i:= by omega
   rw [h4]
   by_cases h5 : i < d.size
   ·rw [List.getElem?_append_left (by simpa using h5),List.getElem?_append_left (by simpa using h5),List.getElem?_set_ne (by omega)]
   ·rw [List.getElem?_append_right (by simp; omega),List.getElem?_append_right (by simp; omega)]
    simp
theorem mapO_id {f : AV → Option AV} : ∀ {l : List AV},(∀ x ∈ l,f x = some x) → mapO f l = some l
 | [],_ => rfl
 | x :: l,h => by
  have ih : mapO f l = some l:= mapO_id fun y hy => h y (List.mem_cons_of_mem _ hy)
  simp only [mapO,h x List.mem_cons_self,ih]
theorem close_dC (d : Array Int) {tl : List AV} (ht : Tl tl) : mapO closeV (dC d tl) = some (dC d tl):= by
 refine mapO_id fun x hx => ?_
 rcases List.mem_append.1 hx with hx | hx
 ·obtain ⟨n,_,rfl⟩:= List.mem_map.1 hx
  rfl
 ·rcases ht x hx with rfl | ⟨v,rfl⟩ <;> rfl
theorem ret_dC (C : Nat → Option (List AV)) (d : Array Int) {tl : List AV} (ht : Tl tl) : mapO (retv C false 8) (dC d tl) = some (dC d tl):= by
 refine mapO_id fun x hx => ?_
 rcases List.mem_append.1 hx with hx | hx
 ·obtain ⟨n,_,rfl⟩:= List.mem_map.1 hx
  rfl
 ·rcases ht x hx with rfl | ⟨v,rfl⟩ <;> rfl
abbrev DM : List (Nat × Nat):= [(100000,100000)]
abbrev dS (n cap : Nat) : AV:= .ml 100000 0 n cap false 1
theorem back_dC (s : List (Nat × AV)) (x y : List AV) : backC DM [(100000,y)] (mkE s [(100000,x)]) = mkE s [(100000,y)]:= by
 simp only [backC,mkE]
 congr 1
 funext c
 by_cases h : c = 100000
 ·subst h; rfl
 ·simp [lentAs,getC,h]
theorem callD_of {P : Program} {dst : Option Nat} {os : List AOper} {s : List (Nat × AV)} {K : Env → Prop} {f : FuncId} {raw al : List AV} {args : Option (List AV)} {r : AV} {d d' : Array Int} {tl : List AV} (ht : Tl tl)
  (hl : mapO (lowerM DM (getC [(100000,dC d tl)]) 8) raw = some al) (h : AM P f al [(100000,dC d tl)] r [(100000,dC d' tl)])
  (hk : awX false P os ((mkE s [(100000,dC d' tl)]).putO dst (retag (dst.getD 0) (unlend DM r))) K) : callX false P dst os s [(100000,dC d tl)] K f raw args:= by
 refine callM_of DM rfl hl ?_ h ?_
 ·show mapO _ DM = _
  simp only [DM,mapO_cons,mapO_nil,getC_cons,↓reduceIte,close_dC d ht,catO_some]
 ·rw [back_dC]
  exact hk
theorem endM_n (v : List RV) (r : AV) (ks : List Nat) (c1 : List (Nat × List AV)) (E : Env) : endM v r ks c1 .normal E = (retR E v = some r ∧ retC E ks = some c1):= rfl
theorem endM_r (v : List RV) (r : AV) (ks : List Nat) (c1 : List (Nat × List AV)) (E : Env) : endM v r ks c1 .ret E = (retR E v = some r ∧ retC E ks = some c1):= rfl
theorem retC_dC {s : List (Nat × AV)} {d : Array Int} {tl : List AV} (ht : Tl tl) : retC (mkE s [(100000,dC d tl)]) [100000] = some [(100000,dC d tl)]:= by
 simp only [retC,mapO_cons,mapO_nil,mkE_c,getC_cons,↓reduceIte,ret_dC _ d ht,catO_some]
theorem C_isNaN (x : Int) : AC Tryz.prog f_q117 [aI x] (.lit (.bool false)):= by
 refine ac_q117 ?_ (Nat.le_add_left 1 _)
 simp only [go_sem,c_q117,bne_self_eq_false]
theorem C_Less (x y : Int) : AC Tryz.prog f_q90 [aI x,aI y] (.lit (.bool (ltInt x y))):= by
 refine ac_q90 ?_ (Nat.le_add_left 2 _)
 simp only [go_sem,c_q90]
 refine callX_of (C_isNaN x) ?_
 simp only [go_sem,ltInt]
theorem swp_size (d : Array Int) (i j : Nat) : (swp d i j).size = d.size:= by simp [swp]
theorem swp_def (d : Array Int) (i j : Nat) : (d.setIfInBounds i d[j]!).setIfInBounds j d[i]! = swp d i j:= rfl
theorem C_reverse {d : Array Int} {a b cap : Nat} {tl : List AV} (ht : Tl tl) (hab : a < b) (hb : b ≤ d.size) (hd : d.size ≤ 4611686018427387904) :
  AM Tryz.prog f_q88 [dS d.size cap,iI a,iI b] [(100000,dC d tl)] (.tup []) [(100000,dC (reverseRange d a b) tl)]:= by
 refine am_q88 ?_ (by simp) (Nat.le_add_left 3 _)
 simp only [go_sem,env0M_mk,c_q88,List.map_cons,List.map_nil]
 refine aw_loop (fun m E => ∃ (i j : Nat) (e : Array Int),e.size = d.size ∧ j < d.size ∧ i ≤ j + 1 ∧ j + 1 - i ≤ m ∧ reverseLoop i j e = reverseRange d a b ∧
  E = mkE [(0,dS d.size cap),(6,iI i),(7,iI j)] [(100000,dC e tl)]) (b - a) ?_ ?_
 ·refine ⟨a,b - 1,d,rfl,by omega,by omega,by omega,rfl,?_⟩
  simp only [go_sem,iwn (b - 1) (by omega : (b : Int) - 1 = ((b - 1 : Nat) : Int)) (by omega)]
 ·rintro m _ ⟨i,j,e,he,hj,hij,hm,hr,rfl⟩
  by_cases h : i < j
  ·have f1 : ((i : Int) < (j : Int)) = True:= eq_true (by omega)
   have g1:= dC_ld tl (show i < e.size by omega)
   have g2:= dC_ld tl (show j < e.size by omega)
   have l1 : i + 1 ≤ (dC e tl).length:= by rw [dC_len]; omega
   have s1:= dC_set tl (show i < e.size by omega) e[j]!
   have l2 : j + 1 ≤ (dC (e.setIfInBounds i e[j]!) tl).length:= by rw [dC_len,Array.size_setIfInBounds]; omega
   have s2:= dC_set (d:= e.setIfInBounds i e[j]!) tl (show j < (e.setIfInBounds i e[j]!).size by rw [Array.size_setIfInBounds]; omega) e[i]!
   have b1 : (j : Int) < (d.size : Int):= by omega
   have b2 : (i : Int) < (d.size : Int):= by omega
   simp only [go_sem,f1,decide_true,g1,g2,l1,s1,l2,s2,b1,b2,Int.natCast_nonneg,Int.toNat_natCast,Nat.zero_add,Nat.mul_one,iwn (i + 1) (by omega : (i : Int) + 1 = ((i + 1 : Nat) : Int)) (by omega),iwn (j - 1) (by omega : (j : Int) - 1 = ((j - 1 : Nat) : Int)) (by omega),swp_def]
   refine ⟨m - 1,by omega,i + 1,j - 1,swp e i j,by rw [swp_size,he],by omega,by omega,by omega,?_,rfl⟩
   rw [← hr]
   conv => rhs; unfold reverseLoop
   rw [if_pos h]
  ·have f1 : ((i : Int) < (j : Int)) = False:= eq_false (by omega)
   rw [show reverseRange d a b = e by rw [← hr]; unfold reverseLoop; rw [if_neg h]]
   simp only [go_sem,f1,decide_false,endM_n,endM_r,retC_dC ht,and_self]
theorem C_insertion {d : Array Int} {a b cap : Nat} {tl : List AV} (ht : Tl tl) (hab : a ≤ b) (hb : b ≤ d.size) (hd : d.size ≤ 4611686018427387904) :
  AM Tryz.prog f_q84 [dS d.size cap,iI a,iI b] [(100000,dC d tl)] (.tup []) [(100000,dC (insertionSort ltInt d a b) tl)]:= by
 refine am_q84 ?_ (by simp) (Nat.le_add_left 3 _)
 simp only [go_sem,env0M_mk,c_q84,List.map_cons,List.map_nil]
 refine aw_loop (fun m E => ∃ (i : Nat) (e : Array Int),e.size = d.size ∧ b - i ≤ m ∧ i ≤ b + 1 ∧ a + 1 ≤ i ∧ insOuter ltInt a b i e = insertionSort ltInt d a b ∧
  E = mkE [(0,dS d.size cap),(1,iI a),(2,iI b),(6,iI i)] [(100000,dC e tl)]) (b - a) ?_ ?_
 ·refine ⟨a + 1,d,rfl,by omega,by omega,by omega,rfl,?_⟩
  simp only [go_sem,iwn (a + 1) (by omega : (a : Int) + 1 = ((a + 1 : Nat) : Int)) (by omega)]
 ·rintro m _ ⟨i,e,he,hm,hib,hai,hr,rfl⟩
  by_cases h : i < b
  ·have f1 : ((i : Int) < (b : Int)) = True:= eq_true (by omega)
   have w1:= iwn (i + 1) (by omega : (i : Int) + 1 = ((i + 1 : Nat) : Int)) (by omega)
   rw [insOuter,if_pos h] at hr
   simp only [go_sem,f1,decide_true]
   refine aw_loop (fun m' E => ∃ (j : Nat) (x : Array Int),x.size = d.size ∧ j ≤ m' ∧ j ≤ i ∧ a ≤ j ∧ insInner ltInt a j x = insInner ltInt a i e ∧
    E = mkE [(0,dS d.size cap),(1,iI a),(2,iI b),(6,iI i),(7,iI j)] [(100000,dC x tl)]) i ?_ ?_
   ·exact ⟨i,e,he,by omega,by omega,by omega,rfl,by simp only [go_sem]⟩
   ·rintro m' _ ⟨j,x,hx,hm',hji,haj,hr',rfl⟩
    by_cases h2 : a < j
    ·obtain ⟨j',rfl⟩ : ∃ j',j = j' + 1:= ⟨j - 1,by omega⟩
     have f2 : ((a : Int) < ((j' + 1 : Nat) : Int)) = True:= eq_true (by omega)
     have b1 : ((j' + 1 : Nat) : Int) < (d.size : Int):= by omega
     have b2 : ((j' : Nat) : Int) < (d.size : Int):= by omega
     have g1:= dC_ld tl (show j' < x.size by omega)
     have g2:= dC_ld tl (show j' + 1 < x.size by omega)
     have w2:= iwn j' (by omega : ((j' + 1 : Nat) : Int) - 1 = ((j' : Nat) : Int)) (by omega)
     simp only [go_sem,f2,decide_true,b1,b2,g1,g2,w2,Int.natCast_nonneg,Int.toNat_natCast,Nat.zero_add,Nat.mul_one]
     refine callX_of (C_Less x[j' + 1]! x[j']!) ?_
     simp only [go_sem]
     rw [insInner] at hr'
     cases hlt : ltInt x[j' + 1]! x[j']! with
     | true =>
      have l1 : j' + 1 + 1 ≤ (dC x tl).length:= by rw [dC_len]; omega
      have s1:= dC_set tl (show j' + 1 < x.size by omega) x[j']!
      have l2 : j' + 1 ≤ (dC (x.setIfInBounds (j' + 1) x[j']!) tl).length:= by rw [dC_len,Array.size_setIfInBounds]; omega
      have s2:= dC_set (d:= x.setIfInBounds (j' + 1) x[j']!) tl (show j' < (x.setIfInBounds (j' + 1) x[j']!).size by rw [Array.size_setIfInBounds]; omega) x[j' + 1]!
      simp only [go_sem,f2,decide_true,b1,b2,g1,g2,w2,l1,s1,l2,s2,Int.natCast_nonneg,Int.toNat_natCast,Nat.zero_add,Nat.mul_one,swp_def]
      refine ⟨m' - 1,by omega,j',swp x (j' + 1) j',by rw [swp_size,hx],by omega,by omega,by omega,?_,rfl⟩
      rw [← hr',if_pos (by simp [hlt]; omega)]
     | false =>
      rw [if_neg (by simp [hlt])] at hr'
      simp only [go_sem,w1]
      exact ⟨m - 1,by omega,i + 1,x,hx,by omega,by omega,by omega,by rw [hr']; exact hr,rfl⟩
    ·have f2 : ((a : Int) < (j : Int)) = False:= eq_false (by omega)
     have hx' : insInner ltInt a i e = x:= by
      rw [← hr']
      cases j with
      | zero => rfl
      | succ j => rw [insInner,if_neg (by simp; omega)]
     simp only [go_sem,f2,decide_false,w1]
     exact ⟨m - 1,by omega,i + 1,x,hx,by omega,by omega,by omega,by rw [← hx']; exact hr,rfl⟩
  ·have f1 : ((i : Int) < (b : Int)) = False:= eq_false (by omega)
   rw [show insertionSort ltInt d a b = e by rw [← hr]; unfold insOuter; rw [if_neg h]]
   simp only [go_sem,f1,decide_false,endM_n,endM_r,retC_dC ht,and_self]
end Go.Proofs.YtjceingdmfogeaaGreatDoor.VL
end

section
set_option maxHeartbeats 4000000
namespace Go.Proofs.YtjceingdmfogeaaGreatDoor.VL
open Go.RowKit Go.Proofs Go.Sort
theorem swp_cells {x : Array Int} (tl : List AV) {i j : Nat} (hi : i < x.size) (hj : j < x.size) :
  aval.ld false 1 ((dC x tl).drop i) = some (aI x[i]!) ∧ aval.ld false 1 ((dC x tl).drop j) = some (aI x[j]!) ∧ i + 1 ≤ (dC x tl).length ∧ (dC x tl).take i ++ [aI x[j]!] ++ (dC x tl).drop (i + 1) = dC (x.setIfInBounds i x[j]!) tl ∧
  j + 1 ≤ (dC (x.setIfInBounds i x[j]!) tl).length ∧ (dC (x.setIfInBounds i x[j]!) tl).take j ++ [aI x[i]!] ++ (dC (x.setIfInBounds i x[j]!) tl).drop (j + 1) = dC ((x.setIfInBounds i x[j]!).setIfInBounds j x[i]!) tl :=
 ⟨dC_ld tl hi,dC_ld tl hj,by rw [dC_len]; omega,dC_set tl hi _,by rw [dC_len,Array.size_setIfInBounds]; omega,dC_set (d:= x.setIfInBounds i x[j]!) tl (by rw [Array.size_setIfInBounds]; exact hj) _⟩
theorem C_siftDown {d : Array Int} {lo hi first cap : Nat} {tl : List AV} (ht : Tl tl) (hb : first + hi ≤ d.size) (hd : d.size ≤ 255) (hlo : lo ≤ 255) :
  AM Tryz.prog f_q112 [dS d.size cap,iI lo,iI hi,iI first] [(100000,dC d tl)] (.tup []) [(100000,dC (siftDown ltInt hi first lo d) tl)]:= by
 refine am_q112 ?_ (by simp) (Nat.le_add_left 4 _)
 simp only [go_sem,env0M_mk,c_q112,List.map_cons,List.map_nil]
 refine aw_loop (fun m E => ∃ (r : Nat) (x : Array Int),x.size = d.size ∧ r ≤ 255 ∧ hi - r ≤ m ∧ siftDown ltInt hi first r x = siftDown ltInt hi first lo d ∧
  E = mkE [(0,dS d.size cap),(2,iI hi),(3,iI first),(8,iI r)] [(100000,dC x tl)]) (hi - lo) ?_ ?_
 ·exact ⟨lo,d,rfl,hlo,by omega,rfl,by simp only [go_sem]⟩
 ·rintro m _ ⟨r,x,hx,hr255,hm,hr,rfl⟩
  have w1:= iwn (2 * r) (by omega : (2 : Int) * (r : Int) = ((2 * r : Nat) : Int)) (by omega)
  have w2:= iwn (2 * r + 1) (by omega : ((2 * r : Nat) : Int) + 1 = ((2 * r + 1 : Nat) : Int)) (by omega)
  by_cases h : hi ≤ 2 * r + 1
  ·have f1 : ((hi : Int) ≤ ((2 * r + 1 : Nat) : Int)) = True:= eq_true (by omega)
   have e : siftDown ltInt hi first r x = x:= by rw [siftDown,dif_pos h]
   rw [e] at hr
   simp only [go_sem,w1,w2,f1,decide_true,endM_n,endM_r,← hr,retC_dC ht,and_self]
  ·have f1 : ((hi : Int) ≤ ((2 * r + 1 : Nat) : Int)) = False:= eq_false (by omega)
   have w3:= iwn (2 * r + 2) (by omega : ((2 * r + 1 : Nat) : Int) + 1 = ((2 * r + 2 : Nat) : Int)) (by omega)
   have w4:= iwn (first + r) (by omega : (first : Int) + (r : Int) = ((first + r : Nat) : Int)) (by omega)
   have bR : ((first + r : Nat) : Int) < (d.size : Int):= by omega
   rw [siftDown,dif_neg h] at hr
   by_cases h2 : 2 * r + 2 < hi
   ·have f2 : (((2 * r + 2 : Nat) : Int) < (hi : Int)) = True:= eq_true (by omega)
    have w5:= iwn (first + (2 * r + 1)) (by omega : (first : Int) + ((2 * r + 1 : Nat) : Int) = ((first + (2 * r + 1) : Nat) : Int)) (by omega)
    have w6:= iwn (first + (2 * r + 2)) (by omega : ((first + (2 * r + 1) : Nat) : Int) + 1 = ((first + (2 * r + 2) : Nat) : Int)) (by omega)
    have w7:= iwn (first + (2 * r + 2)) (by omega : (first : Int) + ((2 * r + 2 : Nat) : Int) = ((first + (2 * r + 2) : Nat) : Int)) (by omega)
    have b1 : ((first + (2 * r + 1) : Nat) : Int) < (d.size : Int):= by omega
    have b2 : ((first + (2 * r + 2) : Nat) : Int) < (d.size : Int):= by omega
    obtain ⟨g1,g2,_⟩:= swp_cells tl (show first + (2 * r + 1) < x.size by omega) (show first + (2 * r + 2) < x.size by omega)
    simp only [go_sem,w1,w2,w3,w5,w6,f1,f2,decide_true,decide_false,b1,b2,g1,g2,Int.natCast_nonneg,Int.toNat_natCast,Nat.zero_add,Nat.mul_one]
    refine callX_of (C_Less x[first + (2 * r + 1)]! x[first + (2 * r + 2)]!) ?_
    cases hlt : ltInt x[first + (2 * r + 1)]! x[first + (2 * r + 2)]! with
    | true =>
     rw [if_pos (by simp only [Bool.and_eq_true,decide_eq_true_eq]; exact ⟨by omega,hlt⟩)] at hr
     rw [dif_pos h2] at hr
     obtain ⟨g3,g4,l1,s1,l2,s2⟩:= swp_cells tl (show first + r < x.size by omega) (show first + (2 * r + 2) < x.size by omega)
     simp only [go_sem,w1,w2,w3,w4,w7,b2,bR,g3,g4,Int.natCast_nonneg,Int.toNat_natCast,Nat.zero_add,Nat.mul_one]
     refine callX_of (C_Less x[first + r]! x[first + (2 * r + 2)]!) ?_
     cases hl2 : ltInt x[first + r]! x[first + (2 * r + 2)]! with
     | true =>
      rw [if_neg (by simp [hl2])] at hr
      simp only [go_sem,w4,w7,b2,bR,g3,g4,l1,s1,l2,s2,Int.natCast_nonneg,Int.toNat_natCast,Nat.zero_add,Nat.mul_one,swp_def]
      exact ⟨m - 1,by omega,2 * r + 2,_,by rw [swp_size,hx],by omega,by omega,hr,rfl⟩
     | false =>
      rw [if_pos (by simp [hl2])] at hr
      simp only [go_sem,endM_n,endM_r,← hr,retC_dC ht,and_self]
    | false =>
     rw [if_neg (by rw [show first + (2 * r + 1) + 1 = first + (2 * r + 2) by omega,hlt]; simp)] at hr
     obtain ⟨g3,g4,l1,s1,l2,s2⟩:= swp_cells tl (show first + r < x.size by omega) (show first + (2 * r + 1) < x.size by omega)
     simp only [go_sem,w1,w2,w3,w4,w5,b1,bR,g3,g4,Int.natCast_nonneg,Int.toNat_natCast,Nat.zero_add,Nat.mul_one]
     refine callX_of (C_Less x[first + r]! x[first + (2 * r + 1)]!) ?_
     cases hl2 : ltInt x[first + r]! x[first + (2 * r + 1)]! with
     | true =>
      rw [if_neg (by simp [hl2])] at hr
      simp only [go_sem,w4,w5,b1,bR,g3,g4,l1,s1,l2,s2,Int.natCast_nonneg,Int.toNat_natCast,Nat.zero_add,Nat.mul_one,swp_def]
      exact ⟨m - 1,by omega,2 * r + 1,_,by rw [swp_size,hx],by omega,by omega,hr,rfl⟩
     | false =>
      rw [if_pos (by simp [hl2])] at hr
      simp only [go_sem,endM_n,endM_r,← hr,retC_dC ht,and_self]
   ·have f2 : (((2 * r + 2 : Nat) : Int) < (hi : Int)) = False:= eq_false (by omega)
    have w5:= iwn (first + (2 * r + 1)) (by omega : (first : Int) + ((2 * r + 1 : Nat) : Int) = ((first + (2 * r + 1) : Nat) : Int)) (by omega)
    have b1 : ((first + (2 * r + 1) : Nat) : Int) < (d.size : Int):= by omega
    rw [if_neg (by simp; omega)] at hr
    obtain ⟨g3,g4,l1,s1,l2,s2⟩:= swp_cells tl (show first + r < x.size by omega) (show first + (2 * r + 1) < x.size by omega)
    simp only [go_sem,w1,w2,w3,w4,w5,f1,f2,decide_true,decide_false,b1,bR,g3,g4,Int.natCast_nonneg,Int.toNat_natCast,Nat.zero_add,Nat.mul_one]
    refine callX_of (C_Less x[first + r]! x[first + (2 * r + 1)]!) ?_
    cases hl2 : ltInt x[first + r]! x[first + (2 * r + 1)]! with
    | true =>
     rw [if_neg (by simp [hl2])] at hr
     simp only [go_sem,w4,w5,b1,bR,g3,g4,l1,s1,l2,s2,Int.natCast_nonneg,Int.toNat_natCast,Nat.zero_add,Nat.mul_one,swp_def]
     exact ⟨m - 1,by omega,2 * r + 1,_,by rw [swp_size,hx],by omega,by omega,hr,rfl⟩
    | false =>
     rw [if_pos (by simp [hl2])] at hr
     simp only [go_sem,endM_n,endM_r,← hr,retC_dC ht,and_self]
theorem siftDown_size {lt : Int → Int → Bool} (hi first : Nat) : ∀ (n r : Nat) (x : Array Int),hi - r ≤ n → (siftDown lt hi first r x).size = x.size:= by
 intro n
 induction n with
 | zero =>
  intro r x h
  rw [siftDown,dif_pos (by omega)]
 | succ n ih =>
  intro r x h
  rw [siftDown]
  split
  ·rfl
  ·split
   ·split
    ·rfl
    ·split
     ·rw [ih _ _ (by omega),swp_size]
     ·rfl
   ·split
    ·rfl
    ·rw [ih _ _ (by omega),swp_size]
theorem C_heap {d : Array Int} {a b cap : Nat} {tl : List AV} (ht : Tl tl) (hab : a < b) (hb : b ≤ d.size) (hd : d.size ≤ 255) :
  AM Tryz.prog f_q85 [dS d.size cap,iI a,iI b] [(100000,dC d tl)] (.tup []) [(100000,dC (heapSort ltInt d a b) tl)]:= by
 refine am_q85 ?_ (by simp) (Nat.le_add_left 3 _)
 have wq : ((b - a - 1 : Nat) : Int).tdiv 2 = (((b - a - 1) / 2 : Nat) : Int):= by
  rw [Int.tdiv_eq_ediv_of_nonneg (by omega)]
  omega
 have w2 : IntKind.i64.wrap (((b - a - 1) / 2 : Nat) : Int) = (((b - a - 1) / 2 : Nat) : Int):= iwn _ rfl (by omega)
 simp only [go_sem,env0M_mk,c_q85,List.map_cons,List.map_nil,iwn (b - a) (by omega : (b : Int) - (a : Int) = ((b - a : Nat) : Int)) (by omega),iwn (b - a - 1) (by omega : ((b - a : Nat) : Int) - 1 = ((b - a - 1 : Nat) : Int)) (by omega),wq,w2,show ((2 : Int) == 0) = false from rfl]
 have hsz : (heapBuild ltInt (b - a) a ((b - a - 1) / 2 + 1) d).size = d.size:= by
  generalize (b - a - 1) / 2 + 1 = k
  clear wq w2 hb hd
  induction k generalizing d with
  | zero => rfl
  | succ k ih => rw [heapBuild,ih,siftDown_size _ _ _ _ _ (Nat.le_refl _)]
 have hH : heapSort ltInt d a b = heapPop ltInt a (b - a) (heapBuild ltInt (b - a) a ((b - a - 1) / 2 + 1) d):= rfl
 rw [hH]
 refine aw_loop (fun m E => ∃ (k : Nat) (x : Array Int),x.size = d.size ∧ k ≤ m ∧ k ≤ 255 ∧ heapBuild ltInt (b - a) a k x = heapBuild ltInt (b - a) a ((b - a - 1) / 2 + 1) d ∧
  E = mkE [(0,dS d.size cap),(6,iI a),(7,iI 0),(8,iI (b - a : Nat)),(9,iI ((k : Int) - 1))] [(100000,dC x tl)]) ((b - a - 1) / 2 + 1) ?_ ?_
 ·refine ⟨(b - a - 1) / 2 + 1,d,rfl,Nat.le_refl _,by omega,rfl,?_⟩
  simp only [go_sem,show (((b - a - 1) / 2 + 1 : Nat) : Int) - 1 = (((b - a - 1) / 2 : Nat) : Int) by omega]
 ·rintro m _ ⟨k,x,hx,hm,hk255,hr,rfl⟩
  cases k with
  | succ k =>
   have e1 : ((k + 1 : Nat) : Int) - 1 = (k : Int):= by omega
   have f1 : ((0 : Int) ≤ (k : Int)) = True:= eq_true (by omega)
   have hC:= C_siftDown (lo:= k) (hi:= b - a) (first:= a) (cap:= cap) (d:= x) ht (by omega) (by omega) (by omega)
   rw [hx] at hC
   simp only [go_sem,e1,f1,decide_true]
   refine callD_of ht rfl hC ?_
   simp only [go_sem,iw ((k : Int) - 1) (by omega) (by omega)]
   exact ⟨m - 1,by omega,k,_,by rw [siftDown_size _ _ _ _ _ (Nat.le_refl _),hx],by omega,by omega,hr,rfl⟩
  | zero =>
   have e : x = heapBuild ltInt (b - a) a ((b - a - 1) / 2 + 1) d:= by rw [← hr]; rfl
   rw [← e] at hsz ⊢
   clear hr e
   have f1 : ((0 : Int) ≤ ((0 : Nat) : Int) - 1) = False:= eq_false (by omega)
   simp only [go_sem,f1,decide_false,iwn (b - a - 1) (by omega : ((b - a : Nat) : Int) - 1 = ((b - a - 1 : Nat) : Int)) (by omega)]
   refine aw_loop (fun m E => ∃ (k : Nat) (y : Array Int),y.size = d.size ∧ k ≤ m ∧ k ≤ b - a ∧ heapPop ltInt a k y = heapPop ltInt a (b - a) x ∧
    E = mkE [(0,dS d.size cap),(6,iI a),(7,iI 0),(10,iI ((k : Int) - 1))] [(100000,dC y tl)]) (b - a) ?_ ?_
   ·refine ⟨b - a,x,hsz,Nat.le_refl _,Nat.le_refl _,rfl,?_⟩
    simp only [go_sem,show ((b - a : Nat) : Int) - 1 = ((b - a - 1 : Nat) : Int) by omega]
   ·rintro m _ ⟨k,y,hy,hm,hk,hr,rfl⟩
    cases k with
    | zero =>
     have e : y = heapPop ltInt a (b - a) x:= by rw [← hr]; rfl
     rw [← e]
     have f1 : ((0 : Int) ≤ ((0 : Nat) : Int) - 1) = False:= eq_false (by omega)
     simp only [go_sem,f1,decide_false,endM_n,endM_r,retC_dC ht,and_self]
    | succ k =>
     have e1 : ((k + 1 : Nat) : Int) - 1 = (k : Int):= by omega
     have f1 : ((0 : Int) ≤ (k : Int)) = True:= eq_true (by omega)
     have w4:= iwn (a + k) (by omega : (a : Int) + (k : Int) = ((a + k : Nat) : Int)) (by omega)
     obtain ⟨g1,g2,l1,s1,l2,s2⟩:= swp_cells tl (show a < y.size by omega) (show a + k < y.size by omega)
     have b1 : (a : Int) < (d.size : Int):= by omega
     have b2 : ((a + k : Nat) : Int) < (d.size : Int):= by omega
     have hC:= C_siftDown (lo:= 0) (hi:= k) (first:= a) (cap:= cap) (d:= swp y a (a + k)) ht (by rw [swp_size]; omega) (by rw [swp_size]; omega) (by omega)
     rw [swp_size,hy] at hC
     simp only [go_sem,e1,f1,w4,b1,b2,g1,g2,l1,s1,l2,s2,decide_true,Int.natCast_nonneg,Int.toNat_natCast,Nat.zero_add,Nat.mul_one,swp_def]
     refine callD_of ht rfl hC ?_
     simp only [go_sem,iw ((k : Int) - 1) (by omega) (by omega)]
     exact ⟨m - 1,by omega,k,_,by rw [siftDown_size _ _ _ _ _ (Nat.le_refl _),swp_size,hy],by omega,by omega,hr,rfl⟩
end Go.Proofs.YtjceingdmfogeaaGreatDoor.VL
end

section
set_option maxHeartbeats 4000000
namespace Go.Proofs.YtjceingdmfogeaaGreatDoor.VL
open Go.RowKit Go.Proofs Go.Sort
abbrev sC (d : Array Int) (tl : List AV) (sw : Nat) : List (Nat × List AV):= [(100000,dC d tl),(100001,[iI sw])]
abbrev SM : List (Nat × Nat):= [(100000,100000),(100001,100001)]
theorem retC_sC {s : List (Nat × AV)} {d : Array Int} {tl : List AV} (ht : Tl tl) (sw : Nat) : retC (mkE s (sC d tl sw)) [100000,100001] = some (sC d tl sw):= by
 have e : ∀ C,retv C false 8 (iI sw) = some (iI sw):= fun _ => rfl
 simp only [retC,mapO_cons,mapO_nil,mkE_c,getC_cons,↓reduceIte,ret_dC _ d ht,catO_some,show ((100001 : Nat) = 100000) = False from by simp,e]
theorem back_sC (s : List (Nat × AV)) (x y : List AV) (p q : List AV) : backC SM [(100000,y),(100001,q)] (mkE s [(100000,x),(100001,p)]) = mkE s [(100000,y),(100001,q)]:= by
 simp only [backC,mkE]
 congr 1
 funext c
 by_cases h : c = 100000
 ·subst h; rfl
 ·by_cases h2 : c = 100001
  ·subst h2; rfl
  ·simp [lentAs,getC,h,h2]
theorem callS_of {P : Program} {dst : Option Nat} {os : List AOper} {s : List (Nat × AV)} {K : Env → Prop} {f : FuncId} {raw al : List AV} {args : Option (List AV)} {r : AV} {d : Array Int} {tl : List AV} {sw sw' : Nat} (ht : Tl tl)
  (hl : mapO (lowerM SM (getC (sC d tl sw)) 8) raw = some al) (h : AM P f al (sC d tl sw) r (sC d tl sw'))
  (hk : awX false P os ((mkE s (sC d tl sw')).putO dst (retag (dst.getD 0) (unlend SM r))) K) : callX false P dst os s (sC d tl sw) K f raw args:= by
 refine callM_of SM rfl hl ?_ h ?_
 ·have e : closeV (iI sw) = some (iI sw):= rfl
  show mapO _ SM = _
  simp only [SM,mapO_cons,mapO_nil,getC_cons,↓reduceIte,close_dC d ht,catO_some,show ((100001 : Nat) = 100000) = False from by simp,e]
 ·rw [back_sC]
  exact hk
theorem C_order2 {d : Array Int} {a b sw cap : Nat} {tl : List AV} (ht : Tl tl) (ha : a < d.size) (hb : b < d.size) (hsw : sw ≤ 1000) :
  AM Tryz.prog f_q122 [dS d.size cap,iI a,iI b,.lp 100001 0] (sC d tl sw) (.tup [iI (order2 ltInt d a b sw).1,iI (order2 ltInt d a b sw).2.1]) (sC d tl (order2 ltInt d a b sw).2.2):= by
 refine am_q122 ?_ (by simp) (Nat.le_add_left 4 _)
 have b1 : (a : Int) < (d.size : Int):= by omega
 have b2 : (b : Int) < (d.size : Int):= by omega
 simp only [go_sem,env0M_mk,c_q122,List.map_cons,List.map_nil,b1,b2,dC_ld tl ha,dC_ld tl hb,Int.natCast_nonneg,Int.toNat_natCast,Nat.zero_add,Nat.mul_one]
 refine callX_of (C_Less d[b]! d[a]!) ?_
 cases h : ltInt d[b]! d[a]! with
 | true =>
  have e : order2 ltInt d a b sw = (b,a,sw + 1):= by rw [order2,if_pos h]
  have r1:= retC_sC (s:= [(0,dS d.size cap),(1,iI a),(2,iI b),(3,.lp 100001 0),(8,iI b),(9,iI a)]) (d:= d) ht (sw + 1)
  simp only [go_sem,e,iwn (sw + 1) (by omega : (sw : Int) + 1 = ((sw + 1 : Nat) : Int)) (by omega),endM_n,endM_r]
  exact retC_sC ht (sw + 1)
 | false =>
  have e : order2 ltInt d a b sw = (a,b,sw):= by rw [order2,if_neg (by simp [h])]
  simp only [go_sem,e,endM_n,endM_r]
  exact retC_sC ht sw
theorem order2_lt {d : Array Int} {a b n : Nat} (sw : Nat) (ha : a < n) (hb : b < n) : (order2 ltInt d a b sw).1 < n ∧ (order2 ltInt d a b sw).2.1 < n ∧ (order2 ltInt d a b sw).2.2 ≤ sw + 1:= by
 rw [order2]
 split
 ·exact ⟨hb,ha,Nat.le_refl _⟩
 ·exact ⟨ha,hb,Nat.le_succ _⟩
theorem C_median {d : Array Int} {a b c sw cap : Nat} {tl : List AV} (ht : Tl tl) (ha : a < d.size) (hb : b < d.size) (hc : c < d.size) (hsw : sw ≤ 900) :
  AM Tryz.prog f_q116 [dS d.size cap,iI a,iI b,iI c,.lp 100001 0] (sC d tl sw) (iI (median ltInt d a b c sw).1) (sC d tl (median ltInt d a b c sw).2):= by
 refine am_q116 ?_ (by simp) (Nat.le_add_left 5 _)
 obtain ⟨h1,h2,h3⟩:= order2_lt (d:= d) sw ha hb
 have c1:= C_order2 (cap:= cap) ht ha hb (show sw ≤ 1000 by omega)
 generalize e1 : order2 ltInt d a b sw = r1 at h1 h2 h3 c1
 obtain ⟨h4,h5,h6⟩:= order2_lt (d:= d) r1.2.2 h2 hc
 have c2:= C_order2 (cap:= cap) ht h2 hc (show r1.2.2 ≤ 1000 by omega)
 generalize e2 : order2 ltInt d r1.2.1 c r1.2.2 = r2 at h4 h5 h6 c2
 have c3:= C_order2 (cap:= cap) ht h1 h4 (show r2.2.2 ≤ 1000 by omega)
 have em : median ltInt d a b c sw = ((order2 ltInt d r1.1 r2.1 r2.2.2).2.1,(order2 ltInt d r1.1 r2.1 r2.2.2).2.2):= by
  rw [median,e1,e2]
 rw [em]
 generalize order2 ltInt d r1.1 r2.1 r2.2.2 = r3 at c3
 simp only [go_sem,env0M_mk,c_q116,List.map_cons,List.map_nil]
 refine callS_of ht rfl c1 ?_
 simp only [go_sem]
 refine callS_of ht rfl c2 ?_
 simp only [go_sem]
 refine callS_of ht rfl c3 ?_
 simp only [go_sem,endM_n,endM_r]
 exact retC_sC ht _
theorem median_lt {d : Array Int} {a b c n : Nat} (sw : Nat) (ha : a < n) (hb : b < n) (hc : c < n) : (median ltInt d a b c sw).1 < n ∧ (median ltInt d a b c sw).2 ≤ sw + 3:= by
 obtain ⟨h1,h2,h3⟩:= order2_lt (d:= d) sw ha hb
 obtain ⟨h4,h5,h6⟩:= order2_lt (d:= d) (order2 ltInt d a b sw).2.2 h2 hc
 obtain ⟨h7,h8,h9⟩:= order2_lt (d:= d) (order2 ltInt d (order2 ltInt d a b sw).2.1 c (order2 ltInt d a b sw).2.2).2.2 h1 h4
 simp only [median]
 exact ⟨h8,by omega⟩
theorem C_medianAdjacent {d : Array Int} {a sw cap : Nat} {tl : List AV} (ht : Tl tl) (h0 : 1 ≤ a) (ha : a + 1 < d.size) (hd : d.size ≤ 255) (hsw : sw ≤ 900) :
  AM Tryz.prog f_q115 [dS d.size cap,iI a,.lp 100001 0] (sC d tl sw) (iI (medianAdjacent ltInt d a sw).1) (sC d tl (medianAdjacent ltInt d a sw).2):= by
 refine am_q115 ?_ (by simp) (Nat.le_add_left 3 _)
 simp only [go_sem,env0M_mk,c_q115,List.map_cons,List.map_nil,iwn (a - 1) (by omega : (a : Int) - 1 = ((a - 1 : Nat) : Int)) (by omega),iwn (a + 1) (by omega : (a : Int) + 1 = ((a + 1 : Nat) : Int)) (by omega)]
 refine callS_of ht rfl (C_median (cap:= cap) (a:= a - 1) (b:= a) (c:= a + 1) ht (by omega) (by omega) (by omega) hsw) ?_
 simp only [go_sem,endM_n,endM_r]
 exact ⟨rfl,retC_sC ht _⟩
def hintI : Hint → Int
 | .unknown => 0
 | .increasing => 1
 | .decreasing => 2
abbrev PM : List (Nat × Nat):= [(100000,100000),(9,100001)]
theorem back_pC (s : List (Nat × AV)) (x y : List AV) (p q : List AV) : backC PM [(100000,y),(100001,q)] (mkE s [(9,p),(100000,x)]) = mkE s [(9,q),(100000,y)]:= by
 simp only [backC,mkE]
 congr 1
 funext c
 by_cases h : c = 100000
 ·subst h; rfl
 ·by_cases h2 : c = 9
  ·subst h2; rfl
  ·simp [lentAs,getC,h,h2]
theorem callP_of {P : Program} {dst : Option Nat} {os : List AOper} {s : List (Nat × AV)} {K : Env → Prop} {f : FuncId} {raw al : List AV} {args : Option (List AV)} {r : AV} {d : Array Int} {tl : List AV} {sw sw' : Nat} (ht : Tl tl)
  (hl : mapO (lowerM PM (getC [(9,[iI sw]),(100000,dC d tl)]) 8) raw = some al) (h : AM P f al (sC d tl sw) r (sC d tl sw'))
  (hk : awX false P os ((mkE s [(9,[iI sw']),(100000,dC d tl)]).putO dst (retag (dst.getD 0) (unlend PM r))) K) : callX false P dst os s [(9,[iI sw]),(100000,dC d tl)] K f raw args:= by
 refine callM_of PM rfl hl ?_ h ?_
 ·have e : closeV (iI sw) = some (iI sw):= rfl
  show mapO _ PM = _
  simp only [PM,mapO_cons,mapO_nil,getC_cons,↓reduceIte,close_dC d ht,catO_some,show ((100000 : Nat) = 9) = False from by simp,e]
 ·rw [back_pC]
  exact hk
theorem retC_pC {s : List (Nat × AV)} {d : Array Int} {tl : List AV} (ht : Tl tl) (x : List AV) : retC (mkE s [(9,x),(100000,dC d tl)]) [100000] = some [(100000,dC d tl)]:= by
 simp only [retC,mapO_cons,mapO_nil,mkE_c,getC_cons,↓reduceIte,ret_dC _ d ht,catO_some,show ((100000 : Nat) = 9) = False from by simp]
theorem C_choosePivot {d : Array Int} {a b cap : Nat} {tl : List AV} (ht : Tl tl) (hab : a + 12 < b) (hb : b ≤ d.size) (hd : d.size ≤ 255) :
  AM Tryz.prog f_q87 [dS d.size cap,iI a,iI b] [(100000,dC d tl)] (.tup [iI (choosePivot ltInt d a b).1,.lit (.int .i64 (hintI (choosePivot ltInt d a b).2))]) [(100000,dC d tl)]:= by
 refine am_q87 ?_ (by simp) (Nat.le_add_left 3 _)
 have wl:= iwn (b - a) (by omega : (b : Int) - (a : Int) = ((b - a : Nat) : Int)) (by omega)
 have wq : ((b - a : Nat) : Int).tdiv 4 = (((b - a) / 4 : Nat) : Int):= by
  rw [Int.tdiv_eq_ediv_of_nonneg (by omega)]
  omega
 have w2 : IntKind.i64.wrap (((b - a) / 4 : Nat) : Int) = (((b - a) / 4 : Nat) : Int):= iwn _ rfl (by omega)
 generalize hl : (b - a) / 4 = q at wq w2
 have hq : 3 ≤ q ∧ q ≤ 63 ∧ a + q * 4 ≤ b:= by omega
 have m1:= iwn (q * 1) (by omega : (q : Int) * 1 = ((q * 1 : Nat) : Int)) (by omega)
 have m2:= iwn (q * 2) (by omega : (q : Int) * 2 = ((q * 2 : Nat) : Int)) (by omega)
 have m3:= iwn (q * 3) (by omega : (q : Int) * 3 = ((q * 3 : Nat) : Int)) (by omega)
 have a1:= iwn (a + q * 1) (by omega : (a : Int) + ((q * 1 : Nat) : Int) = ((a + q * 1 : Nat) : Int)) (by omega)
 have a2:= iwn (a + q * 2) (by omega : (a : Int) + ((q * 2 : Nat) : Int) = ((a + q * 2 : Nat) : Int)) (by omega)
 have a3:= iwn (a + q * 3) (by omega : (a : Int) + ((q * 3 : Nat) : Int) = ((a + q * 3 : Nat) : Int)) (by omega)
 have g1 : ((8 : Int) ≤ ((b - a : Nat) : Int)) = True:= eq_true (by omega)
 simp only [go_sem,env0M_mk,c_q87,List.map_cons,List.map_nil,wl,wq,w2,m1,m2,m3,a1,a2,a3,g1,decide_true,show ((4 : Int) == 0) = false from rfl]
 have fin : ∀ (p sw : Nat),choosePivot ltInt d a b = (p,if sw = 0 then .increasing else if sw = 12 then .decreasing else .unknown) →
   (sw = 0 ∧ choosePivot ltInt d a b = (p,.increasing)) ∨ (sw ≠ 0 ∧ sw = 12 ∧ choosePivot ltInt d a b = (p,.decreasing)) ∨ (sw ≠ 0 ∧ sw ≠ 12 ∧ choosePivot ltInt d a b = (p,.unknown)):= by
  intro p sw e
  by_cases h : sw = 0
  ·exact .inl ⟨h,by rw [e,if_pos h]⟩
  ·by_cases h2 : sw = 12
   ·exact .inr (.inl ⟨h,h2,by rw [e,if_neg h,if_pos h2]⟩)
   ·exact .inr (.inr ⟨h,h2,by rw [e,if_neg h,if_neg h2]⟩)
 by_cases h50 : 50 ≤ b - a
 ·have g2 : ((50 : Int) ≤ ((b - a : Nat) : Int)) = True:= eq_true (by omega)
  have k1:= C_medianAdjacent (d:= d) (cap:= cap) (a:= a + q * 1) (sw:= 0) ht (by omega) (by omega) hd (by omega)
  have n1:= median_lt (d:= d) (a:= a + q * 1 - 1) (b:= a + q * 1) (c:= a + q * 1 + 1) (n:= d.size) 0 (by omega) (by omega) (by omega)
  rw [show median ltInt d (a + q * 1 - 1) (a + q * 1) (a + q * 1 + 1) 0 = medianAdjacent ltInt d (a + q * 1) 0 from rfl] at n1
  generalize e1 : medianAdjacent ltInt d (a + q * 1) 0 = ri at k1 n1
  have k2:= C_medianAdjacent (d:= d) (cap:= cap) (a:= a + q * 2) (sw:= ri.2) ht (by omega) (by omega) hd (by omega)
  have n2:= median_lt (d:= d) (a:= a + q * 2 - 1) (b:= a + q * 2) (c:= a + q * 2 + 1) (n:= d.size) ri.2 (by omega) (by omega) (by omega)
  rw [show median ltInt d (a + q * 2 - 1) (a + q * 2) (a + q * 2 + 1) ri.2 = medianAdjacent ltInt d (a + q * 2) ri.2 from rfl] at n2
  generalize e2 : medianAdjacent ltInt d (a + q * 2) ri.2 = rj at k2 n2
  have k3:= C_medianAdjacent (d:= d) (cap:= cap) (a:= a + q * 3) (sw:= rj.2) ht (by omega) (by omega) hd (by omega)
  have n3:= median_lt (d:= d) (a:= a + q * 3 - 1) (b:= a + q * 3) (c:= a + q * 3 + 1) (n:= d.size) rj.2 (by omega) (by omega) (by omega)
  rw [show median ltInt d (a + q * 3 - 1) (a + q * 3) (a + q * 3 + 1) rj.2 = medianAdjacent ltInt d (a + q * 3) rj.2 from rfl] at n3
  generalize e3 : medianAdjacent ltInt d (a + q * 3) rj.2 = rk at k3 n3
  have k4:= C_median (d:= d) (cap:= cap) (a:= ri.1) (b:= rj.1) (c:= rk.1) (sw:= rk.2) ht n1.1 n2.1 n3.1 (by omega)
  have hcp : choosePivot ltInt d a b = ((median ltInt d ri.1 rj.1 rk.1 rk.2).1,if (median ltInt d ri.1 rj.1 rk.1 rk.2).2 = 0 then .increasing else if (median ltInt d ri.1 rj.1 rk.1 rk.2).2 = 12 then .decreasing else .unknown):= by
   simp only [choosePivot,hl,e1,e2,e3]
   rw [if_pos (by omega),if_pos (by omega)]
  generalize median ltInt d ri.1 rj.1 rk.1 rk.2 = r at k4 hcp
  simp only [go_sem,g2,decide_true]
  refine callP_of (sw:= 0) ht rfl k1 ?_
  simp only [go_sem]
  refine callP_of ht rfl k2 ?_
  simp only [go_sem]
  refine callP_of ht rfl k3 ?_
  simp only [go_sem]
  refine callP_of ht rfl k4 ?_
  rcases fin r.1 r.2 hcp with ⟨h,e⟩ | ⟨h,h2,e⟩ | ⟨h,h2,e⟩
  ·have f1 : (((r.2 : Nat) : Int) == 0) = true:= by simp [h]
   simp only [go_sem,f1,endM_n,endM_r,e,hintI,retC_pC ht,and_self]
  ·have f1 : (((r.2 : Nat) : Int) == 0) = false:= by simp [h]
   have f2 : (((r.2 : Nat) : Int) == 12) = true:= by simp [h2]
   simp only [go_sem,f1,f2,endM_n,endM_r,e,hintI,retC_pC ht,and_self]
  ·have f1 : (((r.2 : Nat) : Int) == 0) = false:= by simp [h]
   have f2 : (((r.2 : Nat) : Int) == 12) = false:= by simp; omega
   simp only [go_sem,f1,f2,endM_n,endM_r,e,hintI,retC_pC ht,and_self]
 ·have g2 : ((50 : Int) ≤ ((b - a : Nat) : Int)) = False:= eq_false (by omega)
  have k4:= C_median (d:= d) (cap:= cap) (a:= a + q * 1) (b:= a + q * 2) (c:= a + q * 3) (sw:= 0) ht (by omega) (by omega) (by omega) (by omega)
  have hcp : choosePivot ltInt d a b = ((median ltInt d (a + q * 1) (a + q * 2) (a + q * 3) 0).1,if (median ltInt d (a + q * 1) (a + q * 2) (a + q * 3) 0).2 = 0 then .increasing else if (median ltInt d (a + q * 1) (a + q * 2) (a + q * 3) 0).2 = 12 then .decreasing else .unknown):= by
   simp only [choosePivot,hl]
   rw [if_pos (by omega),if_neg (by omega)]
  generalize median ltInt d (a + q * 1) (a + q * 2) (a + q * 3) 0 = r at k4 hcp
  simp only [go_sem,g2,decide_false]
  refine callP_of (sw:= 0) ht rfl k4 ?_
  rcases fin r.1 r.2 hcp with ⟨h,e⟩ | ⟨h,h2,e⟩ | ⟨h,h2,e⟩
  ·have f1 : (((r.2 : Nat) : Int) == 0) = true:= by simp [h]
   simp only [go_sem,f1,endM_n,endM_r,e,hintI,retC_pC ht,and_self]
  ·have f1 : (((r.2 : Nat) : Int) == 0) = false:= by simp [h]
   have f2 : (((r.2 : Nat) : Int) == 12) = true:= by simp [h2]
   simp only [go_sem,f1,f2,endM_n,endM_r,e,hintI,retC_pC ht,and_self]
  ·have f1 : (((r.2 : Nat) : Int) == 0) = false:= by simp [h]
   have f2 : (((r.2 : Nat) : Int) == 12) = false:= by simp; omega
   simp only [go_sem,f1,f2,endM_n,endM_r,e,hintI,retC_pC ht,and_self]
end Go.Proofs.YtjceingdmfogeaaGreatDoor.VL
end

section
set_option maxHeartbeats 4000000
namespace Go.Proofs.YtjceingdmfogeaaGreatDoor.VL
open Go.RowKit Go.Proofs Go.Sort
set_option maxRecDepth 100000 in
theorem lenTab : ∀ n,n < 256 → ((⟨#[0,1,2,2,3,3,3,3,4,4,4,4,4,4,4,4,5,5,5,5,5,5,5,5,5,5,5,5,5,5,5,5,6,6,6,6,6,6,6,6,6,6,6,6,6,6,6,6,6,6,6,6,6,6,6,6,6,6,6,6,6,6,6,6,7,7,7,7,7,7,7,7,7,7,7,7,7,7,7,7,7,7,7,7,7,7,7,7,7,7,7,7,7,7,7,7,7,7,7,7,7,7,7,7,7,7,7,7,7,7,7,7,7,7,7,7,7,7,7,7,7,7,7,7,7,7,7,7,8,8,8,8,8,8,8,8,8,8,8,8,8,8,8,8,8,8,8,8,8,8,8,8,8,8,8,8,8,8,8,8,8,8,8,8,8,8,8,8,8,8,8,8,8,8,8,8,8,8,8,8,8,8,8,8,8,8,8,8,8,8,8,8,8,8,8,8,8,8,8,8,8,8,8,8,8,8,8,8,8,8,8,8,8,8,8,8,8,8,8,8,8,8,8,8,8,8,8,8,8,8,8,8,8,8,8,8,8,8,8,8,8,8,8,8,8,8,8,8,8,8,8,8,8,8,8,8]⟩ : ByteArray)[n]?).map UInt8.toNat = some (bitsLen n):= by decide +kernel
set_option maxRecDepth 100000 in
theorem lenAt (n : Nat) (h : n < 256) : avIxs (.lit (.string ⟨#[0,1,2,2,3,3,3,3,4,4,4,4,4,4,4,4,5,5,5,5,5,5,5,5,5,5,5,5,5,5,5,5,6,6,6,6,6,6,6,6,6,6,6,6,6,6,6,6,6,6,6,6,6,6,6,6,6,6,6,6,6,6,6,6,7,7,7,7,7,7,7,7,7,7,7,7,7,7,7,7,7,7,7,7,7,7,7,7,7,7,7,7,7,7,7,7,7,7,7,7,7,7,7,7,7,7,7,7,7,7,7,7,7,7,7,7,7,7,7,7,7,7,7,7,7,7,7,7,8,8,8,8,8,8,8,8,8,8,8,8,8,8,8,8,8,8,8,8,8,8,8,8,8,8,8,8,8,8,8,8,8,8,8,8,8,8,8,8,8,8,8,8,8,8,8,8,8,8,8,8,8,8,8,8,8,8,8,8,8,8,8,8,8,8,8,8,8,8,8,8,8,8,8,8,8,8,8,8,8,8,8,8,8,8,8,8,8,8,8,8,8,8,8,8,8,8,8,8,8,8,8,8,8,8,8,8,8,8,8,8,8,8,8,8,8,8,8,8,8,8,8,8,8,8,8,8]⟩)) (.lit (.int .u8 n)) = some (.lit (.int .u8 (bitsLen n : Nat))):= by
 have hs : n < (⟨#[0,1,2,2,3,3,3,3,4,4,4,4,4,4,4,4,5,5,5,5,5,5,5,5,5,5,5,5,5,5,5,5,6,6,6,6,6,6,6,6,6,6,6,6,6,6,6,6,6,6,6,6,6,6,6,6,6,6,6,6,6,6,6,6,7,7,7,7,7,7,7,7,7,7,7,7,7,7,7,7,7,7,7,7,7,7,7,7,7,7,7,7,7,7,7,7,7,7,7,7,7,7,7,7,7,7,7,7,7,7,7,7,7,7,7,7,7,7,7,7,7,7,7,7,7,7,7,7,8,8,8,8,8,8,8,8,8,8,8,8,8,8,8,8,8,8,8,8,8,8,8,8,8,8,8,8,8,8,8,8,8,8,8,8,8,8,8,8,8,8,8,8,8,8,8,8,8,8,8,8,8,8,8,8,8,8,8,8,8,8,8,8,8,8,8,8,8,8,8,8,8,8,8,8,8,8,8,8,8,8,8,8,8,8,8,8,8,8,8,8,8,8,8,8,8,8,8,8,8,8,8,8,8,8,8,8,8,8,8,8,8,8,8,8,8,8,8,8,8,8,8,8,8,8,8,8]⟩ : ByteArray).size:= h
 rw [avIxs_at _ _ _ hs]
 have e:= lenTab n h
 rw [getElem?_pos _ n hs] at e
 simp only [Option.map_some,Option.some.injEq] at e
 rw [e]
theorem bitsLen_le8 {n : Nat} (h : n < 256) : bitsLen n ≤ 8:= (bitsLen_le_iff n 8).2 h
set_option maxRecDepth 100000 in
theorem C_Len64 {n : Nat} (h : n < 256) : AC Tryz.prog f_q94 [.lit (.int .u64 n)] (iI (bitsLen n : Nat)):= by
 refine ac_q94 ?_ (Nat.le_add_left 1 _)
 have f1 : ((4294967296 : Int) ≤ (n : Int)) = False:= eq_false (by omega)
 have f2 : ((65536 : Int) ≤ (n : Int)) = False:= eq_false (by omega)
 have f3 : ((256 : Int) ≤ (n : Int)) = False:= eq_false (by omega)
 have w1 : IntKind.u8.wrap (n : Int) = (n : Int):= by rw [IntKind.wrap_u8]; omega
 have hb:= bitsLen_le8 h
 have w2:= iwn (bitsLen n) rfl (by omega)
 simp only [go_sem,c_q94,f1,f2,f3,decide_false,w1,lenAt n h,w2,Int.zero_add]
theorem C_Len {n : Nat} (h : n < 256) : AC Tryz.prog f_q51 [.lit (.int .u64 n)] (iI (bitsLen n : Nat)):= by
 refine ac_q51 ?_ (Nat.le_add_left 1 _)
 simp only [go_sem,c_q51]
 refine callX_of (C_Len64 h) ?_
 simp only [go_sem]
theorem C_nextPow {n : Nat} (h : n < 256) : AC Tryz.prog f_q113 [iI n] (.lit (.int .u64 (1 <<< bitsLen n : Nat))):= by
 refine ac_q113 ?_ (Nat.le_add_left 1 _)
 have w1 : IntKind.u64.wrap (n : Int) = (n : Int):= by rw [IntKind.wrap_u64]; omega
 have hb:= bitsLen_le8 h
 have hp : (2 : Nat) ^ bitsLen n ≤ 2 ^ 8:= Nat.pow_le_pow_right (by decide) hb
 simp only [go_sem,c_q113,w1]
 refine callX_of (C_Len h) ?_
 have e : avBin .shl 49 (.lit (.int .u64 1)) (.lit (.int .i64 (bitsLen n : Nat))) = some (.lit (.int .u64 (1 <<< bitsLen n : Nat))):= by
  rw [avBin_shl _ _ _ _ _ (by omega) (by show ((bitsLen n : Nat) : Int) ≤ 64; omega),IntKind.wrap_u64,Nat.one_shiftLeft,Int.toNat_natCast,Int.one_mul,show ((2 : Int) ^ bitsLen n) = ((2 ^ bitsLen n : Nat) : Int) by push_cast; rfl]
  generalize (2 : Nat) ^ bitsLen n = p at hp
  congr 3
  omega
 simp only [go_sem,e]
theorem C_Next {X : Nat} (hX : X < 18446744073709551616) : AM Tryz.prog f_q114 [.lp 100000 0] [(100000,[.lit (.int .u64 X)])] (.lit (.int .u64 (xorNextN X : Nat))) [(100000,[.lit (.int .u64 (xorNextN X : Nat))])]:= by
 refine am_q114 ?_ (by simp) (Nat.le_add_left 1 _)
 obtain ⟨A,hA⟩ : ∃ A : Nat,A = X ^^^ (X * 8192 % 18446744073709551616):= ⟨_,rfl⟩
 obtain ⟨B,hB⟩ : ∃ B : Nat,B = A ^^^ (A / 128):= ⟨_,rfl⟩
 obtain ⟨C,hC⟩ : ∃ C : Nat,C = B ^^^ (B * 131072 % 18446744073709551616):= ⟨_,rfl⟩
 have lA : A < 18446744073709551616:= by rw [hA]; exact Nat.xor_lt_two_pow (n:= 64) (by omega) (by omega)
 have lB : B < 18446744073709551616:= by rw [hB]; exact Nat.xor_lt_two_pow (n:= 64) (by omega) (by omega)
 have e1 : bits .xor .u64 (X : Int) ((X * 8192 % 18446744073709551616 : Nat) : Int) = (A : Int):= by
  rw [bits_xor_u64_nat _ _ hX (by omega),hA]
 have e2 : bits .xor .u64 (A : Int) ((A / 128 : Nat) : Int) = (B : Int):= by
  rw [bits_xor_u64_nat _ _ lA (by omega),hB]
 have e3 : bits .xor .u64 (B : Int) ((B * 131072 % 18446744073709551616 : Nat) : Int) = (C : Int):= by
  rw [bits_xor_u64_nat _ _ lB (by omega),hC]
 have s1 : avBin .shl 169 (.lit (.int .u64 X)) (.lit (.int .u64 13)) = some (.lit (.int .u64 (X * 8192 % 18446744073709551616 : Nat))):= by
  rw [avBin_shl _ _ _ _ _ (by decide) (by decide),IntKind.wrap_u64]
  congr 3
 have s2 : avBin .shr 169 (.lit (.int .u64 A)) (.lit (.int .u64 7)) = some (.lit (.int .u64 (A / 128 : Nat))):= by
  rw [avBin_shr _ _ _ _ _ (by decide) (by decide)]
  congr 3
 have s3 : avBin .shl 169 (.lit (.int .u64 B)) (.lit (.int .u64 17)) = some (.lit (.int .u64 (B * 131072 % 18446744073709551616 : Nat))):= by
  rw [avBin_shl _ _ _ _ _ (by decide) (by decide),IntKind.wrap_u64]
  congr 3
 have hv : xorNextN X = C:= by unfold xorNextN; simp only []; rw [← hA,← hB,← hC]
 rw [hv]
 clear hA hB hC hv
 simp only [go_sem,env0M_mk,c_q114,List.map_cons,List.map_nil,s1,s2,s3,avBin_xor,e1,e2,e3,endM_n,endM_r]
 rfl
def bpR (a L M i0 : Nat) : Nat → Nat → UInt64 × Array Int → Array Int
 | 0,_,st => st.2
 | k + 1,t,st => bpR a L M i0 k (t + 1) (breakStep a L M st (i0 + t))
theorem bpR_eq (d : Array Int) (a b : Nat) (h8 : 8 ≤ b - a) : breakPatterns d a b = bpR a (b - a) (1 <<< bitsLen (b - a)) (a + (b - a) / 4 * 2 - 1) 3 0 (UInt64.ofNat (b - a),d):= by
 unfold breakPatterns
 simp only []
 rw [if_pos h8]
 rfl
theorem bpR_step (a L M i0 t : Nat) (r : UInt64) (d : Array Int) (o : Nat) (ht : t < 3) (ho : (if (xorNext r).toNat &&& (M - 1) ≥ L then ((xorNext r).toNat &&& (M - 1)) - L else (xorNext r).toNat &&& (M - 1)) = o) :
  bpR a L M i0 (3 - t) t (r,d) = bpR a L M i0 (3 - (t + 1)) (t + 1) (xorNext r,swp d (i0 + t) (a + o)):= by
 rw [show 3 - t = (3 - (t + 1)) + 1 by omega,bpR]
 unfold breakStep
 simp only [ho]
abbrev uU (n : Nat) : AV:= .lit (.int .u64 n)
theorem back_7 (s : List (Nat × AV)) (x y : List AV) (q : List AV) : backC [(7,100000)] [(100000,q)] (mkE s [(7,x),(100000,y)]) = mkE s [(7,q),(100000,y)]:= by
 simp only [backC,mkE]
 congr 1
 funext c
 by_cases h2 : c = 7
 ·subst h2; rfl
 ·by_cases h : c = 100000
  ·subst h; rfl
  ·simp [lentAs,getC,h,h2]
theorem call7_of {P : Program} {dst : Option Nat} {os : List AOper} {s : List (Nat × AV)} {K : Env → Prop} {f : FuncId} {raw al : List AV} {args : Option (List AV)} {r : AV} {y : List AV} {n n' : Nat}
  (hl : mapO (lowerM [(7,100000)] (getC [(7,[uU n]),(100000,y)]) 8) raw = some al) (h : AM P f al [(100000,[uU n])] r [(100000,[uU n'])])
  (hk : awX false P os ((mkE s [(7,[uU n']),(100000,y)]).putO dst (retag (dst.getD 0) (unlend [(7,100000)] r))) K) : callX false P dst os s [(7,[uU n]),(100000,y)] K f raw args:= by
 refine callM_of [(7,100000)] rfl hl rfl h ?_
 rw [back_7]
 exact hk
theorem retC_7 {s : List (Nat × AV)} {d : Array Int} {tl : List AV} (ht : Tl tl) (x : List AV) : retC (mkE s [(7,x),(100000,dC d tl)]) [100000] = some [(100000,dC d tl)]:= by
 simp only [retC,mapO_cons,mapO_nil,mkE_c,getC_cons,↓reduceIte,ret_dC _ d ht,catO_some,show ((100000 : Nat) = 7) = False from by simp]
theorem C_breakPatterns {d : Array Int} {a b cap : Nat} {tl : List AV} (ht : Tl tl) (hab : a + 12 < b) (hb : b ≤ d.size) (hd : d.size ≤ 255) :
  AM Tryz.prog f_q86 [dS d.size cap,iI a,iI b] [(100000,dC d tl)] (.tup []) [(100000,dC (breakPatterns d a b) tl)]:= by
 refine am_q86 ?_ (by simp) (Nat.le_add_left 3 _)
 rw [bpR_eq d a b (by omega)]
 have wl:= iwn (b - a) (by omega : (b : Int) - (a : Int) = ((b - a : Nat) : Int)) (by omega)
 generalize hL : b - a = L at wl
 have hNP:= C_nextPow (n:= L) (by omega)
 have hM2 : 1 <<< bitsLen L ≤ 2 * L:= by rw [Nat.one_shiftLeft]; exact two_pow_bitsLen_le (by omega)
 have hM1 : 1 ≤ 1 <<< bitsLen L:= by rw [Nat.one_shiftLeft]; exact Nat.two_pow_pos _
 generalize 1 <<< bitsLen L = M at hNP hM1 hM2
 have wq : (L : Int).tdiv 4 = ((L / 4 : Nat) : Int):= by
  rw [Int.tdiv_eq_ediv_of_nonneg (by omega)]
  omega
 have w2:= iwn (L / 4) rfl (by omega)
 have hq : 3 ≤ L / 4 ∧ L / 4 * 4 ≤ L:= by omega
 generalize L / 4 = q at wq w2 hq
 have m2:= iwn (q * 2) (by omega : (q : Int) * 2 = ((q * 2 : Nat) : Int)) (by omega)
 have a2:= iwn (a + q * 2) (by omega : (a : Int) + ((q * 2 : Nat) : Int) = ((a + q * 2 : Nat) : Int)) (by omega)
 have a3:= iwn (a + q * 2 - 1) (by omega : ((a + q * 2 : Nat) : Int) - 1 = ((a + q * 2 - 1 : Nat) : Int)) (by omega)
 have a4:= iwn (a + q * 2 + 1) (by omega : ((a + q * 2 : Nat) : Int) + 1 = ((a + q * 2 + 1 : Nat) : Int)) (by omega)
 have g1 : ((8 : Int) ≤ (L : Int)) = True:= eq_true (by omega)
 have wu : IntKind.u64.wrap (L : Int) = (L : Int):= by rw [IntKind.wrap_u64]; omega
 have wM : IntKind.u64.wrap ((M : Int) - 1) = ((M - 1 : Nat) : Int):= by rw [IntKind.wrap_u64]; omega
 simp only [go_sem,env0M_mk,c_q86,List.map_cons,List.map_nil,wl,g1,decide_true,wu]
 refine callX_of hNP ?_
 simp only [go_sem,wq,w2,m2,a2,a3,show ((4 : Int) == 0) = false from rfl]
 refine aw_loop (fun m E => ∃ (t : Nat) (r : UInt64) (x : Array Int),x.size = d.size ∧ t ≤ 3 ∧ 3 - t ≤ m ∧ bpR a L M (a + q * 2 - 1) (3 - t) t (r,x) = bpR a L M (a + q * 2 - 1) 3 0 (UInt64.ofNat L,d) ∧
  E = mkE [(0,dS d.size cap),(1,iI a),(6,iI L),(7,.lp 7 0),(8,uU M),(9,iI (a + q * 2 - 1 + t : Nat))] [(7,[uU r.toNat]),(100000,dC x tl)]) 3 ?_ ?_
 ·refine ⟨0,UInt64.ofNat L,d,rfl,by omega,by omega,rfl,?_⟩
  have e : (UInt64.ofNat L).toNat = L:= by rw [UInt64.toNat_ofNat']; omega
  simp only [go_sem,e,Nat.add_zero]
 ·rintro m _ ⟨t,r,x,hx,ht3,hm,hr,rfl⟩
  by_cases h : t < 3
  ·have f1 : (((a + q * 2 - 1 + t : Nat) : Int) ≤ ((a + q * 2 + 1 : Nat) : Int)) = True:= eq_true (by omega)
   have hN:= C_Next (X:= r.toNat) r.toNat_lt
   rw [← xorNext_toNat] at hN
   have hxl:= (xorNext r).toNat_lt
   have e1 : bits .and .u64 ((xorNext r).toNat : Int) ((M - 1 : Nat) : Int) = (((xorNext r).toNat &&& (M - 1) : Nat) : Int):= bits_and_u64_nat _ _ hxl (by omega)
   have hbs:= bpR_step a L M (a + q * 2 - 1) t r x _ h rfl
   rw [hr] at hbs
   have hle : (xorNext r).toNat &&& (M - 1) ≤ M - 1:= Nat.and_le_right
   generalize (xorNext r).toNat &&& (M - 1) = o at e1 hle hbs
   have wo:= iwn o rfl (by omega)
   simp only [go_sem,wq,w2,m2,a2,a3,a4,f1,decide_true,show ((4 : Int) == 0) = false from rfl]
   refine call7_of rfl hN ?_
   simp only [go_sem,wM,e1,wo]
   have a5:= iwn (a + q * 2 - 1 + (t + 1)) (by omega : ((a + q * 2 - 1 + t : Nat) : Int) + 1 = ((a + q * 2 - 1 + (t + 1) : Nat) : Int)) (by omega)
   have bI : ((a + q * 2 - 1 + t : Nat) : Int) < (d.size : Int):= by omega
   by_cases ho : L ≤ o
   ·have f2 : ((L : Int) ≤ (o : Int)) = True:= eq_true (by omega)
    rw [if_pos ho] at hbs
    have w5:= iwn (o - L) (by omega : (o : Int) - (L : Int) = ((o - L : Nat) : Int)) (by omega)
    have w6:= iwn (a + (o - L)) (by omega : (a : Int) + ((o - L : Nat) : Int) = ((a + (o - L) : Nat) : Int)) (by omega)
    have bO : ((a + (o - L) : Nat) : Int) < (d.size : Int):= by omega
    obtain ⟨g3,g4,l1,s1,l2,s2⟩:= swp_cells tl (show a + q * 2 - 1 + t < x.size by omega) (show a + (o - L) < x.size by omega)
    simp only [go_sem,f2,decide_true,w5,w6,a5,bI,bO,g3,g4,l1,s1,l2,s2,Int.natCast_nonneg,Int.toNat_natCast,Nat.zero_add,Nat.mul_one,swp_def]
    exact ⟨m - 1,by omega,t + 1,xorNext r,_,by rw [swp_size,hx],by omega,by omega,hbs.symm,rfl⟩
   ·have f2 : ((L : Int) ≤ (o : Int)) = False:= eq_false (by omega)
    rw [if_neg ho] at hbs
    have w6:= iwn (a + o) (by omega : (a : Int) + (o : Int) = ((a + o : Nat) : Int)) (by omega)
    have bO : ((a + o : Nat) : Int) < (d.size : Int):= by omega
    obtain ⟨g3,g4,l1,s1,l2,s2⟩:= swp_cells tl (show a + q * 2 - 1 + t < x.size by omega) (show a + o < x.size by omega)
    simp only [go_sem,f2,decide_false,w6,a5,bI,bO,g3,g4,l1,s1,l2,s2,Int.natCast_nonneg,Int.toNat_natCast,Nat.zero_add,Nat.mul_one,swp_def]
    exact ⟨m - 1,by omega,t + 1,xorNext r,_,by rw [swp_size,hx],by omega,by omega,hbs.symm,rfl⟩
  ·have e : t = 3:= by omega
   subst e
   have f1 : (((a + q * 2 - 1 + 3 : Nat) : Int) ≤ ((a + q * 2 + 1 : Nat) : Int)) = False:= eq_false (by omega)
   have hr' : bpR a L M (a + q * 2 - 1) 3 0 (UInt64.ofNat L,d) = x:= by rw [← hr]; rfl
   simp only [go_sem,wq,w2,m2,a2,a3,a4,f1,decide_false,show ((4 : Int) == 0) = false from rfl,endM_n,endM_r,hr',retC_7 ht,and_self]
end Go.Proofs.YtjceingdmfogeaaGreatDoor.VL
end

