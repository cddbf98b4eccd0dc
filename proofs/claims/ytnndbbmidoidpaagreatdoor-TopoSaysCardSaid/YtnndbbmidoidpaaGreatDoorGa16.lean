import Derived.Test.YtnndbbmidoidpaaGreatDoorGa15
set_option linter.unusedVariables false
set_option linter.unusedSimpArgs false
section
set_option maxHeartbeats 4000000
namespace Go.Proofs.YtnndbbmidoidpaaGreatDoor.VL
open Go.RowKit Go.Proofs
def sameL {α : Type} (p : α → α → Bool) : List α → List α → Bool
 | [],[] => true
 | a :: l,b :: m => p a b && sameL p l m
 | _,_ => false
theorem sameL_len {α : Type} {p : α → α → Bool} : ∀ {l m : List α},l.length ≠ m.length → sameL p l m = false
 | [],[],h => absurd rfl h
 | [],_ :: _,_ => rfl
 | _ :: _,[],_ => rfl
 | a :: l,b :: m,h => by
  rw [sameL,sameL_len (fun e => h (by simp [e])),Bool.and_false]
theorem sameL_drop {α : Type} (p : α → α → Bool) {l m : List α} {k : Nat} {a b : α} (ha : l[k]? = some a) (hb : m[k]? = some b) : sameL p (l.drop k) (m.drop k) = (p a b && sameL p (l.drop (k + 1)) (m.drop (k + 1))):= by
 obtain ⟨h1,e1⟩:= List.getElem?_eq_some_iff.1 ha
 obtain ⟨h2,e2⟩:= List.getElem?_eq_some_iff.1 hb
 rw [List.drop_eq_getElem_cons h1,List.drop_eq_getElem_cons h2,e1,e2]
 rfl
theorem sameL_iff {α : Type} {p : α → α → Bool} (hp : ∀ a b,p a b = true ↔ a = b) : ∀ {l m : List α},sameL p l m = true ↔ l = m
 | [],[] => by simp [sameL]
 | [],_ :: _ => by simp [sameL]
 | _ :: _,[] => by simp [sameL]
 | a :: l,b :: m => by
  rw [sameL,Bool.and_eq_true,hp,sameL_iff hp]
  simp
theorem str_iff (a b : ByteArray) : (a.toList == b.toList) = true ↔ a = b:= by
 rw [beq_iff_eq]
 constructor
 ·intro h
  have : a.data.toList = b.data.toList:= by rw [← ByteArray.toList_eq,← ByteArray.toList_eq] at *; exact h
  cases a; cases b
  simp only at this
  congr 1
  exact Array.ext' this
 ·rintro rfl
  rfl
theorem str_inj (a b : ByteArray) : a.toList = b.toList ↔ a = b:= by
 rw [← str_iff,beq_iff_eq]
def eqRt (x y : NRt) : Bool:= x.nm.toList == y.nm.toList && x.rank == y.rank
def eqLk (x y : NLk) : Bool:= x.nm.toList == y.nm.toList && (x.a == y.a && x.b == y.b)
def eqPt (x y : NPt) : Bool:= x.rt == y.rt && (x.lk == y.lk && x.a == y.a)
def eqRo (x y : NRo) : Bool:= x.rt == y.rt && ((x.a == y.a && x.b == y.b) && (x.via == y.via && x.cost == y.cost))
def eqRg (x y : NRg) : Bool:= (x.a == y.a && x.b == y.b) && x.root == y.root
def eqSc (x y : NSc) : Bool:= x.lk == y.lk && (x.s == y.s && x.g == y.g)
def eqNat (a b : Nat) : Bool:= a == b
def eqMb (x y : NM) : Bool:= x.lk == y.lk && (x.g == y.g && (x.only == y.only && sameL eqNat x.src y.src))
theorem eqRt_iff (x y : NRt) : eqRt x y = true ↔ x = y:= by
 cases x; cases y
 simp only [eqRt,Bool.and_eq_true,beq_iff_eq,str_inj,NRt.mk.injEq]
theorem eqLk_iff (x y : NLk) : eqLk x y = true ↔ x = y:= by
 cases x; cases y
 simp only [eqLk,Bool.and_eq_true,beq_iff_eq,str_inj,NLk.mk.injEq]
theorem eqPt_iff (x y : NPt) : eqPt x y = true ↔ x = y:= by
 cases x; cases y
 simp only [eqPt,Bool.and_eq_true,beq_iff_eq,NPt.mk.injEq]
theorem eqRo_iff (x y : NRo) : eqRo x y = true ↔ x = y:= by
 cases x; cases y
 simp only [eqRo,Bool.and_eq_true,beq_iff_eq,NRo.mk.injEq,and_assoc]
theorem eqRg_iff (x y : NRg) : eqRg x y = true ↔ x = y:= by
 cases x; cases y
 simp only [eqRg,Bool.and_eq_true,beq_iff_eq,NRg.mk.injEq,and_assoc]
theorem eqSc_iff (x y : NSc) : eqSc x y = true ↔ x = y:= by
 cases x; cases y
 simp only [eqSc,Bool.and_eq_true,beq_iff_eq,NSc.mk.injEq]
theorem eqNat_iff (a b : Nat) : eqNat a b = true ↔ a = b:= by simp [eqNat]
theorem eqMb_iff (x y : NM) : eqMb x y = true ↔ x = y:= by
 cases x; cases y
 simp only [eqMb,Bool.and_eq_true,beq_iff_eq,sameL_iff eqNat_iff,NM.mk.injEq]
theorem C_SPrefix (a : Nat) (b : Int) (c : Nat) (d : Int) : AC Tryz.prog f_q124 [.agg [avU a,.lit (.int .i64 b)],.agg [avU c,.lit (.int .i64 d)]] (.lit (.bool (a == c && b == d))):= by
 refine ac_q124 ?_ (Nat.le_add_left 2 _)
 cases h : a == c <;> simp only [go_sem,c_q124,avU,nat_beqb,h,Bool.false_and,Bool.true_and]
theorem C_SKey (a b c d : Nat) : AC Tryz.prog f_q171 [.agg [avU a,avU b],.agg [avU c,avU d]] (.lit (.bool (a == c && b == d))):= by
 refine ac_q171 ?_ (Nat.le_add_left 2 _)
 cases h : a == c <;> simp only [go_sem,c_q171,avU,nat_beqb,h,Bool.false_and,Bool.true_and]
theorem C_SRouter (x y : NRt) : AC Tryz.prog f_q68 [avRouter x,avRouter y] (.lit (.bool (eqRt x y))):= by
 refine ac_q68 ?_ (Nat.le_add_left 2 _)
 unfold eqRt
 cases h : x.nm.toList == y.nm.toList <;> simp only [go_sem,c_q68,avRouter,avStr,h,Bool.false_and,Bool.true_and]
theorem C_SLink (x y : NLk) : AC Tryz.prog f_q69 [avLink x,avLink y] (.lit (.bool (eqLk x y))):= by
 refine ac_q69 ?_ (Nat.le_add_left 2 _)
 unfold eqLk
 have hC:= C_SPrefix x.a x.b y.a y.b
 simp only [avU] at hC
 cases h : x.nm.toList == y.nm.toList
 ·simp only [go_sem,c_q69,avLink,avStr,avU,h,Bool.false_and]
 ·simp only [go_sem,c_q69,avLink,avStr,avU,h,Bool.true_and]
  refine callX_of hC ?_
  simp only [go_sem]
theorem C_SPort (x y : NPt) : AC Tryz.prog f_q112 [avPort x,avPort y] (.lit (.bool (eqPt x y))):= by
 refine ac_q112 ?_ (Nat.le_add_left 2 _)
 unfold eqPt
 cases h : x.rt == y.rt <;> cases h2 : x.lk == y.lk <;> simp only [go_sem,c_q112,avPort,avU,nat_beqb,h,h2,Bool.false_and,Bool.true_and,Bool.and_false]
theorem C_SRoute (x y : NRo) : AC Tryz.prog f_q113 [avRoute x,avRoute y] (.lit (.bool (eqRo x y))):= by
 refine ac_q113 ?_ (Nat.le_add_left 2 _)
 unfold eqRo
 have hC:= C_SPrefix x.a x.b y.a y.b
 simp only [avU] at hC
 cases h : x.rt == y.rt
 ·simp only [go_sem,c_q113,avRoute,avU,h,Bool.false_and]
 ·cases h1 : (x.a == y.a && x.b == y.b)
  ·rw [h1] at hC
   simp only [go_sem,c_q113,avRoute,avU,h,Bool.true_and,Bool.false_and]
   refine callX_of hC ?_
   simp only [go_sem]
  ·rw [h1] at hC
   cases h2 : x.via == y.via
   ·simp only [go_sem,c_q113,avRoute,avU,h,Bool.true_and,Bool.false_and]
    refine callX_of hC ?_
    simp only [go_sem,nat_beqb,h2]
   ·simp only [go_sem,c_q113,avRoute,avU,h,Bool.true_and,Bool.false_and]
    refine callX_of hC ?_
    simp only [go_sem,nat_beqb,h2]
theorem C_SRange (x y : NRg) : AC Tryz.prog f_q114 [avRange x,avRange y] (.lit (.bool (eqRg x y))):= by
 refine ac_q114 ?_ (Nat.le_add_left 2 _)
 unfold eqRg
 have hC:= C_SPrefix x.a x.b y.a y.b
 simp only [avU] at hC
 simp only [go_sem,c_q114,avRange,avU]
 refine callX_of hC ?_
 cases h : (x.a == y.a && x.b == y.b) <;> simp only [go_sem,nat_beqb,Bool.false_and,Bool.true_and]
theorem C_SSource (x y : NSc) : AC Tryz.prog f_q115 [avSource x,avSource y] (.lit (.bool (eqSc x y))):= by
 refine ac_q115 ?_ (Nat.le_add_left 2 _)
 unfold eqSc
 have hC:= C_SKey x.s x.g y.s y.g
 simp only [avU] at hC
 cases h : x.lk == y.lk
 ·simp only [go_sem,c_q115,avSource,avU,h,Bool.false_and]
 ·simp only [go_sem,c_q115,avSource,avU,h,Bool.true_and]
  refine callX_of hC ?_
  simp only [go_sem]
theorem C_SAddrs (l m : List Nat) (hl : l.length < 9223372036854775808) : AC Tryz.prog f_q21 [.sl .none 1 (l.map avU),.sl .none 1 (m.map avU)] (.lit (.bool (sameL eqNat l m))):= by
 refine ac_q21 ?_ (Nat.le_add_left 2 _)
 by_cases h0 : l.length = m.length
 case neg =>
  have f0 : ((l.length : Int) != (m.length : Int)) = true:= by simp; omega
  simp only [go_sem,c_q21,List.length_map,f0,sameL_len h0]
 have f0 : ((l.length : Int) != (m.length : Int)) = false:= by simp; omega
 simp only [go_sem,c_q21,List.length_map,f0]
 refine aw_loop (fun n E => ∃ k : Nat,k + n = l.length ∧ sameL eqNat l m = sameL eqNat (l.drop k) (m.drop k) ∧ E = mkE [(0,.sl .none 1 (l.map avU)),(1,.sl .none 1 (m.map avU)),(5,.lit (.int .i64 (k : Nat)))] []) l.length ?_ ?_
 ·exact ⟨0,by omega,rfl,rfl⟩
 ·rintro n _ ⟨k,hk,ht,rfl⟩
  have hrI:= fun x => avRow_some 1 .none (AV.lit x) rfl
  by_cases hkl : k < l.length
  ·have f1 : ((k : Int) < (l.length : Int)) = True:= eq_true (by omega)
   have hw:= wrap_succ k (by omega)
   obtain ⟨a,ha⟩ : ∃ a,l[k]? = some a:= ⟨l[k],List.getElem?_eq_getElem hkl⟩
   obtain ⟨b,hb⟩ : ∃ b,m[k]? = some b:= ⟨m[k]'(by omega),List.getElem?_eq_getElem (by omega)⟩
   have hd:= sameL_drop eqNat ha hb
   cases hp : eqNat a b
   ·rw [hp,Bool.false_and] at hd
    have hq : (a == b) = false:= hp
    simp only [go_sem,List.length_map,f1,decide_true,Int.natCast_nonneg,Int.toNat_natCast,List.getElem?_map,ha,hb,Option.map_some,hrI,avU,nat_beqb,hq]
    simp only [go_sem,ht,hd]
   ·rw [hp,Bool.true_and] at hd
    have hq : (a == b) = true:= hp
    simp only [go_sem,List.length_map,f1,decide_true,Int.natCast_nonneg,Int.toNat_natCast,List.getElem?_map,ha,hb,Option.map_some,hrI,avU,nat_beqb,hq]
    simp only [go_sem,hw]
    exact ⟨n - 1,by omega,k + 1,by omega,by rw [ht,hd],rfl⟩
  ·have f1 : ((k : Int) < (l.length : Int)) = False:= eq_false (by omega)
   have e0 : sameL eqNat l m = true:= by
    rw [ht,List.drop_of_length_le (by omega),List.drop_of_length_le (by omega)]
    rfl
   simp only [go_sem,List.length_map,f1,decide_false,e0]
theorem C_SMember (x y : NM) (hx : x.src.length < 9223372036854775808) : AC Tryz.prog f_q116 [avMb x,avMb y] (.lit (.bool (eqMb x y))):= by
 refine ac_q116 ?_ (Nat.le_add_left 2 _)
 unfold eqMb
 have hC:= C_SAddrs x.src y.src hx
 cases h : x.lk == y.lk
 ·simp only [go_sem,c_q116,avMb,avU,h,Bool.false_and]
 cases h2 : x.g == y.g
 ·simp only [go_sem,c_q116,avMb,avU,nat_beqb,h,h2,Bool.false_and,Bool.true_and]
 cases h3 : x.only == y.only
 ·simp only [go_sem,c_q116,avMb,avU,nat_beqb,h,h2,h3,Bool.false_and,Bool.true_and]
 ·simp only [go_sem,c_q116,avMb,avU,nat_beqb,h,h2,h3,Bool.true_and]
  refine callX_of hC ?_
  simp only [go_sem]
theorem C_SRouters (l m : List NRt) (hl : l.length < 9223372036854775808) : AC Tryz.prog f_q33 [.sl .none 2 (l.map avRouter),.sl .none 2 (m.map avRouter)] (.lit (.bool (sameL eqRt l m))):= by
 refine ac_q33 ?_ (Nat.le_add_left 2 _)
 by_cases h0 : l.length = m.length
 case neg =>
  have f0 : ((l.length : Int) != (m.length : Int)) = true:= by simp; omega
  simp only [go_sem,c_q33,List.length_map,f0,sameL_len h0]
 have f0 : ((l.length : Int) != (m.length : Int)) = false:= by simp; omega
 simp only [go_sem,c_q33,List.length_map,f0]
 refine aw_loop (fun n E => ∃ k : Nat,k + n = l.length ∧ sameL eqRt l m = sameL eqRt (l.drop k) (m.drop k) ∧ E = mkE [(0,.sl .none 2 (l.map avRouter)),(1,.sl .none 2 (m.map avRouter)),(5,.lit (.int .i64 (k : Nat)))] []) l.length ?_ ?_
 ·exact ⟨0,by omega,rfl,rfl⟩
 ·rintro n _ ⟨k,hk,ht,rfl⟩
  have hrI:= fun x => avRow_some 2 .none (AV.agg x) rfl
  by_cases hkl : k < l.length
  ·have f1 : ((k : Int) < (l.length : Int)) = True:= eq_true (by omega)
   have hw:= wrap_succ k (by omega)
   obtain ⟨a,ha⟩ : ∃ a,l[k]? = some a:= ⟨l[k],List.getElem?_eq_getElem hkl⟩
   obtain ⟨b,hb⟩ : ∃ b,m[k]? = some b:= ⟨m[k]'(by omega),List.getElem?_eq_getElem (by omega)⟩
   have hd:= sameL_drop eqRt ha hb
   have hC:= C_SRouter a b
   simp only [avRouter,avStr,avU] at hC
   cases hp : eqRt a b
   ·rw [hp] at hC
    rw [hp,Bool.false_and] at hd
    simp only [go_sem,List.length_map,f1,decide_true,Int.natCast_nonneg,Int.toNat_natCast,List.getElem?_map,ha,hb,Option.map_some,hrI,avRouter,avStr,avU]
    refine callX_of hC ?_
    simp only [go_sem,ht,hd]
   ·rw [hp] at hC
    rw [hp,Bool.true_and] at hd
    simp only [go_sem,List.length_map,f1,decide_true,Int.natCast_nonneg,Int.toNat_natCast,List.getElem?_map,ha,hb,Option.map_some,hrI,avRouter,avStr,avU]
    refine callX_of hC ?_
    simp only [go_sem,hw]
    exact ⟨n - 1,by omega,k + 1,by omega,by rw [ht,hd],rfl⟩
  ·have f1 : ((k : Int) < (l.length : Int)) = False:= eq_false (by omega)
   have e0 : sameL eqRt l m = true:= by
    rw [ht,List.drop_of_length_le (by omega),List.drop_of_length_le (by omega)]
    rfl
   simp only [go_sem,List.length_map,f1,decide_false,e0]
theorem C_SLinks (l m : List NLk) (hl : l.length < 9223372036854775808) : AC Tryz.prog f_q34 [.sl .none 3 (l.map avLink),.sl .none 3 (m.map avLink)] (.lit (.bool (sameL eqLk l m))):= by
 refine ac_q34 ?_ (Nat.le_add_left 2 _)
 by_cases h0 : l.length = m.length
 case neg =>
  have f0 : ((l.length : Int) != (m.length : Int)) = true:= by simp; omega
  simp only [go_sem,c_q34,List.length_map,f0,sameL_len h0]
 have f0 : ((l.length : Int) != (m.length : Int)) = false:= by simp; omega
 simp only [go_sem,c_q34,List.length_map,f0]
 refine aw_loop (fun n E => ∃ k : Nat,k + n = l.length ∧ sameL eqLk l m = sameL eqLk (l.drop k) (m.drop k) ∧ E = mkE [(0,.sl .none 3 (l.map avLink)),(1,.sl .none 3 (m.map avLink)),(5,.lit (.int .i64 (k : Nat)))] []) l.length ?_ ?_
 ·exact ⟨0,by omega,rfl,rfl⟩
 ·rintro n _ ⟨k,hk,ht,rfl⟩
  have hrI:= fun x => avRow_some 3 .none (AV.agg x) rfl
  by_cases hkl : k < l.length
  ·have f1 : ((k : Int) < (l.length : Int)) = True:= eq_true (by omega)
   have hw:= wrap_succ k (by omega)
   obtain ⟨a,ha⟩ : ∃ a,l[k]? = some a:= ⟨l[k],List.getElem?_eq_getElem hkl⟩
   obtain ⟨b,hb⟩ : ∃ b,m[k]? = some b:= ⟨m[k]'(by omega),List.getElem?_eq_getElem (by omega)⟩
   have hd:= sameL_drop eqLk ha hb
   have hC:= C_SLink a b
   simp only [avLink,avStr,avU] at hC
   cases hp : eqLk a b
   ·rw [hp] at hC
    rw [hp,Bool.false_and] at hd
    simp only [go_sem,List.length_map,f1,decide_true,Int.natCast_nonneg,Int.toNat_natCast,List.getElem?_map,ha,hb,Option.map_some,hrI,avLink,avStr,avU]
    refine callX_of hC ?_
    simp only [go_sem,ht,hd]
   ·rw [hp] at hC
    rw [hp,Bool.true_and] at hd
    simp only [go_sem,List.length_map,f1,decide_true,Int.natCast_nonneg,Int.toNat_natCast,List.getElem?_map,ha,hb,Option.map_some,hrI,avLink,avStr,avU]
    refine callX_of hC ?_
    simp only [go_sem,hw]
    exact ⟨n - 1,by omega,k + 1,by omega,by rw [ht,hd],rfl⟩
  ·have f1 : ((k : Int) < (l.length : Int)) = False:= eq_false (by omega)
   have e0 : sameL eqLk l m = true:= by
    rw [ht,List.drop_of_length_le (by omega),List.drop_of_length_le (by omega)]
    rfl
   simp only [go_sem,List.length_map,f1,decide_false,e0]
theorem C_SPorts (l m : List NPt) (hl : l.length < 9223372036854775808) : AC Tryz.prog f_q53 [.sl .none 3 (l.map avPort),.sl .none 3 (m.map avPort)] (.lit (.bool (sameL eqPt l m))):= by
 refine ac_q53 ?_ (Nat.le_add_left 2 _)
 by_cases h0 : l.length = m.length
 case neg =>
  have f0 : ((l.length : Int) != (m.length : Int)) = true:= by simp; omega
  simp only [go_sem,c_q53,List.length_map,f0,sameL_len h0]
 have f0 : ((l.length : Int) != (m.length : Int)) = false:= by simp; omega
 simp only [go_sem,c_q53,List.length_map,f0]
 refine aw_loop (fun n E => ∃ k : Nat,k + n = l.length ∧ sameL eqPt l m = sameL eqPt (l.drop k) (m.drop k) ∧ E = mkE [(0,.sl .none 3 (l.map avPort)),(1,.sl .none 3 (m.map avPort)),(5,.lit (.int .i64 (k : Nat)))] []) l.length ?_ ?_
 ·exact ⟨0,by omega,rfl,rfl⟩
 ·rintro n _ ⟨k,hk,ht,rfl⟩
  have hrI:= fun x => avRow_some 3 .none (AV.agg x) rfl
  by_cases hkl : k < l.length
  ·have f1 : ((k : Int) < (l.length : Int)) = True:= eq_true (by omega)
   have hw:= wrap_succ k (by omega)
   obtain ⟨a,ha⟩ : ∃ a,l[k]? = some a:= ⟨l[k],List.getElem?_eq_getElem hkl⟩
   obtain ⟨b,hb⟩ : ∃ b,m[k]? = some b:= ⟨m[k]'(by omega),List.getElem?_eq_getElem (by omega)⟩
   have hd:= sameL_drop eqPt ha hb
   have hC:= C_SPort a b
   simp only [avPort,avStr,avU] at hC
   cases hp : eqPt a b
   ·rw [hp] at hC
    rw [hp,Bool.false_and] at hd
    simp only [go_sem,List.length_map,f1,decide_true,Int.natCast_nonneg,Int.toNat_natCast,List.getElem?_map,ha,hb,Option.map_some,hrI,avPort,avStr,avU]
    refine callX_of hC ?_
    simp only [go_sem,ht,hd]
   ·rw [hp] at hC
    rw [hp,Bool.true_and] at hd
    simp only [go_sem,List.length_map,f1,decide_true,Int.natCast_nonneg,Int.toNat_natCast,List.getElem?_map,ha,hb,Option.map_some,hrI,avPort,avStr,avU]
    refine callX_of hC ?_
    simp only [go_sem,hw]
    exact ⟨n - 1,by omega,k + 1,by omega,by rw [ht,hd],rfl⟩
  ·have f1 : ((k : Int) < (l.length : Int)) = False:= eq_false (by omega)
   have e0 : sameL eqPt l m = true:= by
    rw [ht,List.drop_of_length_le (by omega),List.drop_of_length_le (by omega)]
    rfl
   simp only [go_sem,List.length_map,f1,decide_false,e0]
theorem C_SRoutes (l m : List NRo) (hl : l.length < 9223372036854775808) : AC Tryz.prog f_q54 [.sl .none 5 (l.map avRoute),.sl .none 5 (m.map avRoute)] (.lit (.bool (sameL eqRo l m))):= by
 refine ac_q54 ?_ (Nat.le_add_left 2 _)
 by_cases h0 : l.length = m.length
 case neg =>
  have f0 : ((l.length : Int) != (m.length : Int)) = true:= by simp; omega
  simp only [go_sem,c_q54,List.length_map,f0,sameL_len h0]
 have f0 : ((l.length : Int) != (m.length : Int)) = false:= by simp; omega
 simp only [go_sem,c_q54,List.length_map,f0]
 refine aw_loop (fun n E => ∃ k : Nat,k + n = l.length ∧ sameL eqRo l m = sameL eqRo (l.drop k) (m.drop k) ∧ E = mkE [(0,.sl .none 5 (l.map avRoute)),(1,.sl .none 5 (m.map avRoute)),(5,.lit (.int .i64 (k : Nat)))] []) l.length ?_ ?_
 ·exact ⟨0,by omega,rfl,rfl⟩
 ·rintro n _ ⟨k,hk,ht,rfl⟩
  have hrI:= fun x => avRow_some 5 .none (AV.agg x) rfl
  by_cases hkl : k < l.length
  ·have f1 : ((k : Int) < (l.length : Int)) = True:= eq_true (by omega)
   have hw:= wrap_succ k (by omega)
   obtain ⟨a,ha⟩ : ∃ a,l[k]? = some a:= ⟨l[k],List.getElem?_eq_getElem hkl⟩
   obtain ⟨b,hb⟩ : ∃ b,m[k]? = some b:= ⟨m[k]'(by omega),List.getElem?_eq_getElem (by omega)⟩
   have hd:= sameL_drop eqRo ha hb
   have hC:= C_SRoute a b
   simp only [avRoute,avStr,avU] at hC
   cases hp : eqRo a b
   ·rw [hp] at hC
    rw [hp,Bool.false_and] at hd
    simp only [go_sem,List.length_map,f1,decide_true,Int.natCast_nonneg,Int.toNat_natCast,List.getElem?_map,ha,hb,Option.map_some,hrI,avRoute,avStr,avU]
    refine callX_of hC ?_
    simp only [go_sem,ht,hd]
   ·rw [hp] at hC
    rw [hp,Bool.true_and] at hd
    simp only [go_sem,List.length_map,f1,decide_true,Int.natCast_nonneg,Int.toNat_natCast,List.getElem?_map,ha,hb,Option.map_some,hrI,avRoute,avStr,avU]
    refine callX_of hC ?_
    simp only [go_sem,hw]
    exact ⟨n - 1,by omega,k + 1,by omega,by rw [ht,hd],rfl⟩
  ·have f1 : ((k : Int) < (l.length : Int)) = False:= eq_false (by omega)
   have e0 : sameL eqRo l m = true:= by
    rw [ht,List.drop_of_length_le (by omega),List.drop_of_length_le (by omega)]
    rfl
   simp only [go_sem,List.length_map,f1,decide_false,e0]
theorem C_SRanges (l m : List NRg) (hl : l.length < 9223372036854775808) : AC Tryz.prog f_q55 [.sl .none 3 (l.map avRange),.sl .none 3 (m.map avRange)] (.lit (.bool (sameL eqRg l m))):= by
 refine ac_q55 ?_ (Nat.le_add_left 2 _)
 by_cases h0 : l.length = m.length
 case neg =>
  have f0 : ((l.length : Int) != (m.length : Int)) = true:= by simp; omega
  simp only [go_sem,c_q55,List.length_map,f0,sameL_len h0]
 have f0 : ((l.length : Int) != (m.length : Int)) = false:= by simp; omega
 simp only [go_sem,c_q55,List.length_map,f0]
 refine aw_loop (fun n E => ∃ k : Nat,k + n = l.length ∧ sameL eqRg l m = sameL eqRg (l.drop k) (m.drop k) ∧ E = mkE [(0,.sl .none 3 (l.map avRange)),(1,.sl .none 3 (m.map avRange)),(5,.lit (.int .i64 (k : Nat)))] []) l.length ?_ ?_
 ·exact ⟨0,by omega,rfl,rfl⟩
 ·rintro n _ ⟨k,hk,ht,rfl⟩
  have hrI:= fun x => avRow_some 3 .none (AV.agg x) rfl
  by_cases hkl : k < l.length
  ·have f1 : ((k : Int) < (l.length : Int)) = True:= eq_true (by omega)
   have hw:= wrap_succ k (by omega)
   obtain ⟨a,ha⟩ : ∃ a,l[k]? = some a:= ⟨l[k],List.getElem?_eq_getElem hkl⟩
   obtain ⟨b,hb⟩ : ∃ b,m[k]? = some b:= ⟨m[k]'(by omega),List.getElem?_eq_getElem (by omega)⟩
   have hd:= sameL_drop eqRg ha hb
   have hC:= C_SRange a b
   simp only [avRange,avStr,avU] at hC
   cases hp : eqRg a b
   ·rw [hp] at hC
    rw [hp,Bool.false_and] at hd
    simp only [go_sem,List.length_map,f1,decide_true,Int.natCast_nonneg,Int.toNat_natCast,List.getElem?_map,ha,hb,Option.map_some,hrI,avRange,avStr,avU]
    refine callX_of hC ?_
    simp only [go_sem,ht,hd]
   ·rw [hp] at hC
    rw [hp,Bool.true_and] at hd
    simp only [go_sem,List.length_map,f1,decide_true,Int.natCast_nonneg,Int.toNat_natCast,List.getElem?_map,ha,hb,Option.map_some,hrI,avRange,avStr,avU]
    refine callX_of hC ?_
    simp only [go_sem,hw]
    exact ⟨n - 1,by omega,k + 1,by omega,by rw [ht,hd],rfl⟩
  ·have f1 : ((k : Int) < (l.length : Int)) = False:= eq_false (by omega)
   have e0 : sameL eqRg l m = true:= by
    rw [ht,List.drop_of_length_le (by omega),List.drop_of_length_le (by omega)]
    rfl
   simp only [go_sem,List.length_map,f1,decide_false,e0]
theorem C_SSources (l m : List NSc) (hl : l.length < 9223372036854775808) : AC Tryz.prog f_q56 [.sl .none 3 (l.map avSource),.sl .none 3 (m.map avSource)] (.lit (.bool (sameL eqSc l m))):= by
 refine ac_q56 ?_ (Nat.le_add_left 2 _)
 by_cases h0 : l.length = m.length
 case neg =>
  have f0 : ((l.length : Int) != (m.length : Int)) = true:= by simp; omega
  simp only [go_sem,c_q56,List.length_map,f0,sameL_len h0]
 have f0 : ((l.length : Int) != (m.length : Int)) = false:= by simp; omega
 simp only [go_sem,c_q56,List.length_map,f0]
 refine aw_loop (fun n E => ∃ k : Nat,k + n = l.length ∧ sameL eqSc l m = sameL eqSc (l.drop k) (m.drop k) ∧ E = mkE [(0,.sl .none 3 (l.map avSource)),(1,.sl .none 3 (m.map avSource)),(5,.lit (.int .i64 (k : Nat)))] []) l.length ?_ ?_
 ·exact ⟨0,by omega,rfl,rfl⟩
 ·rintro n _ ⟨k,hk,ht,rfl⟩
  have hrI:= fun x => avRow_some 3 .none (AV.agg x) rfl
  by_cases hkl : k < l.length
  ·have f1 : ((k : Int) < (l.length : Int)) = True:= eq_true (by omega)
   have hw:= wrap_succ k (by omega)
   obtain ⟨a,ha⟩ : ∃ a,l[k]? = some a:= ⟨l[k],List.getElem?_eq_getElem hkl⟩
   obtain ⟨b,hb⟩ : ∃ b,m[k]? = some b:= ⟨m[k]'(by omega),List.getElem?_eq_getElem (by omega)⟩
   have hd:= sameL_drop eqSc ha hb
   have hC:= C_SSource a b
   simp only [avSource,avStr,avU] at hC
   cases hp : eqSc a b
   ·rw [hp] at hC
    rw [hp,Bool.false_and] at hd
    simp only [go_sem,List.length_map,f1,decide_true,Int.natCast_nonneg,Int.toNat_natCast,List.getElem?_map,ha,hb,Option.map_some,hrI,avSource,avStr,avU]
    refine callX_of hC ?_
    simp only [go_sem,ht,hd]
   ·rw [hp] at hC
    rw [hp,Bool.true_and] at hd
    simp only [go_sem,List.length_map,f1,decide_true,Int.natCast_nonneg,Int.toNat_natCast,List.getElem?_map,ha,hb,Option.map_some,hrI,avSource,avStr,avU]
    refine callX_of hC ?_
    simp only [go_sem,hw]
    exact ⟨n - 1,by omega,k + 1,by omega,by rw [ht,hd],rfl⟩
  ·have f1 : ((k : Int) < (l.length : Int)) = False:= eq_false (by omega)
   have e0 : sameL eqSc l m = true:= by
    rw [ht,List.drop_of_length_le (by omega),List.drop_of_length_le (by omega)]
    rfl
   simp only [go_sem,List.length_map,f1,decide_false,e0]
theorem C_SMembers (l m : List NM) (hl : l.length < 9223372036854775808) (hm : ∀ x ∈ l,x.src.length < 9223372036854775808) : AC Tryz.prog f_q57 [.sl .none 4 (l.map avMb),.sl .none 4 (m.map avMb)] (.lit (.bool (sameL eqMb l m))):= by
 refine ac_q57 ?_ (Nat.le_add_left 2 _)
 by_cases h0 : l.length = m.length
 case neg =>
  have f0 : ((l.length : Int) != (m.length : Int)) = true:= by simp; omega
  simp only [go_sem,c_q57,List.length_map,f0,sameL_len h0]
 have f0 : ((l.length : Int) != (m.length : Int)) = false:= by simp; omega
 simp only [go_sem,c_q57,List.length_map,f0]
 refine aw_loop (fun n E => ∃ k : Nat,k + n = l.length ∧ sameL eqMb l m = sameL eqMb (l.drop k) (m.drop k) ∧ E = mkE [(0,.sl .none 4 (l.map avMb)),(1,.sl .none 4 (m.map avMb)),(5,.lit (.int .i64 (k : Nat)))] []) l.length ?_ ?_
 ·exact ⟨0,by omega,rfl,rfl⟩
 ·rintro n _ ⟨k,hk,ht,rfl⟩
  have hrI:= fun x => avRow_some 4 .none (AV.agg x) rfl
  by_cases hkl : k < l.length
  ·have f1 : ((k : Int) < (l.length : Int)) = True:= eq_true (by omega)
   have hw:= wrap_succ k (by omega)
   obtain ⟨a,ha⟩ : ∃ a,l[k]? = some a:= ⟨l[k],List.getElem?_eq_getElem hkl⟩
   obtain ⟨b,hb⟩ : ∃ b,m[k]? = some b:= ⟨m[k]'(by omega),List.getElem?_eq_getElem (by omega)⟩
   have hd:= sameL_drop eqMb ha hb
   have hC:= C_SMember a b (hm a (List.mem_of_getElem? ha))
   simp only [avMb,avStr,avU] at hC
   cases hp : eqMb a b
   ·rw [hp] at hC
    rw [hp,Bool.false_and] at hd
    simp only [go_sem,List.length_map,f1,decide_true,Int.natCast_nonneg,Int.toNat_natCast,List.getElem?_map,ha,hb,Option.map_some,hrI,avMb,avStr,avU]
    refine callX_of hC ?_
    simp only [go_sem,ht,hd]
   ·rw [hp] at hC
    rw [hp,Bool.true_and] at hd
    simp only [go_sem,List.length_map,f1,decide_true,Int.natCast_nonneg,Int.toNat_natCast,List.getElem?_map,ha,hb,Option.map_some,hrI,avMb,avStr,avU]
    refine callX_of hC ?_
    simp only [go_sem,hw]
    exact ⟨n - 1,by omega,k + 1,by omega,by rw [ht,hd],rfl⟩
  ·have f1 : ((k : Int) < (l.length : Int)) = False:= eq_false (by omega)
   have e0 : sameL eqMb l m = true:= by
    rw [ht,List.drop_of_length_le (by omega),List.drop_of_length_le (by omega)]
    rfl
   simp only [go_sem,List.length_map,f1,decide_false,e0]
def sameW (w v : NW) : Bool:= sameL eqRt w.rts v.rts && (sameL eqLk w.lks v.lks && (sameL eqPt w.pts v.pts && (sameL eqRo w.ros v.ros && (sameL eqRg w.rgs v.rgs && (sameL eqSc w.scs v.scs && sameL eqMb w.mbs v.mbs)))))
theorem sameW_iff (w v : NW) : sameW w v = true ↔ w = v:= by
 cases w; cases v
 simp only [sameW,Bool.and_eq_true,sameL_iff eqRt_iff,sameL_iff eqLk_iff,sameL_iff eqPt_iff,sameL_iff eqRo_iff,sameL_iff eqRg_iff,sameL_iff eqSc_iff,sameL_iff eqMb_iff,NW.mk.injEq]
theorem C_SameConfig (w v : NW) (h : w.OK) : AC Tryz.prog f_q24 [.agg (netV w),.agg (netV v)] (.lit (.bool (sameW w v))):= by
 refine ac_q24 ?_ (Nat.le_add_left 2 _)
 have h1:= C_SRouters w.rts v.rts h.l1
 have h2:= C_SLinks w.lks v.lks h.l2
 have h3:= C_SPorts w.pts v.pts h.l3
 have h4:= C_SRoutes w.ros v.ros h.l4
 have h5:= C_SRanges w.rgs v.rgs h.l5
 have h6:= C_SSources w.scs v.scs h.l6
 have h7:= C_SMembers w.mbs v.mbs h.l7 h.mbl
 simp only [go_sem,c_q24,netV,sameW]
 refine callX_of h1 ?_
 cases sameL eqRt w.rts v.rts
 ·simp only [go_sem,Bool.false_and]
 simp only [go_sem,Bool.true_and]
 refine callX_of h2 ?_
 cases sameL eqLk w.lks v.lks
 ·simp only [go_sem,Bool.false_and]
 simp only [go_sem,Bool.true_and]
 refine callX_of h3 ?_
 cases sameL eqPt w.pts v.pts
 ·simp only [go_sem,Bool.false_and]
 simp only [go_sem,Bool.true_and]
 refine callX_of h4 ?_
 cases sameL eqRo w.ros v.ros
 ·simp only [go_sem,Bool.false_and]
 simp only [go_sem,Bool.true_and]
 refine callX_of h5 ?_
 cases sameL eqRg w.rgs v.rgs
 ·simp only [go_sem,Bool.false_and]
 simp only [go_sem,Bool.true_and]
 refine callX_of h6 ?_
 cases sameL eqSc w.scs v.scs
 ·simp only [go_sem,Bool.false_and]
 simp only [go_sem,Bool.true_and]
 refine callX_of h7 ?_
 simp only [go_sem]
end Go.Proofs.YtnndbbmidoidpaaGreatDoor.VL
end

section
set_option maxHeartbeats 4000000
namespace Go.Proofs.YtnndbbmidoidpaaGreatDoor.VL
open Go.RowKit Go.Proofs
theorem C_SIN (l m : List Nat) (hl : l.length < 9223372036854775808) : AC Tryz.prog f_q14 [.sl .none 1 (l.map avI),.sl .none 1 (m.map avI)] (.lit (.bool (decide (l = m)))):= by
 have h:= C_SameInts (l.map fun n : Nat => (n : Int)) (m.map fun n : Nat => (n : Int)) (by rwa [List.length_map])
 rw [← map_avI,← map_avI] at h
 have e : decide ((l.map fun n : Nat => (n : Int)) = m.map fun n : Nat => (n : Int)) = decide (l = m):= by
  rw [decide_eq_decide]
  refine ⟨fun h => ?_,fun h => by rw [h]⟩
  exact (List.map_inj_right (fun a b h => by omega)).1 h
 rwa [e] at h
theorem C_SIS (l : List Nat) (hl : l.length < 9223372036854775808) : AC Tryz.prog f_q14 [.sl .none 1 (l.map avI),.sl .none 1 (l.map avI)] (.lit (.bool true)):= by
 have h:= C_SIN l l hl
 rwa [decide_eq_true rfl] at h
def qf (w : NW) (x : NPt) (j : Nat) : Bool:= !(match w.pts[j]? with | some y => y.rt == x.rt | none => false)
theorem flt_take {α : Type} (q : α → Bool) (l : List α) {i : Nat} {x : α} (hx : l[i]? = some x) : (l.take (i + 1)).filter q = if q x = true then (l.take i).filter q ++ [x] else (l.take i).filter q:= by
 rw [List.take_add_one,hx,Option.toList_some,List.filter_append]
 cases hq : q x <;> simp [hq]
theorem rise_avU (l : List Nat) : (rise (zs l)).map aI = ((rise (zs l)).map Int.toNat).map avU:= by
 rw [List.map_map]
 refine List.map_congr_left fun x hx => ?_
 rw [mem_rise,zs,List.mem_map] at hx
 obtain ⟨n,_,rfl⟩:= hx
 rfl
theorem C_SAS (l : List Nat) (hl : l.length < 9223372036854775808) : AC Tryz.prog f_q21 [.sl .none 1 ((rise (zs l)).map aI),.sl .none 1 ((rise (zs l)).map aI)] (.lit (.bool true)):= by
 rw [rise_avU]
 have h:= C_SAddrs ((rise (zs l)).map Int.toNat) ((rise (zs l)).map Int.toNat) (by have:= rise_len (zs l); rw [zs,List.length_map] at this; rw [List.length_map]; exact Nat.lt_of_le_of_lt this hl)
 rwa [(sameL_iff eqNat_iff).2 rfl] at h
theorem othersI_le' (w : NW) (i : Int) : (othersI w i).length ≤ w.pts.length:= by
 simp only [othersI]
 split
 ·split
  ·exact Nat.le_trans (List.length_filter_le _ _) (onW_le w _)
  ·exact Nat.zero_le _
 ·exact Nat.zero_le _
theorem on_memT {w : NW} {i : Int} {p : Nat} (h : p ∈ onW w i) : p < w.pts.length:= by
 simp only [onW,atF] at h
 split at h
 ·exact (mem_idx.1 h).1
 ·cases h
theorem C_TopoSays (w : NW) (h : w.OK) (n : Int) (a : Nat) : AC Tryz.prog f_q0 [.agg (netV w),.lit (.int .i64 n),avU a] (.lit (.bool true)):= by
 refine ac_q0 ?_ (Nat.le_add_left 3 _)
 have hI:= C_IsV w
 have hR:= R_Valid w h
 simp only [go_sem,c_q0,low_net,one_net,len_net,take_net,Nat.le_refl,avU]
 refine callX_of C_first8 ?_
 simp only [go_sem,low_net,one_net,len_net,take_net,Nat.le_refl]
 refine callX_of (C_light8 w) ?_
 cases hL : light8 w
 ·simp only [go_sem]
 simp only [go_sem,low_net,one_net,len_net,take_net,Nat.le_refl]
 cases hv : vNet w with
 | some g =>
  rw [hv] at hI hR
  simp only [amiss,codeN] at hI hR
  refine callX_of (C_NewE w h hv) ?_
  simp only [go_sem,low_net,one_net,len_net,take_net,Nat.le_refl]
  refine callX_of hR ?_
  simp only [go_sem]
  refine callX_of hI ?_
  simp only [go_sem]
  refine callX_of hI ?_
  simp only [go_sem]
 | none =>
  rw [hv] at hI hR
  simp only [amiss,codeN] at hI hR
  have hf:= vfit hv
  have z2 : w.lks.length ≤ 24:= len_le hv 1 (by decide)
  have z3 : w.pts.length ≤ 64:= len_le hv 2 (by decide)
  have z6 : w.scs.length ≤ 8:= len_le hv 5 (by decide)
  have z7 : w.mbs.length ≤ 24:= len_le hv 6 (by decide)
  have hg : (gsL w).length ≤ 32:= by simp only [gsL,mgs,List.length_append,List.length_map]; omega
  have hN:= C_New w h hf hv
  have hAt : ∃ (pv : Nat) (iv : Bool) (qv : Int),AC Tryz.prog f_q11 [.rp (topoV w),.lit (.int .u32 (a : Nat))] (.tup [.lit (.int .i64 (pv : Nat)),.lit (.bool iv)]) ∧ AC Tryz.prog f_q12 [.agg (netV w),.lit (.int .u32 (a : Nat))] (.lit (.int .i64 qv)) ∧ ((iv = false ∧ qv = -1) ∨ (iv = true ∧ qv = (pv : Int))):= by
   have hA:= C_At w a
   have hrA:= C_rAt w a (by omega)
   cases hp : atP w a with
   | none =>
    rw [hp] at hA hrA
    exact ⟨_,_,_,hA,hrA,.inl ⟨rfl,rfl⟩⟩
   | some p =>
    rw [hp] at hA hrA
    exact ⟨_,_,_,hA,hrA,.inr ⟨rfl,rfl⟩⟩
  obtain ⟨pv,iv,qv,hA,hrA,hcase⟩:= hAt
  have hOn:= C_On w hf n
  have hrOn:= C_rOn w hf n
  rw [onZ_eq hv] at hrOn
  have hOf:= C_OfT w hf n
  have hrOf:= C_rOf w hf n
  rw [ofZ_eq hv] at hrOf
  have hMb:= C_Members w hf n
  have hrMb:= C_rMembers w hf n
  rw [mbZ_eq hv] at hrMb
  have hOth:= C_Others w hf hv n
  have hG:= C_Groups w (by have:= rise_len (zs (gsL w)); rw [zs,List.length_map] at this; rw [zs]; omega)
  have hrG:= C_rGroups8 w hv
  have hCf:= C_Config w hf
  have hSC:= C_SameConfig w w h
  rw [(sameW_iff w w).2 rfl] at hSC
  have hS1:= C_SIS (onW w n) (by have:= onW_le w n; omega)
  have hS2:= C_SIS (ofW w n) (by have:= ofW_le w n; omega)
  have hS3:= C_SIS (othersI w n) (by have:= othersI_le' w n; omega)
  have hS4:= C_SIS (mbW w n) (by have:= mbW_le w n; omega)
  have hS5:= C_SAS (gsL w) (by omega)
  have hSN : othersI w n = [] → AC Tryz.prog f_q14 [.sl .none 1 ((othersI w n).map avI),.sl .nil 0 []] (.lit (.bool true)):= fun e => by
   rw [e] at hS3 ⊢
   exact hS3.wk ⟨Wk.rfl _,wk_nil _ _,trivial⟩
  have hx1 : ∀ (q : Nat) (x : NPt),n = (q : Int) → w.pts[q]? = some x → othersI w n = (onW w x.lk).filter (qf w x):= fun q x e hx => by
   have:= (List.getElem?_eq_some_iff.1 hx).1
   subst e
   simp only [othersI]
   rw [if_pos (by omega),Int.toNat_natCast,hx]
   rfl
  have hx0 : ¬ (0 ≤ n ∧ n < (w.pts.length : Int)) → othersI w n = []:= fun e => if_neg e
  have hrO:= fun k => C_rOn w hf k
  have hrO2 : ∀ k,idxK (onZ w k) w.pts.length = onW w k:= fun k => onZ_eq hv k
  simp only [hrO2] at hrO
  simp only [netV] at hN hR hrA hrOn hrOf hrMb hrG hCf hSC hrO
  generalize othersI w n = O at *
  generalize onW w n = L1 at *
  generalize ofW w n = L2 at *
  generalize mbW w n = L4 at *
  generalize hGv : rise (zs (gsL w)) = G at *
  simp only [netV]
  refine callX_of hN ?_
  simp only [go_sem,netV]
  refine callX_of hR ?_
  simp only [go_sem]
  refine callX_of hI ?_
  simp only [go_sem]
  refine callX_of hA ?_
  simp only [go_sem]
  refine callX_of hrA ?_
  have k0 : (0 : Int) ≤ 0:= by decide
  have n0 : ((0 : Int) ≤ -1) = False:= eq_false (by decide)
  have b0 : ∀ x : Int,(x == x) = true:= fun x => by simp
  have ktt : (true == true) = true:= rfl
  have kff : (false == false) = true:= rfl
  have ktf : (false == true) = false:= rfl
  by_cases c0 : 0 ≤ n
  case neg =>
   have g0 : (0 ≤ n) = False:= eq_false c0
   have hSO:= hSN (hx0 (fun e => c0 e.1))
   rcases hcase with ⟨rfl,rfl⟩ | ⟨rfl,rfl⟩
   all_goals
    simp only [go_sem,netV,k0,ktt,kff,ktf,decide_true,decide_false,b0,n0,Int.natCast_nonneg,g0]
    refine callX_of hOn ?_
    simp only [go_sem]
    refine callX_of hrOn ?_
    simp only [go_sem]
    refine callX_of hS1 ?_
    simp only [go_sem]
    refine callX_of hOf ?_
    simp only [go_sem]
    refine callX_of hrOf ?_
    simp only [go_sem]
    refine callX_of hS2 ?_
    simp only [go_sem]
    refine callX_of hOth ?_
    simp only [go_sem]
    refine callX_of hSO ?_
    simp only [go_sem]
    refine callX_of hMb ?_
    simp only [go_sem]
    refine callX_of hrMb ?_
    simp only [go_sem]
    refine callX_of hS4 ?_
    simp only [go_sem]
    refine callX_of hG ?_
    simp only [go_sem]
    refine callX_of hrG ?_
    simp only [go_sem]
    refine callX_of hS5 ?_
    simp only [go_sem]
    refine callX_of hCf ?_
    simp only [go_sem]
    refine callX_of hSC ?_
    simp only [go_sem]
  have g0 : (0 ≤ n) = True:= eq_true c0
  by_cases c1 : n < (w.pts.length : Int)
  case neg =>
   have g1 : (n < (w.pts.length : Int)) = False:= eq_false c1
   have hSO:= hSN (hx0 (fun e => c1 e.2))
   rcases hcase with ⟨rfl,rfl⟩ | ⟨rfl,rfl⟩
   all_goals
    simp only [go_sem,netV,k0,ktt,kff,ktf,decide_true,decide_false,b0,n0,Int.natCast_nonneg,g0,g1,List.length_map]
    refine callX_of hOn ?_
    simp only [go_sem]
    refine callX_of hrOn ?_
    simp only [go_sem]
    refine callX_of hS1 ?_
    simp only [go_sem]
    refine callX_of hOf ?_
    simp only [go_sem]
    refine callX_of hrOf ?_
    simp only [go_sem]
    refine callX_of hS2 ?_
    simp only [go_sem]
    refine callX_of hOth ?_
    simp only [go_sem]
    refine callX_of hSO ?_
    simp only [go_sem]
    refine callX_of hMb ?_
    simp only [go_sem]
    refine callX_of hrMb ?_
    simp only [go_sem]
    refine callX_of hS4 ?_
    simp only [go_sem]
    refine callX_of hG ?_
    simp only [go_sem]
    refine callX_of hrG ?_
    simp only [go_sem]
    refine callX_of hS5 ?_
    simp only [go_sem]
    refine callX_of hCf ?_
    simp only [go_sem]
    refine callX_of hSC ?_
    simp only [go_sem]
  have g1 : (n < (w.pts.length : Int)) = True:= eq_true c1
  obtain ⟨q,rfl⟩ : ∃ q : Nat,n = (q : Int):= ⟨n.toNat,by omega⟩
  obtain ⟨x,hx⟩ : ∃ x,w.pts[q]? = some x:= ⟨w.pts[q]'(by omega),List.getElem?_eq_getElem (by omega)⟩
  have hO:= hx1 q x rfl hx
  have hrOx:= hrO x.lk
  have hLm : ∀ p ∈ onW w x.lk,∃ y,w.pts[p]? = some y:= fun p hp => by
   have hp2:= on_memT hp
   exact ⟨w.pts[p],List.getElem?_eq_getElem hp2⟩
  have hLl:= onW_le w x.lk
  have hfy : ∀ (p : Nat) (y : NPt),w.pts[p]? = some y → qf w x p = !(y.rt == x.rt):= fun p y hy => by simp only [qf,hy]
  have c3 : ∀ y : NPt,(y.rt != x.rt) = !(y.rt == x.rt):= fun _ => rfl
  simp only [go_sem,netV,g0,g1,decide_true,List.length_map,Int.natCast_nonneg,Int.toNat_natCast,List.getElem?_map,hx,Option.map_some,rowAgg,avPort,avU]
  refine callX_of hrOx ?_
  generalize onW w x.lk = L at *
  generalize qf w x = f at *
  simp only [go_sem]
  refine aw_loop (fun m E => ∃ i : Nat,i + m = L.length ∧ E = mkE [(1,.lit (.int .i64 (q : Nat))),(3,.lp 3 0),(8,.rp (topoV w)),(11,.lit (.int .i64 (pv : Nat))),(12,.lit (.bool iv)),(13,.lit (.int .i64 qv)),(14,rowO [99] 1 (((L.take i).filter f).map avI)),(15,.sl .none 1 (L.map avI)),(16,.lit (.int .i64 (i : Nat)))] [(3,netV w)]) L.length ?_ ?_
  ·exact ⟨0,by omega,rfl⟩
  ·rintro m _ ⟨i,him,rfl⟩
   have hrI:= fun x => avRow_some 1 .none (AV.lit x) rfl
   by_cases hil : i < L.length
   ·have f1 : ((i : Int) < (L.length : Int)) = True:= eq_true (by omega)
    have hw:= wrap_succ i (by omega)
    obtain ⟨p,hp⟩ : ∃ p,L[i]? = some p:= ⟨L[i],List.getElem?_eq_getElem hil⟩
    obtain ⟨y,hy⟩:= hLm p (List.mem_of_getElem? hp)
    have hfp:= hfy p y hy
    have e1:= flt_take f L hp
    rw [hfp] at e1
    have hR : (((L.take i).filter f).map avI).length ≤ 4294967295:= by
     have:= List.length_filter_le f (L.take i)
     rw [List.length_take] at this
     rw [List.length_map]
     omega
    cases hb : y.rt == x.rt
    ·rw [hb] at e1
     simp only [Bool.not_false,if_true] at e1
     have e2 : ((L.take (i + 1)).filter f).map avI = ((L.take i).filter f).map avI ++ [.lit (.int .i64 (p : Nat))]:= by rw [e1,List.map_append]; rfl
     generalize ((L.take i).filter f).map avI = R at *
     cases R with
     | nil =>
      have ea : ∀ s c,avApp 1 8 [] 99 s c (.sl .nil 0 []) (.sl (.own [98]) 1 [.lit (.int .i64 (p : Nat))]) = _:= fun s c => avApp_nil (d:= 99) (s:= s) (c:= c) 1 8 0 [] [] [.lit (.int .i64 (p : Nat))] (.own [98]) (by simp) (by decide)
      simp only [go_sem,rowO_nil,netV,List.length_map,f1,decide_true,Int.natCast_nonneg,Int.toNat_natCast,List.getElem?_map,hp,hx,hy,hrI,avI,Option.map_some,rowAgg,avPort,avU,c3,hb,hw,ea]
      exact ⟨m - 1,by omega,i + 1,by omega,by simp only [e2,netV]; rfl⟩
     | cons z zs =>
      have ea : ∀ s c,avApp 1 8 [] 99 s c (.sl (.own [99]) 1 (z :: zs)) (.sl (.own [98]) 1 [.lit (.int .i64 (p : Nat))]) = _:= fun s c => avApp_own (d:= 99) (s:= s) (c:= c) 1 8 [] [99] (z :: zs) [.lit (.int .i64 (p : Nat))] (.own [98]) (by simp at hR ⊢; omega) (by decide) rfl
      simp only [go_sem,rowO_cons,netV,List.length_map,f1,decide_true,Int.natCast_nonneg,Int.toNat_natCast,List.getElem?_map,hp,hx,hy,hrI,avI,Option.map_some,rowAgg,avPort,avU,c3,hb,hw,ea]
      exact ⟨m - 1,by omega,i + 1,by omega,by simp only [e2,netV]; rfl⟩
    ·rw [hb] at e1
     simp only [Bool.not_true,Bool.false_eq_true,if_false] at e1
     simp only [go_sem,netV,List.length_map,f1,decide_true,Int.natCast_nonneg,Int.toNat_natCast,List.getElem?_map,hp,hx,hy,hrI,avI,Option.map_some,rowAgg,avPort,avU,c3,hb,hw]
     exact ⟨m - 1,by omega,i + 1,by omega,by simp only [e1,netV]⟩
   ·have f1 : ((i : Int) < (L.length : Int)) = False:= eq_false (by omega)
    have eL : L.take i = L:= List.take_of_length_le (by omega)
    rw [eL,← hO]
    cases O with
    | nil =>
     have hSO:= hSN rfl
     rcases hcase with ⟨rfl,rfl⟩ | ⟨rfl,rfl⟩
     all_goals
      simp only [go_sem,netV,k0,ktt,kff,ktf,decide_true,decide_false,b0,n0,Int.natCast_nonneg,f1,List.length_map,List.map_nil,rowO_nil]
      refine callX_of hOn ?_
      simp only [go_sem]
      refine callX_of hrOn ?_
      simp only [go_sem]
      refine callX_of hS1 ?_
      simp only [go_sem]
      refine callX_of hOf ?_
      simp only [go_sem]
      refine callX_of hrOf ?_
      simp only [go_sem]
      refine callX_of hS2 ?_
      simp only [go_sem]
      refine callX_of hOth ?_
      simp only [go_sem]
      refine callX_of hSO ?_
      simp only [go_sem]
      refine callX_of hMb ?_
      simp only [go_sem]
      refine callX_of hrMb ?_
      simp only [go_sem]
      refine callX_of hS4 ?_
      simp only [go_sem]
      refine callX_of hG ?_
      simp only [go_sem]
      refine callX_of hrG ?_
      simp only [go_sem]
      refine callX_of hS5 ?_
      simp only [go_sem]
      refine callX_of hCf ?_
      simp only [go_sem]
      refine callX_of hSC ?_
      simp only [go_sem]
    | cons z zs =>
     simp only [List.map_cons] at hOth hS3
     rcases hcase with ⟨rfl,rfl⟩ | ⟨rfl,rfl⟩
     all_goals
      simp only [go_sem,netV,k0,ktt,kff,ktf,decide_true,decide_false,b0,n0,Int.natCast_nonneg,f1,List.length_map,List.map_cons,rowO_cons]
      refine callX_of hOn ?_
      simp only [go_sem]
      refine callX_of hrOn ?_
      simp only [go_sem]
      refine callX_of hS1 ?_
      simp only [go_sem]
      refine callX_of hOf ?_
      simp only [go_sem]
      refine callX_of hrOf ?_
      simp only [go_sem]
      refine callX_of hS2 ?_
      simp only [go_sem]
      refine callX_of hOth ?_
      simp only [go_sem]
      refine callX_of hS3 ?_
      simp only [go_sem]
      refine callX_of hMb ?_
      simp only [go_sem]
      refine callX_of hrMb ?_
      simp only [go_sem]
      refine callX_of hS4 ?_
      simp only [go_sem]
      refine callX_of hG ?_
      simp only [go_sem]
      refine callX_of hrG ?_
      simp only [go_sem]
      refine callX_of hS5 ?_
      simp only [go_sem]
      refine callX_of hCf ?_
      simp only [go_sem]
      refine callX_of hSC ?_
      simp only [go_sem]
end Go.Proofs.YtnndbbmidoidpaaGreatDoor.VL
end

