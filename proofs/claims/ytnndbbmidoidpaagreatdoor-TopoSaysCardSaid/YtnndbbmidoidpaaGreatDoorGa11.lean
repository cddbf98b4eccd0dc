import Derived.RangeFuncBox
import Derived.RangeFuncLeaves
import Derived.Shelf.Abstract
import Derived.WalkKit
import Derived.OwnWalkIn
import Derived.TacticsInMore
import Derived.LoopNIn
import Derived.LoopIn
import Derived.Maps.AppendAt
import Derived.Test.YtnndbbmidoidpaaGreatDoorProg
import Derived.Sort.AssemblyPlain
import Derived.Test.YtnndbbmidoidpaaGreatDoorGa10
set_option linter.unusedVariables false
set_option linter.unusedSimpArgs false
section
set_option maxHeartbeats 4000000
namespace Go.Proofs.YtnndbbmidoidpaaGreatDoor.VL
open Go.RowKit Go.Proofs
def idxOf {α : Type} (p : α → Bool) (l : List α) : Int:= match l.findIdx? p with
 | some i => (i : Nat)
 | none => -1
theorem idxOf_none {α : Type} {p : α → Bool} {l : List α} (h : ∀ (i : Nat) (x : α),l[i]? = some x → p x = false) : idxOf p l = -1:= by
 have : l.findIdx? p = none:= by
  rw [List.findIdx?_eq_none_iff]
  intro x hx
  obtain ⟨i,hi,e⟩:= List.mem_iff_getElem.1 hx
  exact h i x (by rw [List.getElem?_eq_getElem hi,e])
 rw [idxOf,this]
theorem idxOf_some {α : Type} {p : α → Bool} {l : List α} {i : Nat} {x : α} (hx : l[i]? = some x) (hp : p x = true) (h : ∀ (j : Nat) (y : α),j < i → l[j]? = some y → p y = false) : idxOf p l = (i : Nat):= by
 have : l.findIdx? p = some i:= by
  rw [List.findIdx?_eq_some_iff_getElem]
  obtain ⟨hi,e⟩:= List.getElem?_eq_some_iff.1 hx
  refine ⟨hi,by rw [e]; exact hp,fun j hj => ?_⟩
  rw [h j l[j] hj (List.getElem?_eq_getElem (by omega))]
  simp
 rw [idxOf,this]
theorem any_idx {α : Type} (p : α → Bool) (l : List α) : decide (0 ≤ idxOf p l) = l.any p:= by
 cases h : l.findIdx? p with
 | none =>
  have e : idxOf p l = -1:= by rw [idxOf,h]
  rw [e]
  rw [List.findIdx?_eq_none_iff] at h
  have : l.any p = false:= by
   rw [List.any_eq_false]
   intro x hx
   simp [h x hx]
  rw [this]
  rfl
 | some i =>
  have e : idxOf p l = (i : Nat):= by rw [idxOf,h]
  rw [e]
  rw [List.findIdx?_eq_some_iff_getElem] at h
  obtain ⟨hi,hp,_⟩:= h
  have : l.any p = true:= List.any_eq_true.2 ⟨l[i],List.getElem_mem hi,hp⟩
  rw [this]
  simp
def rowV {α : Type} (e : Nat) (f : α → AV) : Option (List α) → AV
 | none => .sl .nil 0 []
 | some l => .sl .none e (l.map f)
theorem rowV_cases {α : Type} (e : Nat) (f : α → AV) (s : Option (List α)) : ∃ t e',rowV e f s = .sl t e' ((s.getD []).map f) ∧ lowTok t = t ∧ goneB t = false ∧ frB t = false ∧ (e' = e ∨ s.getD [] = []) ∧ (t = .none ∨ t = .nil ∧ s.getD [] = []):= by
 cases s with
 | none => exact ⟨.nil,0,rfl,rfl,rfl,rfl,.inr rfl,.inr ⟨rfl,rfl⟩⟩
 | some l => exact ⟨.none,e,rfl,rfl,rfl,rfl,.inl rfl,.inl rfl⟩
structure NRt where
 nm : ByteArray
 rank : Int
deriving DecidableEq
def avRouter (x : NRt) : AV:= .agg [avStr x.nm,.lit (.int .i64 x.rank)]
structure NLk where
 nm : ByteArray
 a : Nat
 b : Int
deriving DecidableEq
def avLink (x : NLk) : AV:= .agg [avStr x.nm,avU x.a,.lit (.int .i64 x.b)]
structure NPt where
 rt : Int
 lk : Int
 a : Nat
deriving DecidableEq
def avPort (x : NPt) : AV:= .agg [.lit (.int .i64 x.rt),.lit (.int .i64 x.lk),avU x.a]
structure NRo where
 rt : Int
 a : Nat
 b : Int
 via : Nat
 cost : Int
deriving DecidableEq
def avRoute (x : NRo) : AV:= .agg [.lit (.int .i64 x.rt),avU x.a,.lit (.int .i64 x.b),avU x.via,.lit (.int .i64 x.cost)]
structure NRg where
 a : Nat
 b : Int
 root : Nat
deriving DecidableEq
def avRange (x : NRg) : AV:= .agg [avU x.a,.lit (.int .i64 x.b),avU x.root]
structure NSc where
 lk : Int
 s : Nat
 g : Nat
deriving DecidableEq
def avSource (x : NSc) : AV:= .agg [.lit (.int .i64 x.lk),avU x.s,avU x.g]
theorem C_IndexFuncRouter {f : FuncId} {fst caps : List AV} {asf : NRt → List AV} {p : NRt → Bool} (t : Tok) (e : Nat) (l : List NRt) (hf : frB t = false) (he : e = 2 ∨ l = []) (hl : l.length < 9223372036854775808)
    (hlow : ∀ n, mapO (lower (getC []) 8) (fst ++ [(avRouter n)] ++ caps) = some (asf n)) (hAC : ∀ n ∈ l, AC Tryz.prog f (asf n) (.lit (.bool (p n)))) :
    AC Tryz.prog f_q184 [.sl t e (l.map avRouter), .clo (.func f) fst caps] (.lit (.int .i64 (idxOf p l))) := by
  refine ac_q184 ?_ (Nat.le_add_left 2 17)
  simp only [go_sem, c_q184]
  refine aw_loop (fun m E => ∃ k, k + m = l.length ∧ (∀ (j : Nat) (y : NRt), j < k → l[j]? = some y → p y = false) ∧ E = mkE [(0, .sl t e (l.map avRouter)), (1, .clo (.func f) fst caps), (7, .lit (.int .i64 l.length)), (8, .lit (.int .i64 (k : Nat)))] []) l.length ?_ ?_
  · exact ⟨0, by omega, fun j y hj => absurd hj (Nat.not_lt_zero j), by simp only [go_sem, Int.ofNat_zero]⟩
  · rintro m _ ⟨k, hk, hall, rfl⟩
    simp only [go_sem]
    refine condX_of (fun h => ?_) (fun h => ?_)
    · have hkl : k < l.length := by simpa using h
      obtain rfl : e = 2 := he.resolve_right (fun h => by rw [h] at hkl; simp at hkl)
      obtain ⟨x, hx⟩ : ∃ x, l[k]? = some x := ⟨l[k], List.getElem?_eq_getElem hkl⟩
      have hw := wrap_succ k (by omega)
      have hlx := hlow x
      simp only [avRouter, avStr, avU] at hlx
      simp only [go_sem, h, hx, Int.toNat_natCast, Int.natCast_nonneg, List.getElem?_map, avRow_some, hf, avRouter, avStr, avU, hlx]
      refine callX_of (hAC x (List.mem_of_getElem? hx)) ?_
      cases hp : p x
      · simp only [go_sem, hw]
        refine ⟨m - 1, by omega, k + 1, by omega, fun j y hj hy => ?_, rfl⟩
        by_cases hjk : j = k
        · subst hjk
          rw [hx] at hy
          injection hy with hy
          rw [← hy]
          exact hp
        · exact hall j y (by omega) hy
      · simp only [go_sem, idxOf_some hx hp hall]
    · have hkl : k = l.length := by have : ¬ k < l.length := by simpa using h
                                    omega
      have e : idxOf p l = -1 := idxOf_none fun i x hi => hall i x (by have := (List.getElem?_eq_some_iff.1 hi).1; omega) hi
      simp only [go_sem, h, e]
theorem C_IndexFuncLink {f : FuncId} {fst caps : List AV} {asf : NLk → List AV} {p : NLk → Bool} (t : Tok) (e : Nat) (l : List NLk) (hf : frB t = false) (he : e = 3 ∨ l = []) (hl : l.length < 9223372036854775808)
    (hlow : ∀ n, mapO (lower (getC []) 8) (fst ++ [(avLink n)] ++ caps) = some (asf n)) (hAC : ∀ n ∈ l, AC Tryz.prog f (asf n) (.lit (.bool (p n)))) :
    AC Tryz.prog f_q185 [.sl t e (l.map avLink), .clo (.func f) fst caps] (.lit (.int .i64 (idxOf p l))) := by
  refine ac_q185 ?_ (Nat.le_add_left 2 17)
  simp only [go_sem, c_q185]
  refine aw_loop (fun m E => ∃ k, k + m = l.length ∧ (∀ (j : Nat) (y : NLk), j < k → l[j]? = some y → p y = false) ∧ E = mkE [(0, .sl t e (l.map avLink)), (1, .clo (.func f) fst caps), (7, .lit (.int .i64 l.length)), (8, .lit (.int .i64 (k : Nat)))] []) l.length ?_ ?_
  · exact ⟨0, by omega, fun j y hj => absurd hj (Nat.not_lt_zero j), by simp only [go_sem, Int.ofNat_zero]⟩
  · rintro m _ ⟨k, hk, hall, rfl⟩
    simp only [go_sem]
    refine condX_of (fun h => ?_) (fun h => ?_)
    · have hkl : k < l.length := by simpa using h
      obtain rfl : e = 3 := he.resolve_right (fun h => by rw [h] at hkl; simp at hkl)
      obtain ⟨x, hx⟩ : ∃ x, l[k]? = some x := ⟨l[k], List.getElem?_eq_getElem hkl⟩
      have hw := wrap_succ k (by omega)
      have hlx := hlow x
      simp only [avLink, avStr, avU] at hlx
      simp only [go_sem, h, hx, Int.toNat_natCast, Int.natCast_nonneg, List.getElem?_map, avRow_some, hf, avLink, avStr, avU, hlx]
      refine callX_of (hAC x (List.mem_of_getElem? hx)) ?_
      cases hp : p x
      · simp only [go_sem, hw]
        refine ⟨m - 1, by omega, k + 1, by omega, fun j y hj hy => ?_, rfl⟩
        by_cases hjk : j = k
        · subst hjk
          rw [hx] at hy
          injection hy with hy
          rw [← hy]
          exact hp
        · exact hall j y (by omega) hy
      · simp only [go_sem, idxOf_some hx hp hall]
    · have hkl : k = l.length := by have : ¬ k < l.length := by simpa using h
                                    omega
      have e : idxOf p l = -1 := idxOf_none fun i x hi => hall i x (by have := (List.getElem?_eq_some_iff.1 hi).1; omega) hi
      simp only [go_sem, h, e]
theorem C_IndexFuncPort {f : FuncId} {fst caps : List AV} {asf : NPt → List AV} {p : NPt → Bool} (t : Tok) (e : Nat) (l : List NPt) (hf : frB t = false) (he : e = 3 ∨ l = []) (hl : l.length < 9223372036854775808)
    (hlow : ∀ n, mapO (lower (getC []) 8) (fst ++ [(avPort n)] ++ caps) = some (asf n)) (hAC : ∀ n ∈ l, AC Tryz.prog f (asf n) (.lit (.bool (p n)))) :
    AC Tryz.prog f_q189 [.sl t e (l.map avPort), .clo (.func f) fst caps] (.lit (.int .i64 (idxOf p l))) := by
  refine ac_q189 ?_ (Nat.le_add_left 2 17)
  simp only [go_sem, c_q189]
  refine aw_loop (fun m E => ∃ k, k + m = l.length ∧ (∀ (j : Nat) (y : NPt), j < k → l[j]? = some y → p y = false) ∧ E = mkE [(0, .sl t e (l.map avPort)), (1, .clo (.func f) fst caps), (7, .lit (.int .i64 l.length)), (8, .lit (.int .i64 (k : Nat)))] []) l.length ?_ ?_
  · exact ⟨0, by omega, fun j y hj => absurd hj (Nat.not_lt_zero j), by simp only [go_sem, Int.ofNat_zero]⟩
  · rintro m _ ⟨k, hk, hall, rfl⟩
    simp only [go_sem]
    refine condX_of (fun h => ?_) (fun h => ?_)
    · have hkl : k < l.length := by simpa using h
      obtain rfl : e = 3 := he.resolve_right (fun h => by rw [h] at hkl; simp at hkl)
      obtain ⟨x, hx⟩ : ∃ x, l[k]? = some x := ⟨l[k], List.getElem?_eq_getElem hkl⟩
      have hw := wrap_succ k (by omega)
      have hlx := hlow x
      simp only [avPort, avStr, avU] at hlx
      simp only [go_sem, h, hx, Int.toNat_natCast, Int.natCast_nonneg, List.getElem?_map, avRow_some, hf, avPort, avStr, avU, hlx]
      refine callX_of (hAC x (List.mem_of_getElem? hx)) ?_
      cases hp : p x
      · simp only [go_sem, hw]
        refine ⟨m - 1, by omega, k + 1, by omega, fun j y hj hy => ?_, rfl⟩
        by_cases hjk : j = k
        · subst hjk
          rw [hx] at hy
          injection hy with hy
          rw [← hy]
          exact hp
        · exact hall j y (by omega) hy
      · simp only [go_sem, idxOf_some hx hp hall]
    · have hkl : k = l.length := by have : ¬ k < l.length := by simpa using h
                                    omega
      have e : idxOf p l = -1 := idxOf_none fun i x hi => hall i x (by have := (List.getElem?_eq_some_iff.1 hi).1; omega) hi
      simp only [go_sem, h, e]
theorem C_IndexFuncRange {f : FuncId} {fst caps : List AV} {asf : NRg → List AV} {p : NRg → Bool} (t : Tok) (e : Nat) (l : List NRg) (hf : frB t = false) (he : e = 3 ∨ l = []) (hl : l.length < 9223372036854775808)
    (hlow : ∀ n, mapO (lower (getC []) 8) (fst ++ [(avRange n)] ++ caps) = some (asf n)) (hAC : ∀ n ∈ l, AC Tryz.prog f (asf n) (.lit (.bool (p n)))) :
    AC Tryz.prog f_q190 [.sl t e (l.map avRange), .clo (.func f) fst caps] (.lit (.int .i64 (idxOf p l))) := by
  refine ac_q190 ?_ (Nat.le_add_left 2 17)
  simp only [go_sem, c_q190]
  refine aw_loop (fun m E => ∃ k, k + m = l.length ∧ (∀ (j : Nat) (y : NRg), j < k → l[j]? = some y → p y = false) ∧ E = mkE [(0, .sl t e (l.map avRange)), (1, .clo (.func f) fst caps), (7, .lit (.int .i64 l.length)), (8, .lit (.int .i64 (k : Nat)))] []) l.length ?_ ?_
  · exact ⟨0, by omega, fun j y hj => absurd hj (Nat.not_lt_zero j), by simp only [go_sem, Int.ofNat_zero]⟩
  · rintro m _ ⟨k, hk, hall, rfl⟩
    simp only [go_sem]
    refine condX_of (fun h => ?_) (fun h => ?_)
    · have hkl : k < l.length := by simpa using h
      obtain rfl : e = 3 := he.resolve_right (fun h => by rw [h] at hkl; simp at hkl)
      obtain ⟨x, hx⟩ : ∃ x, l[k]? = some x := ⟨l[k], List.getElem?_eq_getElem hkl⟩
      have hw := wrap_succ k (by omega)
      have hlx := hlow x
      simp only [avRange, avStr, avU] at hlx
      simp only [go_sem, h, hx, Int.toNat_natCast, Int.natCast_nonneg, List.getElem?_map, avRow_some, hf, avRange, avStr, avU, hlx]
      refine callX_of (hAC x (List.mem_of_getElem? hx)) ?_
      cases hp : p x
      · simp only [go_sem, hw]
        refine ⟨m - 1, by omega, k + 1, by omega, fun j y hj hy => ?_, rfl⟩
        by_cases hjk : j = k
        · subst hjk
          rw [hx] at hy
          injection hy with hy
          rw [← hy]
          exact hp
        · exact hall j y (by omega) hy
      · simp only [go_sem, idxOf_some hx hp hall]
    · have hkl : k = l.length := by have : ¬ k < l.length := by simpa using h
                                    omega
      have e : idxOf p l = -1 := idxOf_none fun i x hi => hall i x (by have := (List.getElem?_eq_some_iff.1 hi).1; omega) hi
      simp only [go_sem, h, e]
theorem C_IndexFuncSource {f : FuncId} {fst caps : List AV} {asf : NSc → List AV} {p : NSc → Bool} (t : Tok) (e : Nat) (l : List NSc) (hf : frB t = false) (he : e = 3 ∨ l = []) (hl : l.length < 9223372036854775808)
    (hlow : ∀ n, mapO (lower (getC []) 8) (fst ++ [(avSource n)] ++ caps) = some (asf n)) (hAC : ∀ n ∈ l, AC Tryz.prog f (asf n) (.lit (.bool (p n)))) :
    AC Tryz.prog f_q191 [.sl t e (l.map avSource), .clo (.func f) fst caps] (.lit (.int .i64 (idxOf p l))) := by
  refine ac_q191 ?_ (Nat.le_add_left 2 17)
  simp only [go_sem, c_q191]
  refine aw_loop (fun m E => ∃ k, k + m = l.length ∧ (∀ (j : Nat) (y : NSc), j < k → l[j]? = some y → p y = false) ∧ E = mkE [(0, .sl t e (l.map avSource)), (1, .clo (.func f) fst caps), (7, .lit (.int .i64 l.length)), (8, .lit (.int .i64 (k : Nat)))] []) l.length ?_ ?_
  · exact ⟨0, by omega, fun j y hj => absurd hj (Nat.not_lt_zero j), by simp only [go_sem, Int.ofNat_zero]⟩
  · rintro m _ ⟨k, hk, hall, rfl⟩
    simp only [go_sem]
    refine condX_of (fun h => ?_) (fun h => ?_)
    · have hkl : k < l.length := by simpa using h
      obtain rfl : e = 3 := he.resolve_right (fun h => by rw [h] at hkl; simp at hkl)
      obtain ⟨x, hx⟩ : ∃ x, l[k]? = some x := ⟨l[k], List.getElem?_eq_getElem hkl⟩
      have hw := wrap_succ k (by omega)
      have hlx := hlow x
      simp only [avSource, avStr, avU] at hlx
      simp only [go_sem, h, hx, Int.toNat_natCast, Int.natCast_nonneg, List.getElem?_map, avRow_some, hf, avSource, avStr, avU, hlx]
      refine callX_of (hAC x (List.mem_of_getElem? hx)) ?_
      cases hp : p x
      · simp only [go_sem, hw]
        refine ⟨m - 1, by omega, k + 1, by omega, fun j y hj hy => ?_, rfl⟩
        by_cases hjk : j = k
        · subst hjk
          rw [hx] at hy
          injection hy with hy
          rw [← hy]
          exact hp
        · exact hall j y (by omega) hy
      · simp only [go_sem, idxOf_some hx hp hall]
    · have hkl : k = l.length := by have : ¬ k < l.length := by simpa using h
                                    omega
      have e : idxOf p l = -1 := idxOf_none fun i x hi => hall i x (by have := (List.getElem?_eq_some_iff.1 hi).1; omega) hi
      simp only [go_sem, h, e]
end Go.Proofs.YtnndbbmidoidpaaGreatDoor.VL
end

section
set_option maxHeartbeats 4000000
namespace Go.Proofs.YtnndbbmidoidpaaGreatDoor.VL
open Go.RowKit Go.Proofs
theorem nat_beqb (n m : Nat) : ((n : Int) == (m : Int)) = (n == m):= by
 rw [Bool.eq_iff_iff]
 simp only [beq_iff_eq]
 omega
def p_router_1 (x : NRt) (y : NRt) : Bool:= y.nm.toList == x.nm.toList
theorem C_router_1 (x : NRt) (y : NRt) : AC Tryz.prog f_q127 [avRouter y,.bp [avStr x.nm,.lit (.int .i64 x.rank)]] (.lit (.bool (p_router_1 x y))):= by
 refine ac_q127 ?_ (Nat.le_add_left 2 _)
 unfold p_router_1
 simp only [go_sem,c_q127,avRouter,avStr,avU,nat_beqb]
theorem C_has_router_1 (x : NRt) (t : Tok) (e : Nat) (l : List NRt) (ht : lowTok t = t) (hf : frB t = false) (he : e = 2 ∨ l = []) (hl : l.length < 9223372036854775808) :
  AC Tryz.prog f_q126 [.sl t e (l.map avRouter),.clo (.func f_q127) [] [.bp [avStr x.nm,.lit (.int .i64 x.rank)]]] (.lit (.bool (l.any (p_router_1 x)))):= by
 refine ac_q126 ?_ (Nat.le_add_left 2 _)
 simp only [go_sem,c_q126,avStr,avU,ht]
 refine callX_of (C_IndexFuncRouter (asf:= fun y => [avRouter y,.bp [avStr x.nm,.lit (.int .i64 x.rank)]]) (p:= p_router_1 x) t e l hf he hl (fun y => ?_) (fun y hy => C_router_1 x y)) ?_
 ·simp only [go_sem,avRouter,avStr,avU,lower]
 ·simp only [go_sem,any_idx]
def p_link_1 (x : NLk) (y : NLk) : Bool:= y.nm.toList == x.nm.toList
theorem C_link_1 (x : NLk) (y : NLk) : AC Tryz.prog f_q130 [avLink y,.bp [avStr x.nm,avU x.a,.lit (.int .i64 x.b)]] (.lit (.bool (p_link_1 x y))):= by
 refine ac_q130 ?_ (Nat.le_add_left 2 _)
 unfold p_link_1
 simp only [go_sem,c_q130,avLink,avStr,avU,nat_beqb]
theorem C_has_link_1 (x : NLk) (t : Tok) (e : Nat) (l : List NLk) (ht : lowTok t = t) (hf : frB t = false) (he : e = 3 ∨ l = []) (hl : l.length < 9223372036854775808) :
  AC Tryz.prog f_q129 [.sl t e (l.map avLink),.clo (.func f_q130) [] [.bp [avStr x.nm,avU x.a,.lit (.int .i64 x.b)]]] (.lit (.bool (l.any (p_link_1 x)))):= by
 refine ac_q129 ?_ (Nat.le_add_left 2 _)
 simp only [go_sem,c_q129,avStr,avU,ht]
 refine callX_of (C_IndexFuncLink (asf:= fun y => [avLink y,.bp [avStr x.nm,avU x.a,.lit (.int .i64 x.b)]]) (p:= p_link_1 x) t e l hf he hl (fun y => ?_) (fun y hy => C_link_1 x y)) ?_
 ·simp only [go_sem,avLink,avStr,avU,lower]
 ·simp only [go_sem,any_idx]
def p_port_1 (x : NPt) (y : NPt) : Bool:= y.a == x.a || (y.rt == x.rt && y.lk == x.lk)
theorem C_port_1 (x : NPt) (y : NPt) : AC Tryz.prog f_q137 [avPort y,.bp [.lit (.int .i64 x.rt),.lit (.int .i64 x.lk),avU x.a]] (.lit (.bool (p_port_1 x y))):= by
 refine ac_q137 ?_ (Nat.le_add_left 2 _)
 unfold p_port_1
 cases e0 : (y.a == x.a) <;> cases e1 : (y.rt == x.rt) <;> simp only [go_sem,c_q137,avPort,avStr,avU,nat_beqb,e0,e1,Bool.true_and,Bool.false_and,Bool.true_or,Bool.false_or,Bool.or_true,Bool.or_false,bne]
theorem C_has_port_1 (x : NPt) (t : Tok) (e : Nat) (l : List NPt) (ht : lowTok t = t) (hf : frB t = false) (he : e = 3 ∨ l = []) (hl : l.length < 9223372036854775808) :
  AC Tryz.prog f_q136 [.sl t e (l.map avPort),.clo (.func f_q137) [] [.bp [.lit (.int .i64 x.rt),.lit (.int .i64 x.lk),avU x.a]]] (.lit (.bool (l.any (p_port_1 x)))):= by
 refine ac_q136 ?_ (Nat.le_add_left 2 _)
 simp only [go_sem,c_q136,avStr,avU,ht]
 refine callX_of (C_IndexFuncPort (asf:= fun y => [avPort y,.bp [.lit (.int .i64 x.rt),.lit (.int .i64 x.lk),avU x.a]]) (p:= p_port_1 x) t e l hf he hl (fun y => ?_) (fun y hy => C_port_1 x y)) ?_
 ·simp only [go_sem,avPort,avStr,avU,lower]
 ·simp only [go_sem,any_idx]
def p_ranges_1 (x : NRg) (y : NRg) : Bool:= y.a == x.a && y.b == x.b
theorem C_ranges_1 (x : NRg) (y : NRg) : AC Tryz.prog f_q140 [avRange y,.bp [avU x.a,.lit (.int .i64 x.b),avU x.root]] (.lit (.bool (p_ranges_1 x y))):= by
 refine ac_q140 ?_ (Nat.le_add_left 2 _)
 unfold p_ranges_1
 cases e0 : (y.a == x.a) <;> simp only [go_sem,c_q140,avRange,avStr,avU,nat_beqb,e0,Bool.true_and,Bool.false_and,Bool.true_or,Bool.false_or,Bool.or_true,Bool.or_false,bne]
theorem C_has_ranges_1 (x : NRg) (t : Tok) (e : Nat) (l : List NRg) (ht : lowTok t = t) (hf : frB t = false) (he : e = 3 ∨ l = []) (hl : l.length < 9223372036854775808) :
  AC Tryz.prog f_q139 [.sl t e (l.map avRange),.clo (.func f_q140) [] [.bp [avU x.a,.lit (.int .i64 x.b),avU x.root]]] (.lit (.bool (l.any (p_ranges_1 x)))):= by
 refine ac_q139 ?_ (Nat.le_add_left 2 _)
 simp only [go_sem,c_q139,avStr,avU,ht]
 refine callX_of (C_IndexFuncRange (asf:= fun y => [avRange y,.bp [avU x.a,.lit (.int .i64 x.b),avU x.root]]) (p:= p_ranges_1 x) t e l hf he hl (fun y => ?_) (fun y hy => C_ranges_1 x y)) ?_
 ·simp only [go_sem,avRange,avStr,avU,lower]
 ·simp only [go_sem,any_idx]
def p_source_1 (x : NSc) (y : NSc) : Bool:= (y.s == x.s && y.g == x.g) || (y.s == x.s && y.lk != x.lk)
theorem C_source_1 (x : NSc) (y : NSc) : AC Tryz.prog f_q143 [avSource y,.bp [.lit (.int .i64 x.lk),avU x.s,avU x.g]] (.lit (.bool (p_source_1 x y))):= by
 refine ac_q143 ?_ (Nat.le_add_left 2 _)
 unfold p_source_1
 cases e0 : (y.s == x.s) <;> cases e1 : (y.g == x.g) <;> simp only [go_sem,c_q143,avSource,avStr,avU,nat_beqb,e0,e1,Bool.true_and,Bool.false_and,Bool.true_or,Bool.false_or,Bool.or_true,Bool.or_false,bne]
theorem C_has_source_1 (x : NSc) (t : Tok) (e : Nat) (l : List NSc) (ht : lowTok t = t) (hf : frB t = false) (he : e = 3 ∨ l = []) (hl : l.length < 9223372036854775808) :
  AC Tryz.prog f_q142 [.sl t e (l.map avSource),.clo (.func f_q143) [] [.bp [.lit (.int .i64 x.lk),avU x.s,avU x.g]]] (.lit (.bool (l.any (p_source_1 x)))):= by
 refine ac_q142 ?_ (Nat.le_add_left 2 _)
 simp only [go_sem,c_q142,avStr,avU,ht]
 refine callX_of (C_IndexFuncSource (asf:= fun y => [avSource y,.bp [.lit (.int .i64 x.lk),avU x.s,avU x.g]]) (p:= p_source_1 x) t e l hf he hl (fun y => ?_) (fun y hy => C_source_1 x y)) ?_
 ·simp only [go_sem,avSource,avStr,avU,lower]
 ·simp only [go_sem,any_idx]
def p_source_2 (x : NSc) (y : NPt) : Bool:= y.a == x.s
theorem C_source_2 (x : NSc) (y : NPt) : AC Tryz.prog f_q144 [avPort y,.bp [.lit (.int .i64 x.lk),avU x.s,avU x.g]] (.lit (.bool (p_source_2 x y))):= by
 refine ac_q144 ?_ (Nat.le_add_left 2 _)
 unfold p_source_2
 simp only [go_sem,c_q144,avPort,avStr,avU,nat_beqb]
theorem C_has_source_2 (x : NSc) (t : Tok) (e : Nat) (l : List NPt) (ht : lowTok t = t) (hf : frB t = false) (he : e = 3 ∨ l = []) (hl : l.length < 9223372036854775808) :
  AC Tryz.prog f_q136 [.sl t e (l.map avPort),.clo (.func f_q144) [] [.bp [.lit (.int .i64 x.lk),avU x.s,avU x.g]]] (.lit (.bool (l.any (p_source_2 x)))):= by
 refine ac_q136 ?_ (Nat.le_add_left 2 _)
 simp only [go_sem,c_q136,avStr,avU,ht]
 refine callX_of (C_IndexFuncPort (asf:= fun y => [avPort y,.bp [.lit (.int .i64 x.lk),avU x.s,avU x.g]]) (p:= p_source_2 x) t e l hf he hl (fun y => ?_) (fun y hy => C_source_2 x y)) ?_
 ·simp only [go_sem,avPort,avStr,avU,lower]
 ·simp only [go_sem,any_idx]
end Go.Proofs.YtnndbbmidoidpaaGreatDoor.VL
end

section
set_option maxHeartbeats 4000000
namespace Go.Proofs.YtnndbbmidoidpaaGreatDoor.VL
open Go.RowKit Go.Proofs
structure NMb where
 lk : Int
 g : Nat
 only : Bool
 src : Option (List Nat)
def avMember (x : NMb) : AV:= .agg [.lit (.int .i64 x.lk),avU x.g,.lit (.bool x.only),rowV 1 avU x.src]
structure Net where
 rts : Option (List NRt)
 lks : Option (List NLk)
 pts : Option (List NPt)
 ros : Option (List NRo)
 rgs : Option (List NRg)
 scs : Option (List NSc)
 mbs : Option (List NMb)
def netL (c : Net) : List AV:= [rowV 2 avRouter c.rts,rowV 3 avLink c.lks,rowV 3 avPort c.pts,rowV 5 avRoute c.ros,rowV 3 avRange c.rgs,rowV 3 avSource c.scs,rowV 4 avMember c.mbs]
def amiss : Option Nat → AV
 | none => .lit .nilIface
 | some g => .gl g
def rtOf (l : List NRt) (i : Nat) (x : NRt) : Option Nat :=
 if nameOK x.nm.data.toList = false then some 7 else if (l.take i).any (p_router_1 x) = true then some 2 else if costN x.rank = false then some 3 else none
theorem headSl {α : Type} (f : α → AV) (n : Nat) (l : List α) (i : Nat) (h : i ≤ l.length) : avSl n .none n (l.map f) (some ((0 : Nat) : Int)) (some (i : Int)) = some (.sl .none n ((l.take i).map f)):= by
 rw [avSl_some n .none (l.map f) _ _ rfl ⟨by omega,by omega,by rw [List.length_map]; omega⟩]
 rw [List.map_take]
 simp [aval.cutTok]
theorem rowAgg (n : Nat) (cs : List AV) : avRow n n .none (some (.agg cs)) = if (AV.agg cs).row = true then some (rowP .none (.agg cs)) else none:= avRow_some n .none (.agg cs) rfl
theorem C_router (c : Net) (l : List NRt) (hc : c.rts = some l) (i : Nat) (x : NRt) (hx : l[i]? = some x) (hl : l.length < 9223372036854775808) (hn : x.nm.size < 9223372036854775808) :
  AC Tryz.prog f_q70 [.agg (netL c),.lit (.int .i64 (i : Nat))] (amiss (rtOf l i x)):= by
 have hi : i < l.length:= (List.getElem?_eq_some_iff.1 hx).1
 refine ac_q70 ?_ (Nat.le_add_left 2 _) (by unfold rtOf; split <;> (try split) <;> (try split) <;> rfl)
 obtain ⟨t2,e2,r2,lt2,gt2,ft2,_⟩:= rowV_cases 3 avLink c.lks
 obtain ⟨t3,e3,r3,lt3,gt3,ft3,_⟩:= rowV_cases 3 avPort c.pts
 obtain ⟨t4,e4,r4,lt4,gt4,ft4,_⟩:= rowV_cases 5 avRoute c.ros
 obtain ⟨t5,e5,r5,lt5,gt5,ft5,_⟩:= rowV_cases 3 avRange c.rgs
 obtain ⟨t6,e6,r6,lt6,gt6,ft6,_⟩:= rowV_cases 3 avSource c.scs
 obtain ⟨t7,e7,r7,lt7,gt7,ft7,_⟩:= rowV_cases 4 avMember c.mbs
 have r1 : rowV 2 avRouter (some l) = .sl .none 2 (l.map avRouter):= rfl
 simp only [go_sem,c_q70,netL,hc,r1,r2,r3,r4,r5,r6,r7,lt2,lt3,lt4,lt5,lt6,lt7,gt2,gt3,gt4,gt5,gt6,gt7,Int.toNat_natCast,Int.natCast_nonneg,List.getElem?_map,hx,rowAgg,avRouter,avStr]
 refine callX_of (C_Name x.nm hn) ?_
 cases h1 : nameOK x.nm.data.toList
 ·simp only [go_sem,errN,h1,gs1,rtOf,amiss,Bool.false_eq_true,if_true]
 have sl1:= headSl avRouter 2 l i (by omega)
 simp only [go_sem,errN,h1,Int.toNat_natCast,Int.natCast_nonneg,sl1]
 have hC:= C_has_router_1 x .none 2 (l.take i) rfl rfl (.inl rfl) (by rw [List.length_take]; omega)
 simp only [avStr] at hC
 refine callX_of hC ?_
 have g2 : (2 ∈ GS) = True:= eq_true (by simp [GS])
 have g3 : (3 ∈ GS) = True:= eq_true (by simp [GS])
 cases h2 : (l.take i).any (p_router_1 x)
 ·simp only [go_sem,h2]
  refine callX_of (C_cost x.rank) ?_
  cases h3 : costN x.rank
  ·simp only [go_sem,h3,g3,rtOf,h1,h2,amiss,Bool.not_false,Bool.true_eq_false,Bool.false_eq_true]
  ·simp only [go_sem,h3,rtOf,h1,h2,amiss,Bool.not_true,Bool.true_eq_false,Bool.false_eq_true]
 ·simp only [go_sem,h2,g2,rtOf,h1,amiss,Bool.true_eq_false,Bool.false_eq_true]
end Go.Proofs.YtnndbbmidoidpaaGreatDoor.VL
end

section
set_option maxHeartbeats 4000000
namespace Go.Proofs.YtnndbbmidoidpaaGreatDoor.VL
open Go.RowKit Go.Proofs
theorem g_twice : (2 ∈ GS) = True:= eq_true (by simp [GS])
theorem g_range : (3 ∈ GS) = True:= eq_true (by simp [GS])
theorem g_kind : (4 ∈ GS) = True:= eq_true (by simp [GS])
def lkOf (l : List NLk) (i : Nat) (x : NLk) : Option Nat :=
 if nameOK x.nm.data.toList = false then some 7 else if (l.take i).any (p_link_1 x) = true then some 2 else if validN x.a x.b = false then some 3
 else if (withinN x.a x.b 3758096384 4 || withinN 3758096384 4 x.a x.b) = true then some 4 else none
theorem C_link (c : Net) (l : List NLk) (hc : c.lks = some l) (i : Nat) (x : NLk) (hx : l[i]? = some x) (hl : l.length < 9223372036854775808) (hn : x.nm.size < 9223372036854775808) (ha : x.a < 4294967296) :
  AC Tryz.prog f_q71 [.agg (netL c),.lit (.int .i64 (i : Nat))] (amiss (lkOf l i x)):= by
 have hi : i < l.length:= (List.getElem?_eq_some_iff.1 hx).1
 refine ac_q71 ?_ (Nat.le_add_left 2 _) (by unfold lkOf; split <;> (try split) <;> (try split) <;> (try split) <;> rfl)
 obtain ⟨t2,e2,r2,lt2,gt2,ft2,_⟩:= rowV_cases 2 avRouter c.rts
 obtain ⟨t3,e3,r3,lt3,gt3,ft3,_⟩:= rowV_cases 3 avPort c.pts
 obtain ⟨t4,e4,r4,lt4,gt4,ft4,_⟩:= rowV_cases 5 avRoute c.ros
 obtain ⟨t5,e5,r5,lt5,gt5,ft5,_⟩:= rowV_cases 3 avRange c.rgs
 obtain ⟨t6,e6,r6,lt6,gt6,ft6,_⟩:= rowV_cases 3 avSource c.scs
 obtain ⟨t7,e7,r7,lt7,gt7,ft7,_⟩:= rowV_cases 4 avMember c.mbs
 have r1 : rowV 3 avLink (some l) = .sl .none 3 (l.map avLink):= rfl
 simp only [go_sem,c_q71,netL,hc,r1,r2,r3,r4,r5,r6,r7,lt2,lt3,lt4,lt5,lt6,lt7,gt2,gt3,gt4,gt5,gt6,gt7,Int.toNat_natCast,Int.natCast_nonneg,List.getElem?_map,hx,rowAgg,avLink,avStr,avU]
 refine callX_of (C_Name x.nm hn) ?_
 cases h1 : nameOK x.nm.data.toList
 ·simp only [go_sem,errN,h1,gs1,lkOf,amiss,Bool.false_eq_true,if_true]
 have sl1:= headSl avLink 3 l i (by omega)
 simp only [go_sem,errN,h1,Int.toNat_natCast,Int.natCast_nonneg,sl1]
 have hC:= C_has_link_1 x .none 3 (l.take i) rfl rfl (.inl rfl) (by rw [List.length_take]; omega)
 simp only [avStr,avU] at hC
 refine callX_of hC ?_
 cases h2 : (l.take i).any (p_link_1 x)
 ·simp only [go_sem,h2]
  refine callX_of (C_Valid x.a x.b ha) ?_
  cases h3 : validN x.a x.b
  ·simp only [go_sem,h3,g_range,lkOf,h1,h2,amiss,Bool.not_false,Bool.true_eq_false,Bool.false_eq_true]
  simp only [go_sem,h3,Bool.not_true]
  refine callX_of C_groups ?_
  simp only [go_sem,avPfx,avU]
  refine callX_of (C_Within x.a x.b 3758096384 4 ha (by decide)) ?_
  cases h4 : withinN x.a x.b 3758096384 4
  ·simp only [go_sem,h4]
   refine callX_of C_groups ?_
   simp only [go_sem,avPfx,avU]
   refine callX_of (C_Within 3758096384 4 x.a x.b (by decide) ha) ?_
   cases h5 : withinN 3758096384 4 x.a x.b
   ·simp only [go_sem,h5,lkOf,h1,h2,h3,h4,amiss,Bool.or_false,Bool.true_eq_false,Bool.false_eq_true]
   ·simp only [go_sem,h5,g_kind,lkOf,h1,h2,h3,h4,amiss,Bool.false_or,Bool.true_eq_false,Bool.false_eq_true]
  ·simp only [go_sem,h4,g_kind,lkOf,h1,h2,h3,amiss,Bool.true_or,Bool.true_eq_false,Bool.false_eq_true]
 ·simp only [go_sem,h2,g_twice,lkOf,h1,amiss,Bool.true_eq_false,Bool.false_eq_true]
end Go.Proofs.YtnndbbmidoidpaaGreatDoor.VL
end

section
set_option maxHeartbeats 4000000
namespace Go.Proofs.YtnndbbmidoidpaaGreatDoor.VL
open Go.RowKit Go.Proofs
def onN (y : NLk) (a : Nat) : Bool:= !(a == 0) && inN y.a y.b a
theorem C_on (c : Net) (l : List NLk) (hc : c.lks = some l) (k : Nat) (y : NLk) (hy : l[k]? = some y) (a : Nat) (ha : a < 4294967296) (hp : y.a < 4294967296) :
  AC Tryz.prog f_q135 [.agg (netL c),.lit (.int .i64 (k : Nat)),avU a] (.lit (.bool (onN y a))):= by
 refine ac_q135 ?_ (Nat.le_add_left 3 _)
 obtain ⟨t2,e2,r2,lt2,gt2,ft2,_⟩:= rowV_cases 2 avRouter c.rts
 obtain ⟨t3,e3,r3,lt3,gt3,ft3,_⟩:= rowV_cases 3 avPort c.pts
 obtain ⟨t4,e4,r4,lt4,gt4,ft4,_⟩:= rowV_cases 5 avRoute c.ros
 obtain ⟨t5,e5,r5,lt5,gt5,ft5,_⟩:= rowV_cases 3 avRange c.rgs
 obtain ⟨t6,e6,r6,lt6,gt6,ft6,_⟩:= rowV_cases 3 avSource c.scs
 obtain ⟨t7,e7,r7,lt7,gt7,ft7,_⟩:= rowV_cases 4 avMember c.mbs
 have r1 : rowV 3 avLink (some l) = .sl .none 3 (l.map avLink):= rfl
 have e : ((a : Int) != 0) = !(a == 0):= by rw [bne,nat_beq0]; rfl
 have hI:= C_In y.a y.b a hp ha
 simp only [avPfx,avU] at hI
 unfold onN
 cases h : a == 0
 ·simp only [go_sem,c_q135,netL,hc,r1,r2,r3,r4,r5,r6,r7,lt2,lt3,lt4,lt5,lt6,lt7,gt2,gt3,gt4,gt5,gt6,gt7,avU,e,h,Bool.not_false,Bool.true_and,Int.toNat_natCast,Int.natCast_nonneg,List.getElem?_map,hy,rowAgg,avLink,avStr]
  refine callX_of hI ?_
  simp only [go_sem,h,Bool.not_false]
 ·simp only [go_sem,c_q135,netL,hc,r1,r2,r3,r4,r5,r6,r7,lt2,lt3,lt4,lt5,lt6,lt7,gt2,gt3,gt4,gt5,gt6,gt7,avU,e,h,Bool.not_true,Bool.false_and]
end Go.Proofs.YtnndbbmidoidpaaGreatDoor.VL
end

section
set_option maxHeartbeats 4000000
namespace Go.Proofs.YtnndbbmidoidpaaGreatDoor.VL
open Go.RowKit Go.Proofs
theorem g_none : (5 ∈ GS) = True:= eq_true (by simp [GS])
theorem g_away : (6 ∈ GS) = True:= eq_true (by simp [GS])
def roOf (c : Net) (x : NRo) : Option Nat :=
 if placeN x.rt (c.rts.getD []).length = false then some 5 else if (validN x.a x.b && costN x.cost) = false then some 3
 else if hostN x.via = false then some 4 else none
theorem C_route (c : Net) (l : List NRo) (hc : c.ros = some l) (i : Nat) (x : NRo) (hx : l[i]? = some x) (hl : l.length < 9223372036854775808) (ha : x.a < 4294967296) (hv : x.via < 4294967296) :
  AC Tryz.prog f_q73 [.agg (netL c),.lit (.int .i64 (i : Nat))] (amiss (roOf c x)):= by
 refine ac_q73 ?_ (Nat.le_add_left 2 _) (by unfold roOf; split <;> (try split) <;> (try split) <;> rfl)
 obtain ⟨t1,e1,r1,lt1,gt1,ft1,_⟩:= rowV_cases 2 avRouter c.rts
 obtain ⟨t2,e2,r2,lt2,gt2,ft2,_⟩:= rowV_cases 3 avLink c.lks
 obtain ⟨t3,e3,r3,lt3,gt3,ft3,_⟩:= rowV_cases 3 avPort c.pts
 obtain ⟨t5,e5,r5,lt5,gt5,ft5,_⟩:= rowV_cases 3 avRange c.rgs
 obtain ⟨t6,e6,r6,lt6,gt6,ft6,_⟩:= rowV_cases 3 avSource c.scs
 obtain ⟨t7,e7,r7,lt7,gt7,ft7,_⟩:= rowV_cases 4 avMember c.mbs
 have r4 : rowV 5 avRoute (some l) = .sl .none 5 (l.map avRoute):= rfl
 simp only [go_sem,c_q73,netL,hc,r1,r2,r3,r4,r5,r6,r7,lt1,lt2,lt3,lt5,lt6,lt7,gt1,gt2,gt3,gt5,gt6,gt7,Int.toNat_natCast,Int.natCast_nonneg,List.getElem?_map,hx,rowAgg,avRoute,avU,List.length_map]
 refine callX_of (C_place x.rt (c.rts.getD []).length) ?_
 cases h1 : placeN x.rt (c.rts.getD []).length
 ·simp only [go_sem,h1,g_none,roOf,amiss,Bool.not_false]
 simp only [go_sem,h1,Bool.not_true]
 have hV:= C_Valid x.a x.b ha
 simp only [avPfx,avU] at hV
 refine callX_of hV ?_
 cases h2 : validN x.a x.b
 ·simp only [go_sem,h2,g_range,roOf,h1,amiss,Bool.not_false,Bool.false_and,Bool.true_eq_false]
 simp only [go_sem,h2,Bool.not_true]
 refine callX_of (C_cost x.cost) ?_
 cases h3 : costN x.cost
 ·simp only [go_sem,h3,h2,g_range,roOf,h1,amiss,Bool.not_false,Bool.not_true,Bool.and_false,Bool.true_eq_false]
 simp only [go_sem,h3,Bool.not_true]
 refine callX_of (C_host x.via hv) ?_
 cases h4 : hostN x.via
 ·simp only [go_sem,h4,h3,h2,g_kind,roOf,h1,amiss,Bool.not_false,Bool.and_self,Bool.true_eq_false]
 ·simp only [go_sem,h4,h3,h2,roOf,h1,amiss,Bool.not_true,Bool.and_self,Bool.true_eq_false]
end Go.Proofs.YtnndbbmidoidpaaGreatDoor.VL
end

section
set_option maxHeartbeats 4000000
namespace Go.Proofs.YtnndbbmidoidpaaGreatDoor.VL
open Go.RowKit Go.Proofs
def rgOf (l : List NRg) (i : Nat) (x : NRg) : Option Nat :=
 if validN x.a x.b = false then some 3 else if (withinN x.a x.b 3758096384 4 && hostN x.root) = false then some 4
 else if (l.take i).any (p_ranges_1 x) = true then some 2 else none
theorem C_ranges (c : Net) (l : List NRg) (hc : c.rgs = some l) (i : Nat) (x : NRg) (hx : l[i]? = some x) (hl : l.length < 9223372036854775808) (ha : x.a < 4294967296) (hv : x.root < 4294967296) :
  AC Tryz.prog f_q74 [.agg (netL c),.lit (.int .i64 (i : Nat))] (amiss (rgOf l i x)):= by
 have hi : i < l.length:= (List.getElem?_eq_some_iff.1 hx).1
 refine ac_q74 ?_ (Nat.le_add_left 2 _) (by unfold rgOf; split <;> (try split) <;> (try split) <;> rfl)
 obtain ⟨t1,e1,r1,lt1,gt1,ft1,_⟩:= rowV_cases 2 avRouter c.rts
 obtain ⟨t2,e2,r2,lt2,gt2,ft2,_⟩:= rowV_cases 3 avLink c.lks
 obtain ⟨t3,e3,r3,lt3,gt3,ft3,_⟩:= rowV_cases 3 avPort c.pts
 obtain ⟨t4,e4,r4,lt4,gt4,ft4,_⟩:= rowV_cases 5 avRoute c.ros
 obtain ⟨t6,e6,r6,lt6,gt6,ft6,_⟩:= rowV_cases 3 avSource c.scs
 obtain ⟨t7,e7,r7,lt7,gt7,ft7,_⟩:= rowV_cases 4 avMember c.mbs
 have r5 : rowV 3 avRange (some l) = .sl .none 3 (l.map avRange):= rfl
 have hV:= C_Valid x.a x.b ha
 have hW:= C_Within x.a x.b 3758096384 4 ha (by decide)
 have hC:= C_has_ranges_1 x .none 3 (l.take i) rfl rfl (.inl rfl) (by rw [List.length_take]; omega)
 have sl1:= headSl avRange 3 l i (by omega)
 have hG:= C_groups
 simp only [avPfx,avU] at hV hW hC hG
 simp only [go_sem,c_q74,netL,hc,r1,r2,r3,r4,r5,r6,r7,lt1,lt2,lt3,lt4,lt6,lt7,gt1,gt2,gt3,gt4,gt6,gt7,Int.toNat_natCast,Int.natCast_nonneg,List.getElem?_map,hx,rowAgg,avRange,avU,List.length_map]
 refine callX_of hV ?_
 cases h1 : validN x.a x.b
 ·simp only [go_sem,h1,g_range,rgOf,amiss,Bool.not_false]
 simp only [go_sem,h1,Bool.not_true]
 refine callX_of hG ?_
 simp only [go_sem]
 refine callX_of hW ?_
 cases h2 : withinN x.a x.b 3758096384 4
 ·simp only [go_sem,h2,g_kind,rgOf,h1,amiss,Bool.not_false,Bool.false_and,Bool.true_eq_false]
 simp only [go_sem,h2,Bool.not_true]
 refine callX_of (C_host x.root hv) ?_
 cases h3 : hostN x.root
 ·simp only [go_sem,h3,h2,g_kind,rgOf,h1,amiss,Bool.not_false,Bool.not_true,Bool.and_false,Bool.true_eq_false]
 simp only [go_sem,h3,Bool.not_true,Int.toNat_natCast,Int.natCast_nonneg,sl1]
 refine callX_of hC ?_
 cases h4 : (l.take i).any (p_ranges_1 x)
 ·simp only [go_sem,h4,h3,h2,rgOf,h1,amiss,Bool.not_true,Bool.and_self,Bool.true_eq_false,Bool.false_eq_true]
 ·simp only [go_sem,h4,h3,h2,g_twice,rgOf,h1,amiss,Bool.and_self,Bool.true_eq_false]
end Go.Proofs.YtnndbbmidoidpaaGreatDoor.VL
end

section
set_option maxHeartbeats 4000000
namespace Go.Proofs.YtnndbbmidoidpaaGreatDoor.VL
open Go.RowKit Go.Proofs
def onAt (c : Net) (k : Int) (a : Nat) : Bool:= match (c.lks.getD [])[k.toNat]? with
 | some y => onN y a
 | none => false
def ptOf (c : Net) (l : List NPt) (i : Nat) (x : NPt) : Option Nat :=
 if (placeN x.rt (c.rts.getD []).length && placeN x.lk (c.lks.getD []).length) = false then some 5 else if onAt c x.lk x.a = false then some 6
 else if (l.take i).any (p_port_1 x) = true then some 2 else none
theorem C_port (c : Net) (l : List NPt) (hc : c.pts = some l) (i : Nat) (x : NPt) (hx : l[i]? = some x) (hl : l.length < 9223372036854775808) (ha : x.a < 4294967296) (hp : ∀ y ∈ c.lks.getD [],y.a < 4294967296) :
  AC Tryz.prog f_q72 [.agg (netL c),.lit (.int .i64 (i : Nat))] (amiss (ptOf c l i x)):= by
 have hi : i < l.length:= (List.getElem?_eq_some_iff.1 hx).1
 refine ac_q72 ?_ (Nat.le_add_left 2 _) (by unfold ptOf; split <;> (try split) <;> (try split) <;> rfl)
 obtain ⟨t1,e1,r1,lt1,gt1,ft1,_⟩:= rowV_cases 2 avRouter c.rts
 obtain ⟨t2,e2,r2,lt2,gt2,ft2,_⟩:= rowV_cases 3 avLink c.lks
 obtain ⟨t4,e4,r4,lt4,gt4,ft4,_⟩:= rowV_cases 5 avRoute c.ros
 obtain ⟨t5,e5,r5,lt5,gt5,ft5,_⟩:= rowV_cases 3 avRange c.rgs
 obtain ⟨t6,e6,r6,lt6,gt6,ft6,_⟩:= rowV_cases 3 avSource c.scs
 obtain ⟨t7,e7,r7,lt7,gt7,ft7,_⟩:= rowV_cases 4 avMember c.mbs
 have r3 : rowV 3 avPort (some l) = .sl .none 3 (l.map avPort):= rfl
 have hC:= C_has_port_1 x .none 3 (l.take i) rfl rfl (.inl rfl) (by rw [List.length_take]; omega)
 have sl1:= headSl avPort 3 l i (by omega)
 simp only [avU] at hC
 simp only [go_sem,c_q72,netL,hc,r1,r2,r3,r4,r5,r6,r7,lt1,lt2,lt4,lt5,lt6,lt7,gt1,gt2,gt4,gt5,gt6,gt7,Int.toNat_natCast,Int.natCast_nonneg,List.getElem?_map,hx,rowAgg,avPort,avU,List.length_map]
 refine callX_of (C_place x.rt (c.rts.getD []).length) ?_
 cases h1 : placeN x.rt (c.rts.getD []).length
 ·simp only [go_sem,h1,g_none,ptOf,amiss,Bool.not_false,Bool.false_and]
 simp only [go_sem,h1,Bool.not_true,List.length_map]
 refine callX_of (C_place x.lk (c.lks.getD []).length) ?_
 cases h2 : placeN x.lk (c.lks.getD []).length
 ·simp only [go_sem,h2,h1,g_none,ptOf,amiss,Bool.not_false,Bool.and_false]
 obtain ⟨k,y,hk,hy⟩ : ∃ (k : Nat) (y : NLk),x.lk = (k : Int) ∧ (c.lks.getD [])[k]? = some y:= by
  simp only [placeN,Bool.and_eq_true,decide_eq_true_eq] at h2
  exact ⟨x.lk.toNat,(c.lks.getD [])[x.lk.toNat]'(by omega),by omega,List.getElem?_eq_getElem (by omega)⟩
 obtain ⟨ls,hls⟩ : ∃ ls,c.lks = some ls:= by
  cases h : c.lks with
  | none => rw [h] at hy; simp at hy
  | some ls => exact ⟨ls,rfl⟩
 have hO:= C_on c ls hls k y (by rw [hls] at hy; exact hy) x.a ha (hp y (List.mem_of_getElem? hy))
 simp only [netL,hc,r1,r2,r3,r4,r5,r6,r7,avU] at hO
 have hat : onAt c x.lk x.a = onN y x.a:= by simp only [onAt,hk,Int.toNat_natCast,hy]
 simp only [go_sem,h2,Bool.not_true,hk,lt1,lt2,lt4,lt5,lt6,lt7]
 refine callX_of hO ?_
 cases h3 : onN y x.a
 ·simp only [go_sem,h3,← hk,hat,h2,h1,g_away,ptOf,amiss,Bool.not_false,Bool.and_self,Bool.true_eq_false]
 simp only [go_sem,h3,Bool.not_true,Int.toNat_natCast,Int.natCast_nonneg,sl1,← hk]
 refine callX_of hC ?_
 cases h4 : (l.take i).any (p_port_1 x)
 ·simp only [go_sem,h4,hat,h3,h2,h1,ptOf,amiss,Bool.and_self,Bool.true_eq_false,Bool.false_eq_true]
 ·simp only [go_sem,h4,hat,h3,h2,h1,g_twice,ptOf,amiss,Bool.and_self,Bool.true_eq_false]
end Go.Proofs.YtnndbbmidoidpaaGreatDoor.VL
end

section
set_option maxHeartbeats 4000000
namespace Go.Proofs.YtnndbbmidoidpaaGreatDoor.VL
open Go.RowKit Go.Proofs
def scOf (c : Net) (l : List NSc) (i : Nat) (x : NSc) : Option Nat :=
 if placeN x.lk (c.lks.getD []).length = false then some 5 else if onAt c x.lk x.s = false then some 6
 else if groupN x.g = false then some 4 else if ((l.take i).any (p_source_1 x) || (c.pts.getD []).any (p_source_2 x)) = true then some 2 else none
theorem C_source (c : Net) (l : List NSc) (hc : c.scs = some l) (i : Nat) (x : NSc) (hx : l[i]? = some x) (hl : l.length < 9223372036854775808) (hlp : (c.pts.getD []).length < 9223372036854775808) (ha : x.s < 4294967296) (hg : x.g < 4294967296) (hp : ∀ y ∈ c.lks.getD [],y.a < 4294967296) :
  AC Tryz.prog f_q75 [.agg (netL c),.lit (.int .i64 (i : Nat))] (amiss (scOf c l i x)):= by
 have hi : i < l.length:= (List.getElem?_eq_some_iff.1 hx).1
 refine ac_q75 ?_ (Nat.le_add_left 2 _) (by unfold scOf; split <;> (try split) <;> (try split) <;> (try split) <;> rfl)
 obtain ⟨t1,e1,r1,lt1,gt1,ft1,_⟩:= rowV_cases 2 avRouter c.rts
 obtain ⟨t2,e2,r2,lt2,gt2,ft2,_⟩:= rowV_cases 3 avLink c.lks
 obtain ⟨t3,e3,r3,lt3,gt3,ft3,he3,_⟩:= rowV_cases 3 avPort c.pts
 obtain ⟨t4,e4,r4,lt4,gt4,ft4,_⟩:= rowV_cases 5 avRoute c.ros
 obtain ⟨t5,e5,r5,lt5,gt5,ft5,_⟩:= rowV_cases 3 avRange c.rgs
 obtain ⟨t7,e7,r7,lt7,gt7,ft7,_⟩:= rowV_cases 4 avMember c.mbs
 have r6 : rowV 3 avSource (some l) = .sl .none 3 (l.map avSource):= rfl
 have hC:= C_has_source_1 x .none 3 (l.take i) rfl rfl (.inl rfl) (by rw [List.length_take]; omega)
 have hD:= C_has_source_2 x t3 e3 (c.pts.getD []) lt3 ft3 he3 hlp
 have sl1:= headSl avSource 3 l i (by omega)
 simp only [avU] at hC hD
 simp only [go_sem,c_q75,netL,hc,r1,r2,r3,r4,r5,r6,r7,lt1,lt2,lt3,lt4,lt5,lt7,gt1,gt2,gt3,gt4,gt5,gt7,Int.toNat_natCast,Int.natCast_nonneg,List.getElem?_map,hx,rowAgg,avSource,avU,List.length_map]
 refine callX_of (C_place x.lk (c.lks.getD []).length) ?_
 cases h2 : placeN x.lk (c.lks.getD []).length
 ·simp only [go_sem,h2,g_none,scOf,amiss,Bool.not_false]
 obtain ⟨k,y,hk,hy⟩ : ∃ (k : Nat) (y : NLk),x.lk = (k : Int) ∧ (c.lks.getD [])[k]? = some y:= by
  simp only [placeN,Bool.and_eq_true,decide_eq_true_eq] at h2
  exact ⟨x.lk.toNat,(c.lks.getD [])[x.lk.toNat]'(by omega),by omega,List.getElem?_eq_getElem (by omega)⟩
 obtain ⟨ls,hls⟩ : ∃ ls,c.lks = some ls:= by
  cases h : c.lks with
  | none => rw [h] at hy; simp at hy
  | some ls => exact ⟨ls,rfl⟩
 have hO:= C_on c ls hls k y (by rw [hls] at hy; exact hy) x.s ha (hp y (List.mem_of_getElem? hy))
 simp only [netL,hc,r1,r2,r3,r4,r5,r6,r7,avU] at hO
 have hat : onAt c x.lk x.s = onN y x.s:= by simp only [onAt,hk,Int.toNat_natCast,hy]
 simp only [go_sem,h2,Bool.not_true,lt1,lt2,lt3,lt4,lt5,lt7]
 rw [← hk] at hO
 refine callX_of hO ?_
 cases h3 : onN y x.s
 ·simp only [go_sem,h3,hat,h2,g_away,scOf,amiss,Bool.not_false,Bool.true_eq_false]
 simp only [go_sem,h3,Bool.not_true]
 refine callX_of (C_Group x.g hg) ?_
 cases h4 : groupN x.g
 ·simp only [go_sem,h4,hat,h3,h2,g_kind,scOf,amiss,Bool.not_false,Bool.true_eq_false]
 simp only [go_sem,h4,Bool.not_true,Int.toNat_natCast,Int.natCast_nonneg,sl1]
 refine callX_of hC ?_
 cases h5 : (l.take i).any (p_source_1 x)
 ·simp only [go_sem,h5,lt3,gt3]
  refine callX_of hD ?_
  cases h6 : (c.pts.getD []).any (p_source_2 x)
  ·simp only [go_sem,h6,h5,h4,hat,h3,h2,scOf,amiss,Bool.or_false,Bool.true_eq_false,Bool.false_eq_true]
  ·simp only [go_sem,h6,h5,h4,hat,h3,h2,g_twice,scOf,amiss,Bool.false_or,Bool.true_eq_false]
 ·simp only [go_sem,h5,h4,hat,h3,h2,g_twice,scOf,amiss,Bool.true_or,Bool.true_eq_false]
end Go.Proofs.YtnndbbmidoidpaaGreatDoor.VL
end

section
set_option maxHeartbeats 4000000
namespace Go.Proofs.YtnndbbmidoidpaaGreatDoor.VL
open Go.RowKit Go.Proofs
structure NM where
 lk : Int
 g : Nat
 only : Bool
 src : List Nat
deriving DecidableEq
def avMb (x : NM) : AV:= .agg [.lit (.int .i64 x.lk),avU x.g,.lit (.bool x.only),.sl .none 1 (x.src.map avU)]
def NM.mb (x : NM) : NMb:= ⟨x.lk,x.g,x.only,some x.src⟩
structure NW where
 rts : List NRt
 lks : List NLk
 pts : List NPt
 ros : List NRo
 rgs : List NRg
 scs : List NSc
 mbs : List NM
def netV (w : NW) : List AV:= [.sl .none 2 (w.rts.map avRouter),.sl .none 3 (w.lks.map avLink),.sl .none 3 (w.pts.map avPort),.sl .none 5 (w.ros.map avRoute),.sl .none 3 (w.rgs.map avRange),.sl .none 3 (w.scs.map avSource),.sl .none 4 (w.mbs.map avMb)]
def NW.net (w : NW) : Net:= ⟨some w.rts,some w.lks,some w.pts,some w.ros,some w.rgs,some w.scs,some (w.mbs.map NM.mb)⟩
theorem netV_eq (w : NW) : netL w.net = netV w:= by
 have e : (w.mbs.map NM.mb).map avMember = w.mbs.map avMb:= by rw [List.map_map]; exact List.map_congr_left fun x _ => rfl
 simp only [netL,NW.net,rowV,netV,e]
structure NW.OK (w : NW) : Prop where
 rtn : ∀ x ∈ w.rts,x.nm.size < 9223372036854775808
 lkn : ∀ x ∈ w.lks,x.nm.size < 9223372036854775808
 lka : ∀ x ∈ w.lks,x.a < 4294967296
 pta : ∀ x ∈ w.pts,x.a < 4294967296
 roa : ∀ x ∈ w.ros,x.a < 4294967296
 rov : ∀ x ∈ w.ros,x.via < 4294967296
 rga : ∀ x ∈ w.rgs,x.a < 4294967296
 rgr : ∀ x ∈ w.rgs,x.root < 4294967296
 scs : ∀ x ∈ w.scs,x.s < 4294967296
 scg : ∀ x ∈ w.scs,x.g < 4294967296
 mbg : ∀ x ∈ w.mbs,x.g < 4294967296
 mbs : ∀ x ∈ w.mbs,∀ a ∈ x.src,a < 4294967296
 mbl : ∀ x ∈ w.mbs,x.src.length < 9223372036854775808
 l1 : w.rts.length < 9223372036854775808
 l2 : w.lks.length < 9223372036854775808
 l3 : w.pts.length < 9223372036854775808
 l4 : w.ros.length < 9223372036854775808
 l5 : w.rgs.length < 9223372036854775808
 l6 : w.scs.length < 9223372036854775808
 l7 : w.mbs.length < 9223372036854775808
def mbOf (w : NW) (x : NM) : Option Nat :=
 if placeN x.lk w.lks.length = false then some 5 else if (!groupN x.g || x.src.any fun a => !hostN a) = true then some 4
 else if decide (4 < x.src.length) = true then some 0 else if decide x.src.Nodup = false then some 2 else none
def vAt (w : NW) (k i : Nat) : Option Nat:= match k with
 | 0 => (w.rts[i]?).bind (rtOf w.rts i)
 | 1 => (w.lks[i]?).bind (lkOf w.lks i)
 | 2 => (w.pts[i]?).bind (ptOf w.net w.pts i)
 | 3 => (w.ros[i]?).bind (roOf w.net)
 | 4 => (w.rgs[i]?).bind (rgOf w.rgs i)
 | 5 => (w.scs[i]?).bind (scOf w.net w.scs i)
 | _ => (w.mbs[i]?).bind (mbOf w)
def lenN (w : NW) : Nat → Nat
 | 0 => w.rts.length
 | 1 => w.lks.length
 | 2 => w.pts.length
 | 3 => w.ros.length
 | 4 => w.rgs.length
 | 5 => w.scs.length
 | _ => w.mbs.length
def mostN : Nat → Nat
 | 0 => 16
 | 1 => 24
 | 2 => 64
 | 3 => 96
 | 4 => 8
 | 5 => 8
 | _ => 24
def scanI (most : Nat) (f : Nat → Option Nat) : Nat → Nat → Option Nat
 | 0,_ => none
 | n + 1,i => if most ≤ i then some 0 else match f i with
  | some g => some g
  | none => scanI most f n (i + 1)
def vList (w : NW) (k i : Nat) : Option Nat:= scanI (mostN k) (vAt w k) (lenN w k - i) i
def scanK (w : NW) : Nat → Nat → Option Nat
 | 0,_ => none
 | n + 1,k => match vList w k 0 with
  | some g => some g
  | none => scanK w n (k + 1)
def vNet (w : NW) : Option Nat:= scanK w 7 0
theorem vList_end (w : NW) (k i : Nat) (h : lenN w k ≤ i) : vList w k i = none:= by
 unfold vList
 rw [show lenN w k - i = 0 by omega]
 rfl
theorem vList_many (w : NW) (k i : Nat) (h : i < lenN w k) (h2 : mostN k ≤ i) : vList w k i = some 0:= by
 unfold vList
 obtain ⟨n,hn⟩ : ∃ n,lenN w k - i = n + 1:= ⟨lenN w k - i - 1,by omega⟩
 rw [hn,scanI,if_pos h2]
theorem vList_some (w : NW) (k i g : Nat) (h : i < lenN w k) (h2 : i < mostN k) (h3 : vAt w k i = some g) : vList w k i = some g:= by
 unfold vList
 obtain ⟨n,hn⟩ : ∃ n,lenN w k - i = n + 1:= ⟨lenN w k - i - 1,by omega⟩
 rw [hn,scanI,if_neg (by omega),h3]
theorem vList_none (w : NW) (k i : Nat) (h : i < lenN w k) (h2 : i < mostN k) (h3 : vAt w k i = none) : vList w k i = vList w k (i + 1):= by
 unfold vList
 obtain ⟨n,hn⟩ : ∃ n,lenN w k - i = n + 1:= ⟨lenN w k - i - 1,by omega⟩
 rw [hn,scanI,if_neg (by omega),h3,show lenN w k - (i + 1) = n by omega]
theorem vList_ok (w : NW) (k : Nat) : ∀ (n i : Nat),lenN w k - i = n → vList w k i = none → ∀ j,i ≤ j → j < lenN w k → j < mostN k ∧ vAt w k j = none
 | 0,i,hn,_,j,h1,h2 => by omega
 | n + 1,i,hn,h,j,h1,h2 => by
  by_cases hm : mostN k ≤ i
  ·rw [vList_many w k i (by omega) hm] at h; cases h
  cases hv : vAt w k i with
  | some g => rw [vList_some w k i g (by omega) (by omega) hv] at h; cases h
  | none =>
   rw [vList_none w k i (by omega) (by omega) hv] at h
   by_cases e : j = i
   ·subst e; exact ⟨by omega,hv⟩
   ·exact vList_ok w k n (i + 1) (by omega) h j (by omega) h2
theorem scanK_ok (w : NW) : ∀ (n k : Nat),scanK w n k = none → ∀ q,k ≤ q → q < k + n → vList w q 0 = none
 | 0,k,_,q,h1,h2 => by omega
 | n + 1,k,h,q,h1,h2 => by
  simp only [scanK] at h
  cases hv : vList w k 0 with
  | some g => rw [hv] at h; cases h
  | none =>
   rw [hv] at h
   by_cases e : q = k
   ·subst e; exact hv
   ·exact scanK_ok w n (k + 1) h q (by omega) (by omega)
theorem vNet_ok {w : NW} (h : vNet w = none) (k i : Nat) (hk : k < 7) (hi : i < lenN w k) : i < mostN k ∧ vAt w k i = none :=
 vList_ok w k _ 0 rfl (scanK_ok w 7 0 h k (by omega) (by omega)) i (by omega) hi
section
variable (w : NW) (h : w.OK) (i : Nat)
include h
theorem W_router (x : NRt) (hx : w.rts[i]? = some x) : AC Tryz.prog f_q70 [.agg (netV w),.lit (.int .i64 (i : Nat))] (amiss (rtOf w.rts i x)):= by
 have:= C_router w.net w.rts rfl i x hx h.l1 (h.rtn x (List.mem_of_getElem? hx))
 rwa [netV_eq] at this
theorem W_link (x : NLk) (hx : w.lks[i]? = some x) : AC Tryz.prog f_q71 [.agg (netV w),.lit (.int .i64 (i : Nat))] (amiss (lkOf w.lks i x)):= by
 have:= C_link w.net w.lks rfl i x hx h.l2 (h.lkn x (List.mem_of_getElem? hx)) (h.lka x (List.mem_of_getElem? hx))
 rwa [netV_eq] at this
theorem W_port (x : NPt) (hx : w.pts[i]? = some x) : AC Tryz.prog f_q72 [.agg (netV w),.lit (.int .i64 (i : Nat))] (amiss (ptOf w.net w.pts i x)):= by
 have:= C_port w.net w.pts rfl i x hx h.l3 (h.pta x (List.mem_of_getElem? hx)) h.lka
 rwa [netV_eq] at this
theorem W_route (x : NRo) (hx : w.ros[i]? = some x) : AC Tryz.prog f_q73 [.agg (netV w),.lit (.int .i64 (i : Nat))] (amiss (roOf w.net x)):= by
 have:= C_route w.net w.ros rfl i x hx h.l4 (h.roa x (List.mem_of_getElem? hx)) (h.rov x (List.mem_of_getElem? hx))
 rwa [netV_eq] at this
theorem W_ranges (x : NRg) (hx : w.rgs[i]? = some x) : AC Tryz.prog f_q74 [.agg (netV w),.lit (.int .i64 (i : Nat))] (amiss (rgOf w.rgs i x)):= by
 have:= C_ranges w.net w.rgs rfl i x hx h.l5 (h.rga x (List.mem_of_getElem? hx)) (h.rgr x (List.mem_of_getElem? hx))
 rwa [netV_eq] at this
theorem W_source (x : NSc) (hx : w.scs[i]? = some x) : AC Tryz.prog f_q75 [.agg (netV w),.lit (.int .i64 (i : Nat))] (amiss (scOf w.net w.scs i x)):= by
 have:= C_source w.net w.scs rfl i x hx h.l6 h.l3 (h.scs x (List.mem_of_getElem? hx)) (h.scg x (List.mem_of_getElem? hx)) h.lka
 rwa [netV_eq] at this
end
end Go.Proofs.YtnndbbmidoidpaaGreatDoor.VL
end

section
namespace Go.Proofs.YtnndbbmidoidpaaGreatDoor
open Go.RowKit VL
theorem nat_of {n : Int} (hw : (Lit.int .u32 n).wf = true) : ∃ m : Nat,n = (m : Int) ∧ m < 4294967296:= by
 have hr : 0 ≤ n ∧ n < 4294967296:= by
  simp [Lit.wf,IntKind.min,IntKind.max,IntKind.bits,IntKind.signed] at hw
  omega
 exact ⟨n.toNat,by omega,by omega⟩
theorem fit_router {cs : List AV} (h : FitL [.str,.int .i64] cs) : ∃ x : NRt,x.nm.size < 9223372036854775808 ∧ mkRow true cs = avRouter x:= by
 simp only [FitL,Fit] at h
 obtain ⟨_,_,rfl,⟨s,rfl,hs⟩,_,_,rfl,⟨n,rfl,_⟩,rfl⟩:= h
 exact ⟨⟨s,n⟩,by show s.size < _; simp only [maxLen] at hs; omega,rfl⟩
theorem fit_link {cs : List AV} (h : FitL [.str,.int .u32,.int .i64] cs) : ∃ x : NLk,(x.nm.size < 9223372036854775808 ∧ x.a < 4294967296) ∧ mkRow true cs = avLink x:= by
 simp only [FitL,Fit] at h
 obtain ⟨_,_,rfl,⟨s,rfl,hs⟩,_,_,rfl,⟨a,rfl,ha⟩,_,_,rfl,⟨b,rfl,_⟩,rfl⟩:= h
 obtain ⟨m,rfl,hm⟩:= nat_of ha
 exact ⟨⟨s,m,b⟩,⟨by show s.size < _; simp only [maxLen] at hs; omega,hm⟩,rfl⟩
theorem fit_port {cs : List AV} (h : FitL [.int .i64,.int .i64,.int .u32] cs) : ∃ x : NPt,x.a < 4294967296 ∧ mkRow true cs = avPort x:= by
 simp only [FitL,Fit] at h
 obtain ⟨_,_,rfl,⟨r,rfl,_⟩,_,_,rfl,⟨k,rfl,_⟩,_,_,rfl,⟨a,rfl,ha⟩,rfl⟩:= h
 obtain ⟨m,rfl,hm⟩:= nat_of ha
 exact ⟨⟨r,k,m⟩,hm,rfl⟩
theorem fit_route {cs : List AV} (h : FitL [.int .i64,.int .u32,.int .i64,.int .u32,.int .i64] cs) : ∃ x : NRo,(x.a < 4294967296 ∧ x.via < 4294967296) ∧ mkRow true cs = avRoute x:= by
 simp only [FitL,Fit] at h
 obtain ⟨_,_,rfl,⟨r,rfl,_⟩,_,_,rfl,⟨a,rfl,ha⟩,_,_,rfl,⟨b,rfl,_⟩,_,_,rfl,⟨v,rfl,hv⟩,_,_,rfl,⟨c,rfl,_⟩,rfl⟩:= h
 obtain ⟨m,rfl,hm⟩:= nat_of ha
 obtain ⟨q,rfl,hq⟩:= nat_of hv
 exact ⟨⟨r,m,b,q,c⟩,⟨hm,hq⟩,rfl⟩
theorem fit_range {cs : List AV} (h : FitL [.int .u32,.int .i64,.int .u32] cs) : ∃ x : NRg,(x.a < 4294967296 ∧ x.root < 4294967296) ∧ mkRow true cs = avRange x:= by
 simp only [FitL,Fit] at h
 obtain ⟨_,_,rfl,⟨a,rfl,ha⟩,_,_,rfl,⟨b,rfl,_⟩,_,_,rfl,⟨v,rfl,hv⟩,rfl⟩:= h
 obtain ⟨m,rfl,hm⟩:= nat_of ha
 obtain ⟨q,rfl,hq⟩:= nat_of hv
 exact ⟨⟨m,b,q⟩,⟨hm,hq⟩,rfl⟩
theorem fit_source {cs : List AV} (h : FitL [.int .i64,.int .u32,.int .u32] cs) : ∃ x : NSc,(x.s < 4294967296 ∧ x.g < 4294967296) ∧ mkRow true cs = avSource x:= by
 simp only [FitL,Fit] at h
 obtain ⟨_,_,rfl,⟨k,rfl,_⟩,_,_,rfl,⟨a,rfl,ha⟩,_,_,rfl,⟨v,rfl,hv⟩,rfl⟩:= h
 obtain ⟨m,rfl,hm⟩:= nat_of ha
 obtain ⟨q,rfl,hq⟩:= nat_of hv
 exact ⟨⟨k,m,q⟩,⟨hm,hq⟩,rfl⟩
theorem fit_addrU {cs : List AV} (h : FitL [.int .u32] cs) : ∃ x : Nat,x < 4294967296 ∧ mkRow false cs = avU x:= fit_u32 h
theorem fit_memb {cs : List AV} (h : FitL [.int .i64,.int .u32,.bool,.sl false [.int .u32]] cs) : ∃ x : NM,(x.g < 4294967296 ∧ (∀ a ∈ x.src,a < 4294967296) ∧ x.src.length < 9223372036854775808) ∧ mkRow true cs = avMb x:= by
 simp only [FitL] at h
 obtain ⟨c1,_,rfl,h1,c2,_,rfl,h2,c3,_,rfl,h3,c4,_,rfl,h4,rfl⟩:= h
 obtain ⟨l,hl,hq,e⟩:= fit_sliceP avU (fun a => a < 4294967296) (fun cs h => fit_addrU h) (cs:= [c4]) (by simp only [FitL]; exact ⟨_,_,rfl,h4,rfl⟩)
 simp only [mkRow,List.headD_cons] at e
 simp only [Fit] at h1 h2 h3
 obtain ⟨n1,rfl,_⟩:= h1
 obtain ⟨n2,rfl,hw⟩:= h2
 obtain ⟨b,rfl⟩:= h3
 obtain ⟨m,rfl,hm⟩:= nat_of hw
 exact ⟨⟨n1,m,b,l⟩,⟨hm,hq,by show l.length < _; simp only [maxLen] at hl; omega⟩,by rw [e]; rfl⟩
abbrev netT : List SC:= [.sl true [.str,.int .i64],.sl true [.str,.int .u32,.int .i64],.sl true [.int .i64,.int .i64,.int .u32],.sl true [.int .i64,.int .u32,.int .i64,.int .u32,.int .i64],.sl true [.int .u32,.int .i64,.int .u32],.sl true [.int .i64,.int .u32,.int .u32],.sl true [.int .i64,.int .u32,.bool,.sl false [.int .u32]]]
theorem one_sl {c : AV} {b : Bool} {row : List SC} (h : Fit (.sl b row) c) : FitL [.sl b row] [c]:= by
 simp only [FitL]
 exact ⟨c,[],rfl,h,rfl⟩
theorem fit_net {cs : List AV} (h : FitL netT cs) : ∃ w : NW,w.OK ∧ mkRow true cs = .agg (netV w):= by
 simp only [FitL] at h
 obtain ⟨c1,_,rfl,h1,c2,_,rfl,h2,c3,_,rfl,h3,c4,_,rfl,h4,c5,_,rfl,h5,c6,_,rfl,h6,c7,_,rfl,h7,rfl⟩:= h
 obtain ⟨l1,m1,q1,e1⟩:= fit_sliceP avRouter (fun x => x.nm.size < 9223372036854775808) (fun cs h => fit_router h) (one_sl h1)
 obtain ⟨l2,m2,q2,e2⟩:= fit_sliceP avLink (fun x => x.nm.size < 9223372036854775808 ∧ x.a < 4294967296) (fun cs h => fit_link h) (one_sl h2)
 obtain ⟨l3,m3,q3,e3⟩:= fit_sliceP avPort (fun x => x.a < 4294967296) (fun cs h => fit_port h) (one_sl h3)
 obtain ⟨l4,m4,q4,e4⟩:= fit_sliceP avRoute (fun x => x.a < 4294967296 ∧ x.via < 4294967296) (fun cs h => fit_route h) (one_sl h4)
 obtain ⟨l5,m5,q5,e5⟩:= fit_sliceP avRange (fun x => x.a < 4294967296 ∧ x.root < 4294967296) (fun cs h => fit_range h) (one_sl h5)
 obtain ⟨l6,m6,q6,e6⟩:= fit_sliceP avSource (fun x => x.s < 4294967296 ∧ x.g < 4294967296) (fun cs h => fit_source h) (one_sl h6)
 obtain ⟨l7,m7,q7,e7⟩:= fit_sliceP avMb (fun x => x.g < 4294967296 ∧ (∀ a ∈ x.src,a < 4294967296) ∧ x.src.length < 9223372036854775808) (fun cs h => fit_memb h) (one_sl h7)
 simp only [mkRow,List.headD_cons] at e1 e2 e3 e4 e5 e6 e7
 simp only [maxLen] at m1 m2 m3 m4 m5 m6 m7
 refine ⟨⟨l1,l2,l3,l4,l5,l6,l7⟩,⟨q1,fun x hx => (q2 x hx).1,fun x hx => (q2 x hx).2,q3,fun x hx => (q4 x hx).1,fun x hx => (q4 x hx).2,fun x hx => (q5 x hx).1,fun x hx => (q5 x hx).2,fun x hx => (q6 x hx).1,fun x hx => (q6 x hx).2,fun x hx => (q7 x hx).1,fun x hx => (q7 x hx).2.1,fun x hx => (q7 x hx).2.2,by simp only; omega,by simp only; omega,by simp only; omega,by simp only; omega,by simp only; omega,by simp only; omega,by simp only; omega⟩,?_⟩
 simp only [mkRow,e1,e2,e3,e4,e5,e6,e7]
 rfl
end Go.Proofs.YtnndbbmidoidpaaGreatDoor
end

section
namespace Go.Proofs.YtnndbbmidoidpaaGreatDoor.SQ
open Go.RowKit Go.Shelf Go.Proofs
attribute [local go_sem] Oper.semAt_some
def enc (x : Nat) : Value:= .int .u32 (x : Nat)
def upto (f : Nat → Nat) (k : Nat) : List Nat:= (List.range k).map f
theorem upto_succ (f : Nat → Nat) (k : Nat) : upto f (k + 1) = upto f k ++ [f k]:= by simp [upto,List.range_succ]
theorem upto_length (f : Nat → Nat) (k : Nat) : (upto f k).length = k:= by simp [upto]
theorem upto_all (zs : List Nat) : upto (fun j => zs[j]?.getD 0) zs.length = zs:= by
 apply List.ext_getElem
 ·simp [upto]
 ·intro i h1 h2
  simp [upto,h2]
set_option maxRecDepth 100000 in
set_option maxHeartbeats 2000000 in
theorem values1_in (F : Fence) (n : Nat) (h7 : F.fn 198) (hro : F.round = none) (hn : 1 ≤ n) (l Bs Bo n₀ b off len cap : Nat) (zs : List Nat) (hreach : len ≤ 4294967296) (hb : b < n₀) (J Jx : List Nat → World → Prop)
  (hY : ∀ pre x W,J pre W → pre.length < len → YieldAt F (n - 1) Tryz.prog l #[.int .u32 (x : Nat)] W fun e W' =>
   (e = .returned (.bool true) ∧ J (pre ++ [x]) W' ∧ Below n₀ W W') ∨ (e = .returned (.bool false) ∧ Jx (pre ++ [x]) W'))
  (W : World) (hBs : W.cell? ⟨Bs,Bo,none⟩ = some (.slice (some ⟨b,off,none⟩) len cap)) (hc : ∀ j,j < len → W.cell? ⟨b,off + j,none⟩ = some (.int .u32 ((zs[j]?.getD 0 : Nat) : Int))) (h0 : J [] W) :
  CallsIn F n Tryz.prog 198 #[.func (.yield l) #[] #[],.pointer (some ⟨Bs,Bo,none⟩)] W fun e W' => (∃ v,e = .returned v) ∧
   ((∃ ys,ys = upto (fun j => zs[j]?.getD 0) len ∧ J ys W') ∨ (∃ pre,(∃ k,k ≤ len ∧ pre = upto (fun j => zs[j]?.getD 0) k) ∧ Jx pre W')):= by
 refine callsIn_of_wp Tryz.func198 rfl h7 ?_ hro
 simp only [Tryz.ntmps198,List.size_toArray,List.length_cons,List.length_nil,Nat.reduceAdd,Nat.reduceSub,Array.replicate_succ,Array.replicate_zero,List.push_toArray,List.append_toArray,List.nil_append,List.cons_append]
 gi_wp2
 gi_loopw [7] (fun i wr => ∃ k : Nat,k ≤ len ∧ i = .int .i64 k ∧ J (upto (fun j => zs[j]?.getD 0) k) wr ∧ Below n₀ W wr)
  (fun i _ => len - (intOf i).toNat)
 case atStart => exact ⟨0,Nat.zero_le _,rfl,h0,Below.refl _ _⟩
 case round =>
  obtain ⟨k,hk,rfl,hJs,hnx⟩:= hrel
  have hcx : k < len → wr.cell? ⟨b,off + k,none⟩ = some (.int .u32 ((zs[k]?.getD 0 : Nat) : Int)):= fun h => (hnx.cell (p:= ⟨b,off + k,none⟩) hb).trans (hc k h)
  by_cases hlt : k < len
  ·obtain ⟨fn,tmps,assign,body,hy,hR⟩:= hY _ (zs[k]?.getD 0) wr hJs (by rw [upto_length]; exact hlt)
   have hcx':= hcx hlt
   gi_wp2
   refine hR.mono ?_
   rintro e W3 (⟨rfl,hJ3,hk3⟩ | ⟨rfl,hJx3⟩)
   ·gi_wp2
    go_roundw
    case rel => exact ⟨k + 1,by omega,by simp,by rw [upto_succ]; exact hJ3,hnx.trans hk3⟩
    case measure => simp [intOf]; omega
   ·gi_wp2
    refine bodyPost_ret (results_none rfl _ _ _) rfl ?_
    exact ⟨⟨_,rfl⟩,.inr ⟨_,⟨k + 1,by omega,(upto_succ _ _).symm⟩,hJx3⟩⟩
  ·obtain rfl : k = len:= by omega
   gi_wp2
   go_end0
   exact ⟨⟨_,rfl⟩,.inl ⟨_,rfl,hJs⟩⟩
set_option maxRecDepth 100000 in
set_option maxHeartbeats 1000000 in
theorem values1_nil_in (F : Fence) (n : Nat) (h7 : F.fn 198) (hro : F.round = none) (l Bs Bo cap : Nat) (A : Option Addr) (J : List Nat → World → Prop) (W : World) (hBs : W.cell? ⟨Bs,Bo,none⟩ = some (.slice A 0 cap)) (h0 : J [] W) :
  CallsIn F n Tryz.prog 198 #[.func (.yield l) #[] #[],.pointer (some ⟨Bs,Bo,none⟩)] W fun e W' => (∃ v,e = .returned v) ∧ J [] W':= by
 refine callsIn_of_wp Tryz.func198 rfl h7 ?_ hro
 simp only [Tryz.ntmps198,List.size_toArray,List.length_cons,List.length_nil,Nat.reduceAdd,Nat.reduceSub,Array.replicate_succ,Array.replicate_zero,List.push_toArray,List.append_toArray,List.nil_append,List.cons_append]
 gi_wp2
 gi_loopw [7] (fun i wr => i = .int .i64 0 ∧ J [] wr) (fun _ _ => 0)
 case atStart => exact ⟨rfl,h0⟩
 case round =>
  obtain ⟨rfl,hJs⟩:= hrel
  gi_wp2
  go_end0
  exact ⟨⟨_,rfl⟩,hJs⟩
def Nums (n₀ : Nat) (W : World) (sv : Value) (zs : List Nat) : Prop :=
 ∃ A cap,sv = .slice A zs.length cap ∧ (zs ≠ [] → ∃ b off,A = some ⟨b,off,none⟩ ∧ b < n₀ ∧ ∀ j,j < zs.length → W.cell? ⟨b,off + j,none⟩ = some (.int .u32 ((zs[j]?.getD 0 : Nat) : Int)))
theorem Nums.below {n₀ : Nat} {A B : World} (h : Below n₀ A B) {sv : Value} {zs : List Nat} : Nums n₀ A sv zs → Nums n₀ B sv zs
 | ⟨A,cap,e,hx⟩ => ⟨A,cap,e,fun hne => let ⟨b,off,e2,hb,hc⟩:= hx hne; ⟨b,off,e2,hb,fun j hj => (h.cell (p:= ⟨b,off + j,none⟩) hb).trans (hc j hj)⟩⟩
theorem upto_take (zs : List Nat) {k : Nat} (hk : k ≤ zs.length) : upto (fun j => zs[j]?.getD 0) k = zs.take k:= by
 apply List.ext_getElem
 ·simp [upto,hk]
 ·intro i h1 h2
  have : i < zs.length:= by simp [upto] at h1; omega
  simp [upto,this]
theorem values_stops (F : Fence) (n : Nat) (h7 : F.fn 198) (hro : F.round = none) (hn : 1 ≤ n) (Bs Bo n₀ : Nat) (sv : Value) (zs : List Nat) (hreach : zs.length ≤ 4294967296) (w : World) (hBs : Bs < w.heap.size) (hn₀ : n₀ ≤ w.heap.size)
  (hc : w.cell? ⟨Bs,Bo,none⟩ = some sv) (hI : Nums n₀ w sv zs) :
  SeqStopsK F n Tryz.prog 198 #[.pointer (some ⟨Bs,Bo,none⟩)] (fun x : Nat => #[Value.int .u32 (x : Nat)]) (Below n₀) (fun ys => ys = zs) (fun pre => pre <+: zs) zs.length w:= fun l J Jx W hW _ _ hY h0 => by
 have hc':= (hW.cell (p:= ⟨Bs,Bo,none⟩) hBs).trans hc
 obtain ⟨A,cap,rfl,hx⟩:= hI.below (hW.mono hn₀)
 by_cases hz : zs = []
 ·subst hz
  exact (values1_nil_in F n h7 hro l Bs Bo cap A J W hc' h0).mono fun e W' ⟨he,hj⟩ => ⟨he,.inl ⟨_,rfl,hj⟩⟩
 ·obtain ⟨b,off,rfl,hb,hcs⟩:= hx hz
  refine (values1_in F n h7 hro hn l Bs Bo n₀ b off zs.length cap zs hreach hb J Jx hY W hc' hcs h0).mono ?_
  rintro e W' ⟨he,⟨ys,rfl,hj⟩ | ⟨pre,⟨k,hk,rfl⟩,hj⟩⟩
  ·exact ⟨he,.inl ⟨_,upto_all zs,hj⟩⟩
  ·exact ⟨he,.inr ⟨_,by rw [upto_take zs hk]; exact List.take_prefix _ _,hj⟩⟩
def OneRow (w : World) (v : Value) : Prop:= ∀ g cur e fr,v.ownBlock = some g → w.heap[g]? = some (.cells cur e fr) → ∀ u ∈ cur.toList,u.oneCell' = true
theorem OneRow.kept {w w' : World} {row : Option Nat} {base : Nat} {e : TypeId} {size n : Nat} {v : Value} {xs : List Value} (h : OneRow w v) (ho : w.ownsRow base e size v n xs) (hg : w.grownBy w' row) (hne : v.ownBlock = none ∨ v.ownBlock ≠ row) : OneRow w' v:= by
 intro g cur e' fr hb hh
 refine h g cur e' fr hb ?_
 rw [← hh]
 refine (hg.block g (ho.lt g hb).2 ?_).symm
 rcases hne with hne | hne
 ·rw [hne] at hb; cases hb
 ·rw [← hb]; exact hne
theorem one_zero {z : Array Value} (h : ∀ u ∈ z.toList,u.oneCell' = true) (n : Nat) : ∀ u ∈ (Builtin.zeroCells z n).toList,u.oneCell' = true:= by
 intro u hu
 unfold Builtin.zeroCells at hu
 rw [Array.toList_map] at hu
 obtain ⟨i,hi,rfl⟩:= List.mem_map.1 hu
 have hi2 : i < n * z.size:= by simpa using hi
 have hz : 0 < z.size:= by
  rcases Nat.eq_zero_or_pos z.size with h0 | h0
  ·rw [h0] at hi2; omega
  ·exact h0
 have hlt:= Nat.mod_lt i hz
 rw [getElem!_pos z (i % z.size) hlt]
 exact h _ (by simp)
theorem one_appended {P : Program} (w : World) (base : Nat) (t ty e : TypeId) (i : TypeInfo) (z : Value) (size bytes : Nat) (ht : P.underlying t = some (.slice e)) (hi : P.info? e = some i) (hz : i.zero = some z)
  (hsize : i.size = size) (hby : i.bytes = bytes) (hz1 : ∀ u ∈ z.cells.toList,u.oneCell' = true)
  (v : Value) (n : Nat) (xs : List Value) (hown : w.ownsRow base e size v n xs) (hone : OneRow w v)
  (a : Addr) (m c : Nat) (news : List Value) (hl : news.length = m * size) (hnews : ∀ j u,news[j]? = some u → w.cell? (a.add j) = some u) (h1 : ∀ u ∈ news,u.oneCell' = true) (hm : 0 < m)
  (h63 : n + m ≤ maxLen) (hbytes : (n + m) * bytes ≤ 140737488355328) {v' : Value} {w' : World} (hrun : (Builtin.append_ #[t,t] ty #[v,.slice (some a) m c]).run P w = .ok v' w') : OneRow w' v':= by
 subst hsize
 subst hby
 have hsmall : n + m ≤ 9223372036854775807:= by simp only [maxLen] at h63; omega
 have hxs : ∀ u ∈ xs,u.oneCell' = true:= by
  intro u hu
  rcases hown.2 with ⟨rfl,rfl⟩ | ⟨g,cap,cur,rfl,_,hg,_,_,_,htake⟩
  ·have : xs = []:= List.eq_nil_of_length_eq_zero (by simpa using hown.1)
   rw [this] at hu
   cases hu
  ·rw [← htake] at hu
   exact hone g cur e (0,0) rfl hg u (List.mem_of_mem_take hu)
 have fresh : ∀ (W : World) (k : Nat) (cur : Array Value) (cp : Nat),(∀ u ∈ cur.toList,u.oneCell' = true) → OneRow (W.alloc (.cells cur e)) (.slice (some ⟨W.heap.size,0,none⟩) k cp):= by
  intro W k cur cp hc g cur' e' fr hb hh
  simp only [Value.ownBlock,Option.some.injEq] at hb
  subst hb
  rw [World.alloc_heap_new W] at hh
  injection hh with hh
  injection hh with h2
  rw [← h2]
  exact hc
 have cat : ∀ (l l' : List Value) (k : Nat),(∀ u ∈ l,u.oneCell' = true) → (∀ u ∈ l',u.oneCell' = true) → ∀ u ∈ (l.toArray ++ l'.toArray ++ Builtin.zeroCells z.cells k).toList,u.oneCell' = true:= by
  intro l l' k h2 h3 u hu
  simp only [Array.toList_append,List.mem_append] at hu
  rcases hu with (hu | hu) | hu
  ·exact h2 u hu
  ·exact h3 u hu
  ·exact one_zero hz1 k u hu
 rcases hown.2 with ⟨rfl,rfl⟩ | ⟨g,cap,cur,rfl,hbg,hg,hnc,hcm,hcs,htake⟩
 ·rw [run_append_nil (P:= P) w t ty e i z ht hi hz a m c news hl hnews hm (by omega) (by simp only [Nat.zero_add] at hbytes; omega)] at hrun
  injection hrun with e1 e2
  subst e1 e2
  have:= cat [] news (grownCap w m 0 e - m) (fun u hu => by cases hu) h1
  exact fresh w.drew m _ _ (by simpa using this)
 ·by_cases hroom : n + m ≤ cap
  ·have hfit : n * i.size + news.length ≤ cur.size:= by rw [hl,hcs,← Nat.add_mul]; exact Nat.mul_le_mul_right _ hroom
   rw [run_append_room (P:= P) w t ty e i ht hi g n cap cur hg a m c news hl hnews h1 hroom hfit] at hrun
   injection hrun with e1 e2
   subst e1 e2
   intro g' cur' e' fr hb hh
   simp only [Value.ownBlock,Option.some.injEq] at hb
   subst hb
   rw [setRow_heap w g cur _ e _ hg] at hh
   injection hh with hh
   injection hh with h2
   rw [← h2]
   intro u hu
   simp only [List.mem_append] at hu
   have hc:= hone g cur e (0,0) rfl hg
   rcases hu with (hu | hu) | hu
   ·exact hc u (List.mem_of_mem_take hu)
   ·exact h1 u hu
   ·exact hc u (List.mem_of_mem_drop hu)
  ·have holds : ∀ j u,xs[j]? = some u → w.cell? ((⟨g,0,none⟩ : Addr).add j) = some u:= hown.cells (g:= g) rfl
   rw [run_append_grow (P:= P) w t ty e i z ht hi hz ⟨g,0,none⟩ n cap xs hown.1 holds a m c news hl hnews (by omega) (by omega) (growslice_fits (by omega) hbytes)] at hrun
   injection hrun with e1 e2
   subst e1 e2
   exact fresh w.drew (n + m) _ _ (cat xs news _ hxs h1)
theorem wpListIn_append_one {F : Fence} {n : Nat} {P : Program} (w : World) {ops : Array Oper} {rest : List Oper} {o : Oper} {a : Act} {Q : Exit → Act → World → Prop}
  (hg : o.guard = none) (s x : Operand) (t : TypeId) (hop : o.op = Op.call { callee:= Callee.builtin Builtin.append,args:= #[s,x],argTypes:= #[t,t] })
  (base : Nat) (e : TypeId) (i : TypeInfo) (z : Value) (size bytes : Nat) (h1 : P.underlying t = some (.slice e)) (h2 : P.info? e = some i) (h3 : i.zero = some z) (h4 : i.size = size) (h5 : i.bytes = bytes) (h6 : z.cells.size = size) (h7 : 0 < size) (hz1 : ∀ u ∈ z.cells.toList,u.oneCell' = true)
  (v : Value) (k : Nat) (xs : List Value) (hs : a.eval s = v) (hown : w.ownsRow base e size v k xs) (hone : OneRow w v) (ad : Addr) (m c : Nat) (news : List Value) (hx : a.eval x = .slice (some ad) m c) (hn : news.length = m * size)
  (hc : ∀ j u,news[j]? = some u → w.cell? (ad.add j) = some u) (h1c : ∀ u ∈ news,u.oneCell' = true) (hm : 0 < m) (b1 : k + m ≤ maxLen) (b2 : (k + m) * bytes ≤ 140737488355328) (b3 : base ≤ w.heap.size)
  (hK : ∀ v' w',w'.ownsRow base e size v' (k + m) (xs ++ news) → w.grownBy w' v.ownBlock → OneRow w' v' → wpListIn F n P ops Q rest (a.put o.dst v') w') :
  wpListIn F n P ops Q (o :: rest) a w:= by
 refine wpListIn_plain hg fun K hK' => ?_
 obtain ⟨v',w',hrun,r1,r2,_⟩:= run_append_own (P:= P) w base t o.type e i z size bytes h1 h2 h3 h4 h5 h6 h7 v k xs hown ad m c news hn hc h1c b1 b2 b3
 have r3:= one_appended w base t o.type e i z size bytes h1 h2 h3 h4 h5 hz1 v k xs hown hone ad m c news hn hc h1c hm b1 b2 hrun
 unfold Oper.wpIn
 refine ⟨?_,?_⟩
 ·simp [Oper.about,hop,resolve,Target.leads,Sem.run_pure]
 ·rw [Oper.semAt_plain F _ _ (by rw [hop]; intro c hc'; cases hc')]
  simp [execOp,hop,resolve,invoke,builtin,hs,hx,hrun,Result.andThen]
  exact hK' _ _ (hK v' w' r1 r2 r3)
theorem holdsOne_own {β : Type} (n₀ B : Nat) (t e : TypeId) (size : Nat) (k : β → Nat) (f : β → List Value) : Own (fun s W => ∃ v,Boxed W B t v ∧ W.ownsRow n₀ e size v (k s) (f s) ∧ OneRow W v):= by
 rintro s X Y row ⟨v,hv,hr,hG⟩ hg hrow
 have hne : v.ownBlock = none ∨ v.ownBlock ≠ row:= by
  rcases hr.2 with ⟨rfl,_⟩ | ⟨g,cap,cur,rfl,_,hgb,_⟩
  ·exact .inl rfl
  ·refine .inr fun e' => ?_
   obtain ⟨o,ho,hc⟩:= hrow g (by simpa [Value.ownBlock] using e'.symm)
   rw [hgb] at ho; cases ho; cases hc
 refine ⟨v,hv.kept hg (fun e' => ?_),hr.kept hg hne,hG.kept hr hg hne⟩
 obtain ⟨o,ho,hc⟩:= hrow B e'.symm
 rw [show X.heap[B]? = _ from hv] at ho; cases ho; cases hc
theorem infoA : (Tryz.prog.info? 32).map (fun i => (i.zero,i.size,i.bytes)) = some (some (.int .u32 0),1,4):= by kernel_rfl
theorem own_ne {W : World} {base : Nat} {e : TypeId} {size : Nat} {v : Value} {k : Nat} {xs : List Value} (h : W.ownsRow base e size v k xs) {l : Nat} {o : Obj} (hl : W.heap[l]? = some o) (ho : o.isCells = false) : v.ownBlock = none ∨ v.ownBlock ≠ some l:= by
 rcases h.2 with ⟨rfl,_⟩ | ⟨g,cap,cur,rfl,_,hgb,_⟩
 ·exact .inl rfl
 ·refine .inr fun e' => ?_
  obtain rfl : g = l:= by simpa [Value.ownBlock] using e'
  rw [hgb] at hl; cases hl; cases ho
set_option maxRecDepth 100000 in
set_option maxHeartbeats 2000000 in
/-- slices.AppendSeq(nil, slices.Values(zs)): a slice of the call's own that holds zs. -/
theorem appendSeq_in (F : Fence) (n : Nat) (h3 : F.fn 222) (h5 : F.fn 198) (hro : F.round = none) (hn : 3 ≤ n) (Bs Bo : Nat) (sv : Value) (zs : List Nat) (hlen : zs.length ≤ 4294967296) (w : World) (hBs : Bs < w.heap.size)
  (hsv : w.cell? ⟨Bs,Bo,none⟩ = some sv) (hL : Nums w.heap.size w sv zs) :
  CallsIn F n Tryz.prog 222 #[.slice none 0 0,.func (.func 198) #[] #[.pointer (some ⟨Bs,Bo,none⟩)]] w fun e W' => ∃ v,e = .returned v ∧ W'.ownsRow w.heap.size 32 1 v zs.length (zs.map enc) ∧ OneRow W' v ∧ Below w.heap.size w W':= by
 have h1 : 1 ≤ n:= by omega
 obtain ⟨i0,hi,hz0,hz1,hz2⟩:= info_parts infoA
 refine callsIn_of_wp_marks Tryz.func222 rfl h3 ?_ hro
 simp only [Tryz.ntmps222,List.size_toArray,List.length_cons,List.length_nil,Nat.reduceAdd,Nat.reduceSub,Array.replicate_succ,Array.replicate_zero,List.push_toArray,List.append_toArray,List.nil_append,List.cons_append]
 gi_wp2
 have bO:= Boxed.new w 52 (.slice none 0 0)
 have hB0 : Below w.heap.size w (w.alloc (.cells #[.slice none 0 0] 52)):= (Below.refl _ w).alloc (Nat.le_refl _) _
 refine wpIn_rangeFunc_ownG hro h1 (gf:= 198) (lb:= #[.pointer (some ⟨Bs,Bo,none⟩)]) rfl h5 (enters_of Tryz.func198 (by kernel_rfl) rfl)
  (values_stops F (n - 1) h5 hro (by omega) Bs Bo w.heap.size sv zs hlen _ (by simp; omega) (by simp) ((hB0.cell (p:= ⟨Bs,Bo,none⟩) hBs).trans hsv) (hL.below hB0)) belowK_t (belowK_b (by simp)) (Below.refl _ _) (fun _ => rfl)
  (fun pre W => (∃ v,Boxed W w.heap.size 52 v ∧ W.ownsRow w.heap.size 32 1 v pre.length (pre.map enc) ∧ OneRow W v) ∧ Below w.heap.size w W)
  (fun _ _ _ => False)
  (OwnFrom.and (Own.from (holdsOne_own w.heap.size w.heap.size 52 32 1 (fun pre : List Nat => pre.length) (fun pre : List Nat => pre.map enc)) _) (ownFrom_below (Nat.le_refl _) (by simp)))
  (fun _ _ _ _ _ hs _ _ => hs)
  ⟨⟨_,bO,World.ownsRow_nil _ _ _ _,fun g cur e fr hb _ => by cases hb⟩,hB0⟩
  (fun x => { tmps:= #[.slice none 0 0,.func (.func 198) #[] #[.pointer (some ⟨Bs,Bo,none⟩)],.pointer (some ⟨w.heap.size,0,none⟩),undef,.slice none 0 0,.int .u32 (x : Nat),.func (.func 198) #[] #[.pointer (some ⟨Bs,Bo,none⟩)],.int .u32 (x : Nat),undef,undef,undef,undef,undef],defers:= [] }) ?assign ?body ?done ?stop
 case assign =>
  intro l x W K hK
  gi_wp2
  exact hK
 case body =>
  rintro l pre x W ⟨⟨v,hv,hrow,hone⟩,hB⟩ hlt
  have hc:= hv.cell
  have hz3 : ∀ u ∈ (Value.int .u32 0).cells.toList,u.oneCell' = true:= by decide
  have hne : v.ownBlock = none ∨ v.ownBlock ≠ none:= by cases v.ownBlock <;> simp
  gi_wp2_with (gi_at_builtin; refine wpListIn_append_one _ rfl _ _ 52 rfl w.heap.size 32 i0 (.int .u32 0) 1 4 Tryz.underlying52 hi hz0 hz1 hz2 rfl (by decide) hz3 _ _ _ rfl (hrow.alloc _) (hone.kept hrow (World.grownBy_alloc W _ none) hne) ⟨W.heap.size,0,none⟩ 1 1 [.int .u32 (x : Nat)] rfl rfl (cell_one_new _ _ _) (by simp [Value.oneCell']) (by decide) (by have : maxLen = 9223372036854775807:= rfl; omega) (by omega) (by have:= hB.size; simp; omega) ?_; intro v' w1 hown' hgrow hone'; obtain ⟨g',cap',rfl⟩:= ownsRow_succ hown'; obtain ⟨hv1,hv2,hr2,hk2,hb2⟩:= hv.appended (by decide) hrow hB.size (Nat.le_refl _) hown' hgrow; have hc1:= hv1.cell; have hf1:= hv1.frozen)
  exact ⟨hk2.from _,hb2,⟨_,hv2,by simpa [enc] using hr2,hone'.kept hown' (grownBy_setCell' _ _ _) (.inr (hv1.not_row (by decide) hown').symm)⟩,hB.trans hb2⟩
 case done =>
  rintro D ys W hD rfl ⟨⟨v,hv,hrow,hone⟩,hB⟩ hK
  have hc:= hv.cell
  gi_wp2
  refine ⟨by simp,.inl ⟨_,_,rfl,run_takeDeferred hK,?_⟩⟩
  exact ⟨_,results_tmp rfl _ _ _,v,rfl,ownsRow_putObj hrow _ hK rfl,hone.kept hrow (grownBy_putObj' W D _) (own_ne hrow hK rfl),hB.trans (belowK_b (w:= w) (Nat.le_refl _) W D _ _ (by simp at hD; omega) hK rfl rfl)⟩
 case stop =>
  rintro D c pre W _ _ h _
  exact h.elim
end Go.Proofs.YtnndbbmidoidpaaGreatDoor.SQ
end

section
set_option maxHeartbeats 4000000
namespace Go.Proofs.YtnndbbmidoidpaaGreatDoor.VL
open Go.RowKit Go.Proofs Go.Sort
theorem iw (x : Int) (h0 : -9223372036854775808 ≤ x) (h1 : x ≤ 9223372036854775807) : IntKind.i64.wrap x = x:= by
 rw [IntKind.wrap_i64]; omega
theorem iwn {x : Int} (n : Nat) (e : x = n) (h1 : n ≤ 9223372036854775807) : IntKind.i64.wrap x = (n : Int):= by
 rw [e]; exact iw _ (by omega) (by omega)
abbrev aI (n : Int) : AV:= .lit (.int .u32 n)
abbrev iI (n : Int) : AV:= .lit (.int .i64 n)
def Tl (tl : List AV) : Prop:= ∀ x ∈ tl,x = .dead ∨ ∃ v,x = .lit v
def dC (d : Array Int) (tl : List AV) : List AV:= d.toList.map aI ++ tl
theorem dC_len (d : Array Int) (tl : List AV) : (dC d tl).length = d.size + tl.length:= by simp [dC]
theorem dC_get {d : Array Int} (tl : List AV) {j : Nat} (h : j < d.size) : (dC d tl)[j]? = some (aI d[j]!):= by
 rw [dC,List.getElem?_append_left (by simpa using h),List.getElem?_map]
 simp [h]
theorem dC_ld {d : Array Int} (tl : List AV) {j : Nat} (h : j < d.size) : aval.ld false 1 ((dC d tl).drop j) = some (aI d[j]!):= by
 simp only [aval.ld,List.getElem?_drop,Nat.add_zero]
 exact dC_get tl h
theorem dC_set {d : Array Int} (tl : List AV) {j : Nat} (h : j < d.size) (v : Int) : (dC d tl).take j ++ [aI v] ++ (dC d tl).drop (j + 1) = dC (d.setIfInBounds j v) tl:= by
 apply List.ext_getElem?
 intro i
 have hl:= dC_len d tl
 have htl : ((dC d tl).take j).length = j:= by rw [List.length_take]; omega
 simp only [dC,Array.toList_setIfInBounds,List.map_set]
 rw [List.append_assoc]
 by_cases h1 : i < j
 ·rw [List.getElem?_append_left (by rw [List.length_take,List.length_append,List.length_map,Array.length_toList]; omega),List.getElem?_take_of_lt h1]
  rw [List.getElem?_append_left (by simp; omega),List.getElem?_append_left (by simp; omega),List.getElem?_set_ne (by omega)]
 ·rw [List.getElem?_append_right (by rw [List.length_take,List.length_append,List.length_map,Array.length_toList]; omega)]
  have e : (List.take j (d.toList.map aI ++ tl)).length = j:= by rw [List.length_take,List.length_append,List.length_map,Array.length_toList]; omega
  rw [e]
  by_cases h2 : i = j
  ·subst h2
   have e2 : ((List.map aI d.toList).set i (aI v) ++ tl)[i]? = some (aI v):= by
    rw [List.getElem?_append_left (by rw [List.length_set,List.length_map,Array.length_toList]; exact h),List.getElem?_set_self (by rw [List.length_map,Array.length_toList]; exact h)]
   rw [e2,Nat.sub_self]
   rfl
  ·have h3 : i - j = (i - j - 1) + 1:= by omega
   rw [h3,List.singleton_append,List.getElem?_cons_succ,List.getElem?_drop]
   have h4 : j + 1 + (i - j - 1) = i:= by omega
   rw [h4]
   by_cases h5 : i < d.size
   ·rw [List.getElem?_append_left (by simpa using h5),List.getElem?_append_left (by simpa using h5),List.getElem?_set_ne (by omega)]
   ·rw [List.getElem?_append_right (by simp; omega),List.getElem?_append_right (by simp; omega)]
    simp
theorem mapO_id {f : AV → Option AV} : ∀ {l : List AV},(∀ x ∈ l,f x = some x) → mapO f l = some l
 | [],_ => rfl
 | x :: l,h => by
  have ih : mapO f l = some l:= mapO_id fun y hy => h y (List.mem_cons_of_mem _ hy)
  simp only [mapO,h x List.mem_cons_self,ih]
theorem close_dC (d : Array Int) {tl : List AV} (ht : Tl tl) : mapO closeV (dC d tl) = some (dC d tl):= by
 refine mapO_id fun x hx => ?_
 rcases List.mem_append.1 hx with hx | hx
 ·obtain ⟨n,_,rfl⟩:= List.mem_map.1 hx
  rfl
 ·rcases ht x hx with rfl | ⟨v,rfl⟩ <;> rfl
theorem ret_dC (C : Nat → Option (List AV)) (d : Array Int) {tl : List AV} (ht : Tl tl) : mapO (retv C false 8) (dC d tl) = some (dC d tl):= by
 refine mapO_id fun x hx => ?_
 rcases List.mem_append.1 hx with hx | hx
 ·obtain ⟨n,_,rfl⟩:= List.mem_map.1 hx
  rfl
 ·rcases ht x hx with rfl | ⟨v,rfl⟩ <;> rfl
abbrev DM : List (Nat × Nat):= [(100000,100000)]
abbrev dS (n cap : Nat) : AV:= .ml 100000 0 n cap false 1
theorem back_dC (s : List (Nat × AV)) (x y : List AV) : backC DM [(100000,y)] (mkE s [(100000,x)]) = mkE s [(100000,y)]:= by
 simp only [backC,mkE]
 congr 1
 funext c
 by_cases h : c = 100000
 ·subst h; rfl
 ·simp [lentAs,getC,h]
theorem callD_of {P : Program} {dst : Option Nat} {os : List AOper} {s : List (Nat × AV)} {K : Env → Prop} {f : FuncId} {raw al : List AV} {args : Option (List AV)} {r : AV} {d d' : Array Int} {tl : List AV} (ht : Tl tl)
  (hl : mapO (lowerM DM (getC [(100000,dC d tl)]) 8) raw = some al) (h : AM P f al [(100000,dC d tl)] r [(100000,dC d' tl)])
  (hk : awX false P os ((mkE s [(100000,dC d' tl)]).putO dst (retag (dst.getD 0) (unlend DM r))) K) : callX false P dst os s [(100000,dC d tl)] K f raw args:= by
 refine callM_of DM rfl hl ?_ h ?_
 ·show mapO _ DM = _
  simp only [DM,mapO_cons,mapO_nil,getC_cons,↓reduceIte,close_dC d ht,catO_some]
 ·rw [back_dC]
  exact hk
theorem endM_n (v : List RV) (r : AV) (ks : List Nat) (c1 : List (Nat × List AV)) (E : Env) : endM v r ks c1 .normal E = (retR E v = some r ∧ retC E ks = some c1):= rfl
theorem endM_r (v : List RV) (r : AV) (ks : List Nat) (c1 : List (Nat × List AV)) (E : Env) : endM v r ks c1 .ret E = (retR E v = some r ∧ retC E ks = some c1):= rfl
theorem retC_dC {s : List (Nat × AV)} {d : Array Int} {tl : List AV} (ht : Tl tl) : retC (mkE s [(100000,dC d tl)]) [100000] = some [(100000,dC d tl)]:= by
 simp only [retC,mapO_cons,mapO_nil,mkE_c,getC_cons,↓reduceIte,ret_dC _ d ht,catO_some]
theorem C_isNaN (x : Int) : AC Tryz.prog f_q200 [aI x] (.lit (.bool false)):= by
 refine ac_q200 ?_ (Nat.le_add_left 1 _)
 simp only [go_sem,c_q200,bne_self_eq_false]
theorem C_Less (x y : Int) : AC Tryz.prog f_q160 [aI x,aI y] (.lit (.bool (ltInt x y))):= by
 refine ac_q160 ?_ (Nat.le_add_left 2 _)
 simp only [go_sem,c_q160]
 refine callX_of (C_isNaN x) ?_
 simp only [go_sem,ltInt]
theorem swp_size (d : Array Int) (i j : Nat) : (swp d i j).size = d.size:= by simp [swp]
theorem swp_def (d : Array Int) (i j : Nat) : (d.setIfInBounds i d[j]!).setIfInBounds j d[i]! = swp d i j:= rfl
theorem C_reverse {d : Array Int} {a b cap : Nat} {tl : List AV} (ht : Tl tl) (hab : a < b) (hb : b ≤ d.size) (hd : d.size ≤ 4611686018427387904) :
  AM Tryz.prog f_q158 [dS d.size cap,iI a,iI b] [(100000,dC d tl)] (.tup []) [(100000,dC (reverseRange d a b) tl)]:= by
 refine am_q158 ?_ (by simp) (Nat.le_add_left 3 _)
 simp only [go_sem,env0M_mk,c_q158,List.map_cons,List.map_nil]
 refine aw_loop (fun m E => ∃ (i j : Nat) (e : Array Int),e.size = d.size ∧ j < d.size ∧ i ≤ j + 1 ∧ j + 1 - i ≤ m ∧ reverseLoop i j e = reverseRange d a b ∧
  E = mkE [(0,dS d.size cap),(6,iI i),(7,iI j)] [(100000,dC e tl)]) (b - a) ?_ ?_
 ·refine ⟨a,b - 1,d,rfl,by omega,by omega,by omega,rfl,?_⟩
  simp only [go_sem,iwn (b - 1) (by omega : (b : Int) - 1 = ((b - 1 : Nat) : Int)) (by omega)]
 ·rintro m _ ⟨i,j,e,he,hj,hij,hm,hr,rfl⟩
  by_cases h : i < j
  ·have f1 : ((i : Int) < (j : Int)) = True:= eq_true (by omega)
   have g1:= dC_ld tl (show i < e.size by omega)
   have g2:= dC_ld tl (show j < e.size by omega)
   have l1 : i + 1 ≤ (dC e tl).length:= by rw [dC_len]; omega
   have s1:= dC_set tl (show i < e.size by omega) e[j]!
   have l2 : j + 1 ≤ (dC (e.setIfInBounds i e[j]!) tl).length:= by rw [dC_len,Array.size_setIfInBounds]; omega
   have s2:= dC_set (d:= e.setIfInBounds i e[j]!) tl (show j < (e.setIfInBounds i e[j]!).size by rw [Array.size_setIfInBounds]; omega) e[i]!
   have b1 : (j : Int) < (d.size : Int):= by omega
   have b2 : (i : Int) < (d.size : Int):= by omega
   simp only [go_sem,f1,decide_true,g1,g2,l1,s1,l2,s2,b1,b2,Int.natCast_nonneg,Int.toNat_natCast,Nat.zero_add,Nat.mul_one,iwn (i + 1) (by omega : (i : Int) + 1 = ((i + 1 : Nat) : Int)) (by omega),iwn (j - 1) (by omega : (j : Int) - 1 = ((j - 1 : Nat) : Int)) (by omega),swp_def]
   refine ⟨m - 1,by omega,i + 1,j - 1,swp e i j,by rw [swp_size,he],by omega,by omega,by omega,?_,rfl⟩
   rw [← hr]
   conv => rhs; unfold reverseLoop
   rw [if_pos h]
  ·have f1 : ((i : Int) < (j : Int)) = False:= eq_false (by omega)
   rw [show reverseRange d a b = e by rw [← hr]; unfold reverseLoop; rw [if_neg h]]
   simp only [go_sem,f1,decide_false,endM_n,endM_r,retC_dC ht,and_self]
theorem C_insertion {d : Array Int} {a b cap : Nat} {tl : List AV} (ht : Tl tl) (hab : a ≤ b) (hb : b ≤ d.size) (hd : d.size ≤ 4611686018427387904) :
  AM Tryz.prog f_q154 [dS d.size cap,iI a,iI b] [(100000,dC d tl)] (.tup []) [(100000,dC (insertionSort ltInt d a b) tl)]:= by
 refine am_q154 ?_ (by simp) (Nat.le_add_left 3 _)
 simp only [go_sem,env0M_mk,c_q154,List.map_cons,List.map_nil]
 refine aw_loop (fun m E => ∃ (i : Nat) (e : Array Int),e.size = d.size ∧ b - i ≤ m ∧ i ≤ b + 1 ∧ a + 1 ≤ i ∧ insOuter ltInt a b i e = insertionSort ltInt d a b ∧
  E = mkE [(0,dS d.size cap),(1,iI a),(2,iI b),(6,iI i)] [(100000,dC e tl)]) (b - a) ?_ ?_
 ·refine ⟨a + 1,d,rfl,by omega,by omega,by omega,rfl,?_⟩
  simp only [go_sem,iwn (a + 1) (by omega : (a : Int) + 1 = ((a + 1 : Nat) : Int)) (by omega)]
 ·rintro m _ ⟨i,e,he,hm,hib,hai,hr,rfl⟩
  by_cases h : i < b
  ·have f1 : ((i : Int) < (b : Int)) = True:= eq_true (by omega)
   have w1:= iwn (i + 1) (by omega : (i : Int) + 1 = ((i + 1 : Nat) : Int)) (by omega)
   rw [insOuter,if_pos h] at hr
   simp only [go_sem,f1,decide_true]
   refine aw_loop (fun m' E => ∃ (j : Nat) (x : Array Int),x.size = d.size ∧ j ≤ m' ∧ j ≤ i ∧ a ≤ j ∧ insInner ltInt a j x = insInner ltInt a i e ∧
    E = mkE [(0,dS d.size cap),(1,iI a),(2,iI b),(6,iI i),(7,iI j)] [(100000,dC x tl)]) i ?_ ?_
   ·exact ⟨i,e,he,by omega,by omega,by omega,rfl,by simp only [go_sem]⟩
   ·rintro m' _ ⟨j,x,hx,hm',hji,haj,hr',rfl⟩
    by_cases h2 : a < j
    ·obtain ⟨j',rfl⟩ : ∃ j',j = j' + 1:= ⟨j - 1,by omega⟩
     have f2 : ((a : Int) < ((j' + 1 : Nat) : Int)) = True:= eq_true (by omega)
     have b1 : ((j' + 1 : Nat) : Int) < (d.size : Int):= by omega
     have b2 : ((j' : Nat) : Int) < (d.size : Int):= by omega
     have g1:= dC_ld tl (show j' < x.size by omega)
     have g2:= dC_ld tl (show j' + 1 < x.size by omega)
     have w2:= iwn j' (by omega : ((j' + 1 : Nat) : Int) - 1 = ((j' : Nat) : Int)) (by omega)
     simp only [go_sem,f2,decide_true,b1,b2,g1,g2,w2,Int.natCast_nonneg,Int.toNat_natCast,Nat.zero_add,Nat.mul_one]
     refine callX_of (C_Less x[j' + 1]! x[j']!) ?_
     simp only [go_sem]
     rw [insInner] at hr'
     cases hlt : ltInt x[j' + 1]! x[j']! with
     | true =>
      have l1 : j' + 1 + 1 ≤ (dC x tl).length:= by rw [dC_len]; omega
      have s1:= dC_set tl (show j' + 1 < x.size by omega) x[j']!
      have l2 : j' + 1 ≤ (dC (x.setIfInBounds (j' + 1) x[j']!) tl).length:= by rw [dC_len,Array.size_setIfInBounds]; omega
      have s2:= dC_set (d:= x.setIfInBounds (j' + 1) x[j']!) tl (show j' < (x.setIfInBounds (j' + 1) x[j']!).size by rw [Array.size_setIfInBounds]; omega) x[j' + 1]!
      simp only [go_sem,f2,decide_true,b1,b2,g1,g2,w2,l1,s1,l2,s2,Int.natCast_nonneg,Int.toNat_natCast,Nat.zero_add,Nat.mul_one,swp_def]
      refine ⟨m' - 1,by omega,j',swp x (j' + 1) j',by rw [swp_size,hx],by omega,by omega,by omega,?_,rfl⟩
      rw [← hr',if_pos (by simp [hlt]; omega)]
     | false =>
      rw [if_neg (by simp [hlt])] at hr'
      simp only [go_sem,w1]
      exact ⟨m - 1,by omega,i + 1,x,hx,by omega,by omega,by omega,by rw [hr']; exact hr,rfl⟩
    ·have f2 : ((a : Int) < (j : Int)) = False:= eq_false (by omega)
     have hx' : insInner ltInt a i e = x:= by
      rw [← hr']
      cases j with
      | zero => rfl
      | succ j => rw [insInner,if_neg (by simp; omega)]
     simp only [go_sem,f2,decide_false,w1]
     exact ⟨m - 1,by omega,i + 1,x,hx,by omega,by omega,by omega,by rw [← hx']; exact hr,rfl⟩
  ·have f1 : ((i : Int) < (b : Int)) = False:= eq_false (by omega)
   rw [show insertionSort ltInt d a b = e by rw [← hr]; unfold insOuter; rw [if_neg h]]
   simp only [go_sem,f1,decide_false,endM_n,endM_r,retC_dC ht,and_self]
end Go.Proofs.YtnndbbmidoidpaaGreatDoor.VL
end

section
set_option maxHeartbeats 4000000
namespace Go.Proofs.YtnndbbmidoidpaaGreatDoor.VL
open Go.RowKit Go.Proofs Go.Sort
theorem swp_cells {x : Array Int} (tl : List AV) {i j : Nat} (hi : i < x.size) (hj : j < x.size) :
  aval.ld false 1 ((dC x tl).drop i) = some (aI x[i]!) ∧ aval.ld false 1 ((dC x tl).drop j) = some (aI x[j]!) ∧ i + 1 ≤ (dC x tl).length ∧ (dC x tl).take i ++ [aI x[j]!] ++ (dC x tl).drop (i + 1) = dC (x.setIfInBounds i x[j]!) tl ∧
  j + 1 ≤ (dC (x.setIfInBounds i x[j]!) tl).length ∧ (dC (x.setIfInBounds i x[j]!) tl).take j ++ [aI x[i]!] ++ (dC (x.setIfInBounds i x[j]!) tl).drop (j + 1) = dC ((x.setIfInBounds i x[j]!).setIfInBounds j x[i]!) tl :=
 ⟨dC_ld tl hi,dC_ld tl hj,by rw [dC_len]; omega,dC_set tl hi _,by rw [dC_len,Array.size_setIfInBounds]; omega,dC_set (d:= x.setIfInBounds i x[j]!) tl (by rw [Array.size_setIfInBounds]; exact hj) _⟩
theorem C_siftDown {d : Array Int} {lo hi first cap : Nat} {tl : List AV} (ht : Tl tl) (hb : first + hi ≤ d.size) (hd : d.size ≤ 255) (hlo : lo ≤ 255) :
  AM Tryz.prog f_q195 [dS d.size cap,iI lo,iI hi,iI first] [(100000,dC d tl)] (.tup []) [(100000,dC (siftDown ltInt hi first lo d) tl)]:= by
 refine am_q195 ?_ (by simp) (Nat.le_add_left 4 _)
 simp only [go_sem,env0M_mk,c_q195,List.map_cons,List.map_nil]
 refine aw_loop (fun m E => ∃ (r : Nat) (x : Array Int),x.size = d.size ∧ r ≤ 255 ∧ hi - r ≤ m ∧ siftDown ltInt hi first r x = siftDown ltInt hi first lo d ∧
  E = mkE [(0,dS d.size cap),(2,iI hi),(3,iI first),(8,iI r)] [(100000,dC x tl)]) (hi - lo) ?_ ?_
 ·exact ⟨lo,d,rfl,hlo,by omega,rfl,by simp only [go_sem]⟩
 ·rintro m _ ⟨r,x,hx,hr255,hm,hr,rfl⟩
  have w1:= iwn (2 * r) (by omega : (2 : Int) * (r : Int) = ((2 * r : Nat) : Int)) (by omega)
  have w2:= iwn (2 * r + 1) (by omega : ((2 * r : Nat) : Int) + 1 = ((2 * r + 1 : Nat) : Int)) (by omega)
  by_cases h : hi ≤ 2 * r + 1
  ·have f1 : ((hi : Int) ≤ ((2 * r + 1 : Nat) : Int)) = True:= eq_true (by omega)
   have e : siftDown ltInt hi first r x = x:= by rw [siftDown,dif_pos h]
   rw [e] at hr
   simp only [go_sem,w1,w2,f1,decide_true,endM_n,endM_r,← hr,retC_dC ht,and_self]
  ·have f1 : ((hi : Int) ≤ ((2 * r + 1 : Nat) : Int)) = False:= eq_false (by omega)
   have w3:= iwn (2 * r + 2) (by omega : ((2 * r + 1 : Nat) : Int) + 1 = ((2 * r + 2 : Nat) : Int)) (by omega)
   have w4:= iwn (first + r) (by omega : (first : Int) + (r : Int) = ((first + r : Nat) : Int)) (by omega)
   have bR : ((first + r : Nat) : Int) < (d.size : Int):= by omega
   rw [siftDown,dif_neg h] at hr
   by_cases h2 : 2 * r + 2 < hi
   ·have f2 : (((2 * r + 2 : Nat) : Int) < (hi : Int)) = True:= eq_true (by omega)
    have w5:= iwn (first + (2 * r + 1)) (by omega : (first : Int) + ((2 * r + 1 : Nat) : Int) = ((first + (2 * r + 1) : Nat) : Int)) (by omega)
    have w6:= iwn (first + (2 * r + 2)) (by omega : ((first + (2 * r + 1) : Nat) : Int) + 1 = ((first + (2 * r + 2) : Nat) : Int)) (by omega)
    have w7:= iwn (first + (2 * r + 2)) (by omega : (first : Int) + ((2 * r + 2 : Nat) : Int) = ((first + (2 * r + 2) : Nat) : Int)) (by omega)
    have b1 : ((first + (2 * r + 1) : Nat) : Int) < (d.size : Int):= by omega
    have b2 : ((first + (2 * r + 2) : Nat) : Int) < (d.size : Int):= by omega
    obtain ⟨g1,g2,_⟩:= swp_cells tl (show first + (2 * r + 1) < x.size by omega) (show first + (2 * r + 2) < x.size by omega)
    simp only [go_sem,w1,w2,w3,w5,w6,f1,f2,decide_true,decide_false,b1,b2,g1,g2,Int.natCast_nonneg,Int.toNat_natCast,Nat.zero_add,Nat.mul_one]
    refine callX_of (C_Less x[first + (2 * r + 1)]! x[first + (2 * r + 2)]!) ?_
    cases hlt : ltInt x[first + (2 * r + 1)]! x[first + (2 * r + 2)]! with
    | true =>
     rw [if_pos (by simp only [Bool.and_eq_true,decide_eq_true_eq]; exact ⟨by omega,hlt⟩)] at hr
     rw [dif_pos h2] at hr
     obtain ⟨g3,g4,l1,s1,l2,s2⟩:= swp_cells tl (show first + r < x.size by omega) (show first + (2 * r + 2) < x.size by omega)
     simp only [go_sem,w1,w2,w3,w4,w7,b2,bR,g3,g4,Int.natCast_nonneg,Int.toNat_natCast,Nat.zero_add,Nat.mul_one]
     refine callX_of (C_Less x[first + r]! x[first + (2 * r + 2)]!) ?_
     cases hl2 : ltInt x[first + r]! x[first + (2 * r + 2)]! with
     | true =>
      rw [if_neg (by simp [hl2])] at hr
      simp only [go_sem,w4,w7,b2,bR,g3,g4,l1,s1,l2,s2,Int.natCast_nonneg,Int.toNat_natCast,Nat.zero_add,Nat.mul_one,swp_def]
      exact ⟨m - 1,by omega,2 * r + 2,_,by rw [swp_size,hx],by omega,by omega,hr,rfl⟩
     | false =>
      rw [if_pos (by simp [hl2])] at hr
      simp only [go_sem,endM_n,endM_r,← hr,retC_dC ht,and_self]
    | false =>
     rw [if_neg (by rw [show first + (2 * r + 1) + 1 = first + (2 * r + 2) by omega,hlt]; simp)] at hr
     obtain ⟨g3,g4,l1,s1,l2,s2⟩:= swp_cells tl (show first + r < x.size by omega) (show first + (2 * r + 1) < x.size by omega)
     simp only [go_sem,w1,w2,w3,w4,w5,b1,bR,g3,g4,Int.natCast_nonneg,Int.toNat_natCast,Nat.zero_add,Nat.mul_one]
     refine callX_of (C_Less x[first + r]! x[first + (2 * r + 1)]!) ?_
     cases hl2 : ltInt x[first + r]! x[first + (2 * r + 1)]! with
     | true =>
      rw [if_neg (by simp [hl2])] at hr
      simp only [go_sem,w4,w5,b1,bR,g3,g4,l1,s1,l2,s2,Int.natCast_nonneg,Int.toNat_natCast,Nat.zero_add,Nat.mul_one,swp_def]
      exact ⟨m - 1,by omega,2 * r + 1,_,by rw [swp_size,hx],by omega,by omega,hr,rfl⟩
     | false =>
      rw [if_pos (by simp [hl2])] at hr
      simp only [go_sem,endM_n,endM_r,← hr,retC_dC ht,and_self]
   ·have f2 : (((2 * r + 2 : Nat) : Int) < (hi : Int)) = False:= eq_false (by omega)
    have w5:= iwn (first + (2 * r + 1)) (by omega : (first : Int) + ((2 * r + 1 : Nat) : Int) = ((first + (2 * r + 1) : Nat) : Int)) (by omega)
    have b1 : ((first + (2 * r + 1) : Nat) : Int) < (d.size : Int):= by omega
    rw [if_neg (by simp; omega)] at hr
    obtain ⟨g3,g4,l1,s1,l2,s2⟩:= swp_cells tl (show first + r < x.size by omega) (show first + (2 * r + 1) < x.size by omega)
    simp only [go_sem,w1,w2,w3,w4,w5,f1,f2,decide_true,decide_false,b1,bR,g3,g4,Int.natCast_nonneg,Int.toNat_natCast,Nat.zero_add,Nat.mul_one]
    refine callX_of (C_Less x[first + r]! x[first + (2 * r + 1)]!) ?_
    cases hl2 : ltInt x[first + r]! x[first + (2 * r + 1)]! with
    | true =>
     rw [if_neg (by simp [hl2])] at hr
     simp only [go_sem,w4,w5,b1,bR,g3,g4,l1,s1,l2,s2,Int.natCast_nonneg,Int.toNat_natCast,Nat.zero_add,Nat.mul_one,swp_def]
     exact ⟨m - 1,by omega,2 * r + 1,_,by rw [swp_size,hx],by omega,by omega,hr,rfl⟩
    | false =>
     rw [if_pos (by simp [hl2])] at hr
     simp only [go_sem,endM_n,endM_r,← hr,retC_dC ht,and_self]
theorem siftDown_size {lt : Int → Int → Bool} (hi first : Nat) : ∀ (n r : Nat) (x : Array Int),hi - r ≤ n → (siftDown lt hi first r x).size = x.size:= by
 intro n
 induction n with
 | zero =>
  intro r x h
  rw [siftDown,dif_pos (by omega)]
 | succ n ih =>
  intro r x h
  rw [siftDown]
  split
  ·rfl
  ·split
   ·split
    ·rfl
    ·split
     ·rw [ih _ _ (by omega),swp_size]
     ·rfl
   ·split
    ·rfl
    ·rw [ih _ _ (by omega),swp_size]
theorem C_heap {d : Array Int} {a b cap : Nat} {tl : List AV} (ht : Tl tl) (hab : a < b) (hb : b ≤ d.size) (hd : d.size ≤ 255) :
  AM Tryz.prog f_q155 [dS d.size cap,iI a,iI b] [(100000,dC d tl)] (.tup []) [(100000,dC (heapSort ltInt d a b) tl)]:= by
 refine am_q155 ?_ (by simp) (Nat.le_add_left 3 _)
 have wq : ((b - a - 1 : Nat) : Int).tdiv 2 = (((b - a - 1) / 2 : Nat) : Int):= by
  rw [Int.tdiv_eq_ediv_of_nonneg (by omega)]
  omega
 have w2 : IntKind.i64.wrap (((b - a - 1) / 2 : Nat) : Int) = (((b - a - 1) / 2 : Nat) : Int):= iwn _ rfl (by omega)
 simp only [go_sem,env0M_mk,c_q155,List.map_cons,List.map_nil,iwn (b - a) (by omega : (b : Int) - (a : Int) = ((b - a : Nat) : Int)) (by omega),iwn (b - a - 1) (by omega : ((b - a : Nat) : Int) - 1 = ((b - a - 1 : Nat) : Int)) (by omega),wq,w2,show ((2 : Int) == 0) = false from rfl]
 have hsz : (heapBuild ltInt (b - a) a ((b - a - 1) / 2 + 1) d).size = d.size:= by
  generalize (b - a - 1) / 2 + 1 = k
  clear wq w2 hb hd
  induction k generalizing d with
  | zero => rfl
  | succ k ih => rw [heapBuild,ih,siftDown_size _ _ _ _ _ (Nat.le_refl _)]
 have hH : heapSort ltInt d a b = heapPop ltInt a (b - a) (heapBuild ltInt (b - a) a ((b - a - 1) / 2 + 1) d):= rfl
 rw [hH]
 refine aw_loop (fun m E => ∃ (k : Nat) (x : Array Int),x.size = d.size ∧ k ≤ m ∧ k ≤ 255 ∧ heapBuild ltInt (b - a) a k x = heapBuild ltInt (b - a) a ((b - a - 1) / 2 + 1) d ∧
  E = mkE [(0,dS d.size cap),(6,iI a),(7,iI 0),(8,iI (b - a : Nat)),(9,iI ((k : Int) - 1))] [(100000,dC x tl)]) ((b - a - 1) / 2 + 1) ?_ ?_
 ·refine ⟨(b - a - 1) / 2 + 1,d,rfl,Nat.le_refl _,by omega,rfl,?_⟩
  simp only [go_sem,show (((b - a - 1) / 2 + 1 : Nat) : Int) - 1 = (((b - a - 1) / 2 : Nat) : Int) by omega]
 ·rintro m _ ⟨k,x,hx,hm,hk255,hr,rfl⟩
  cases k with
  | succ k =>
   have e1 : ((k + 1 : Nat) : Int) - 1 = (k : Int):= by omega
   have f1 : ((0 : Int) ≤ (k : Int)) = True:= eq_true (by omega)
   have hC:= C_siftDown (lo:= k) (hi:= b - a) (first:= a) (cap:= cap) (d:= x) ht (by omega) (by omega) (by omega)
   rw [hx] at hC
   simp only [go_sem,e1,f1,decide_true]
   refine callD_of ht rfl hC ?_
   simp only [go_sem,iw ((k : Int) - 1) (by omega) (by omega)]
   exact ⟨m - 1,by omega,k,_,by rw [siftDown_size _ _ _ _ _ (Nat.le_refl _),hx],by omega,by omega,hr,rfl⟩
  | zero =>
   have e : x = heapBuild ltInt (b - a) a ((b - a - 1) / 2 + 1) d:= by rw [← hr]; rfl
   rw [← e] at hsz ⊢
   clear hr e
   have f1 : ((0 : Int) ≤ ((0 : Nat) : Int) - 1) = False:= eq_false (by omega)
   simp only [go_sem,f1,decide_false,iwn (b - a - 1) (by omega : ((b - a : Nat) : Int) - 1 = ((b - a - 1 : Nat) : Int)) (by omega)]
   refine aw_loop (fun m E => ∃ (k : Nat) (y : Array Int),y.size = d.size ∧ k ≤ m ∧ k ≤ b - a ∧ heapPop ltInt a k y = heapPop ltInt a (b - a) x ∧
    E = mkE [(0,dS d.size cap),(6,iI a),(7,iI 0),(10,iI ((k : Int) - 1))] [(100000,dC y tl)]) (b - a) ?_ ?_
   ·refine ⟨b - a,x,hsz,Nat.le_refl _,Nat.le_refl _,rfl,?_⟩
    simp only [go_sem,show ((b - a : Nat) : Int) - 1 = ((b - a - 1 : Nat) : Int) by omega]
   ·rintro m _ ⟨k,y,hy,hm,hk,hr,rfl⟩
    cases k with
    | zero =>
     have e : y = heapPop ltInt a (b - a) x:= by rw [← hr]; rfl
     rw [← e]
     have f1 : ((0 : Int) ≤ ((0 : Nat) : Int) - 1) = False:= eq_false (by omega)
     simp only [go_sem,f1,decide_false,endM_n,endM_r,retC_dC ht,and_self]
    | succ k =>
     have e1 : ((k + 1 : Nat) : Int) - 1 = (k : Int):= by omega
     have f1 : ((0 : Int) ≤ (k : Int)) = True:= eq_true (by omega)
     have w4:= iwn (a + k) (by omega : (a : Int) + (k : Int) = ((a + k : Nat) : Int)) (by omega)
     obtain ⟨g1,g2,l1,s1,l2,s2⟩:= swp_cells tl (show a < y.size by omega) (show a + k < y.size by omega)
     have b1 : (a : Int) < (d.size : Int):= by omega
     have b2 : ((a + k : Nat) : Int) < (d.size : Int):= by omega
     have hC:= C_siftDown (lo:= 0) (hi:= k) (first:= a) (cap:= cap) (d:= swp y a (a + k)) ht (by rw [swp_size]; omega) (by rw [swp_size]; omega) (by omega)
     rw [swp_size,hy] at hC
     simp only [go_sem,e1,f1,w4,b1,b2,g1,g2,l1,s1,l2,s2,decide_true,Int.natCast_nonneg,Int.toNat_natCast,Nat.zero_add,Nat.mul_one,swp_def]
     refine callD_of ht rfl hC ?_
     simp only [go_sem,iw ((k : Int) - 1) (by omega) (by omega)]
     exact ⟨m - 1,by omega,k,_,by rw [siftDown_size _ _ _ _ _ (Nat.le_refl _),swp_size,hy],by omega,by omega,hr,rfl⟩
end Go.Proofs.YtnndbbmidoidpaaGreatDoor.VL
end

