/- filt, part 2: members: contracts of Admits, Of. -/
import Derived.Test.YtmjmfollimaleaaFilt1
set_option linter.unusedVariables false
set_option linter.unusedSimpArgs false
set_option maxHeartbeats 4000000
namespace Go.Proofs.Ytmjmfollimaleaa.VL
open Go.RowKit Go.Proofs Go.Sort

/-- A member. -/
structure Mem where
  lk : Int
  g : Int
  only : Bool
  src : Option (List Int)
def avM (m : Mem) : AV := .agg [.lit (.int .i64 m.lk), .lit (.int .u32 m.g), .lit (.bool m.only), asV m.src]
def Mem.s (m : Mem) : List Int := asL m.src
/-- Does a member listen to a source? -/
def admits (m : Mem) (a : Int) : Bool := has m.s a == m.only

theorem C_Admits (m : Mem) (a : Int) (hl : m.s.length < 9223372036854775808) : AC Try.prog f_filt_Admits [avM m, aI a] (.lit (.bool (admits m a))) := by
  obtain ⟨t, e, es, ht, hg, he, htt⟩ := asV_cases m.src
  have hf : frB t = false := by rcases htt with rfl | ⟨rfl, _⟩ <;> rfl
  refine ac_filt_Admits ?_ (Nat.le_add_left 2 _)
  simp only [go_sem, Nat.reduceAdd, Nat.reduceLT, Nat.reduceEqDiff, Nat.reduceBEq, Nat.reduceLeDiff, Nat.reduceSub, Int.reduceToNat, reduceCtorEq, ↓reduceIte, c_filt_Admits, avM, es, ht]
  refine callX_of (C_Contains t e (asL m.src) a ht hf he hl) ?_
  simp only [go_sem, Nat.reduceAdd, Nat.reduceLT, Nat.reduceEqDiff, Nat.reduceBEq, Nat.reduceLeDiff, Nat.reduceSub, Int.reduceToNat, reduceCtorEq, ↓reduceIte]
  rfl

theorem C_Of1 (m : Mem) (a : Int) (hl : m.s.length < 9223372036854775808) : AC Try.prog f_filt_Of_1 [avM m, .bp [aI a]] (.lit (.bool (admits m a))) := by
  obtain ⟨t, e, es, ht, hg, he, htt⟩ := asV_cases m.src
  refine ac_filt_Of_1 ?_ (Nat.le_add_left 2 _)
  simp only [go_sem, Nat.reduceAdd, Nat.reduceLT, Nat.reduceEqDiff, Nat.reduceBEq, Nat.reduceLeDiff, Nat.reduceSub, Int.reduceToNat, reduceCtorEq, ↓reduceIte, c_filt_Of_1, avM, es, ht]
  have hC := C_Admits m a hl
  simp only [avM, es] at hC
  refine callX_of hC ?_
  simp only [go_sem, Nat.reduceAdd, Nat.reduceLT, Nat.reduceEqDiff, Nat.reduceBEq, Nat.reduceLeDiff, Nat.reduceSub, Int.reduceToNat, reduceCtorEq, ↓reduceIte]

theorem avM_row (m : Mem) : avRow 4 4 .none (some (avM m)) = some (.rp [.lit (.int .i64 m.lk), .lit (.int .u32 m.g), .lit (.bool m.only), asV m.src]) := by
  rw [avRow_some _ _ _ rfl]
  cases h : m.src <;> simp only [avM, h, asV] <;> rfl

theorem C_IndexFuncM {f : FuncId} {fst caps : List AV} {asf : Mem → List AV} {p : Mem → Bool} (l : List Mem) (hl : l.length < 9223372036854775808)
    (hlow : ∀ n, mapO (lower (getC []) 8) (fst ++ [avM n] ++ caps) = some (asf n)) (hAC : ∀ n ∈ l, AC Try.prog f (asf n) (.lit (.bool (p n)))) :
    AC Try.prog f_slices_IndexFunc_api_Member_api_Member [.sl .none 4 (l.map avM), .clo (.func f) fst caps] (.lit (.int .i64 (idxOf p l))) := by
  refine ac_slices_IndexFunc_api_Member_api_Member ?_ (Nat.le_add_left 2 17)
  simp only [go_sem, Nat.reduceAdd, Nat.reduceLT, Nat.reduceEqDiff, Nat.reduceBEq, Nat.reduceLeDiff, Nat.reduceSub, Int.reduceToNat, reduceCtorEq, ↓reduceIte, c_slices_IndexFunc_api_Member_api_Member]
  refine aw_loop (fun m E => ∃ k, k + m = l.length ∧ (∀ (j : Nat) (y : Mem), j < k → l[j]? = some y → p y = false) ∧ E = mkE [(0, .sl .none 4 (l.map avM)), (1, .clo (.func f) fst caps), (7, .lit (.int .i64 l.length)), (8, .lit (.int .i64 (k : Nat)))] []) l.length ?_ ?_
  · exact ⟨0, by omega, fun j y hj => absurd hj (Nat.not_lt_zero j), by simp only [go_sem, Nat.reduceAdd, Nat.reduceLT, Nat.reduceEqDiff, Nat.reduceBEq, Nat.reduceLeDiff, Nat.reduceSub, Int.reduceToNat, reduceCtorEq, ↓reduceIte, Int.ofNat_zero]⟩
  · rintro m _ ⟨k, hk, hall, rfl⟩
    simp only [go_sem, Nat.reduceAdd, Nat.reduceLT, Nat.reduceEqDiff, Nat.reduceBEq, Nat.reduceLeDiff, Nat.reduceSub, Int.reduceToNat, reduceCtorEq, ↓reduceIte]
    refine condX_of (fun h => ?_) (fun h => ?_)
    · have hkl : k < l.length := by simpa using h
      obtain ⟨x, hx⟩ : ∃ x, l[k]? = some x := ⟨l[k], List.getElem?_eq_getElem hkl⟩
      have hw := wrap_succ k (by omega)
      have hlx := hlow x
      simp only [avM] at hlx
      simp only [go_sem, Nat.reduceAdd, Nat.reduceLT, Nat.reduceEqDiff, Nat.reduceBEq, Nat.reduceLeDiff, Nat.reduceSub, Int.reduceToNat, reduceCtorEq, ↓reduceIte, h, hx, Int.toNat_natCast, Int.natCast_nonneg, avM_row, List.getElem?_map, hlx]
      refine callX_of (hAC x (List.mem_of_getElem? hx)) ?_
      cases hp : p x
      · simp only [go_sem, Nat.reduceAdd, Nat.reduceLT, Nat.reduceEqDiff, Nat.reduceBEq, Nat.reduceLeDiff, Nat.reduceSub, Int.reduceToNat, reduceCtorEq, ↓reduceIte, hw]
        refine ⟨m - 1, by omega, k + 1, by omega, fun j y hj hy => ?_, rfl⟩
        by_cases hjk : j = k
        · subst hjk
          rw [hx] at hy
          injection hy with hy
          rw [← hy]
          exact hp
        · exact hall j y (by omega) hy
      · simp only [go_sem, Nat.reduceAdd, Nat.reduceLT, Nat.reduceEqDiff, Nat.reduceBEq, Nat.reduceLeDiff, Nat.reduceSub, Int.reduceToNat, reduceCtorEq, ↓reduceIte, idxOf_some hx hp hall]
    · have hkl : k = l.length := by have : ¬ k < l.length := by simpa using h
                                    omega
      have e : idxOf p l = -1 := idxOf_none fun i x hi => hall i x (by have := (List.getElem?_eq_some_iff.1 hi).1; omega) hi
      simp only [go_sem, Nat.reduceAdd, Nat.reduceLT, Nat.reduceEqDiff, Nat.reduceBEq, Nat.reduceLeDiff, Nat.reduceSub, Int.reduceToNat, reduceCtorEq, ↓reduceIte, h, e]

theorem asV_row (s : Option (List Int)) : (asV s).row = true := by cases s <;> rfl
theorem asV_low (s : Option (List Int)) (C : Nat → Option (List AV)) (n : Nat) : lowerM [] C (n + 1) (asV s) = some (asV s) := by cases s <;> rfl

/-- All that members list. -/
def allOf (l : List Mem) : List Int := l.flatMap Mem.s

theorem C_ContainsAdm (l : List Mem) (a : Int) (hl : ∀ m ∈ l, m.s.length < 9223372036854775808) (hn : l.length < 9223372036854775808) :
    AC Try.prog f_slices_ContainsFunc_api_Member_api_Member [.sl .none 4 (l.map avM), .clo (.func f_filt_Of_1) [] [.bp [aI a]]] (.lit (.bool (l.any fun m => admits m a))) := by
  refine ac_slices_ContainsFunc_api_Member_api_Member ?_ (Nat.le_add_left 2 _)
  simp only [go_sem, Nat.reduceAdd, Nat.reduceLT, Nat.reduceEqDiff, Nat.reduceBEq, Nat.reduceLeDiff, Nat.reduceSub, Int.reduceToNat, reduceCtorEq, ↓reduceIte, c_slices_ContainsFunc_api_Member_api_Member]
  refine callX_of (C_IndexFuncM (asf := fun m => [avM m, .bp [aI a]]) (p := fun m => admits m a) l hn (fun m => ?_) (fun m hm => C_Of1 m a (hl m hm))) ?_
  · simp only [go_sem, Nat.reduceAdd, Nat.reduceLT, Nat.reduceEqDiff, Nat.reduceBEq, Nat.reduceLeDiff, Nat.reduceSub, Int.reduceToNat, reduceCtorEq, ↓reduceIte, avM, lower, asV_low]
  · simp only [go_sem, Nat.reduceAdd, Nat.reduceLT, Nat.reduceEqDiff, Nat.reduceBEq, Nat.reduceLeDiff, Nat.reduceSub, Int.reduceToNat, reduceCtorEq, ↓reduceIte, any_idx]

end Go.Proofs.Ytmjmfollimaleaa.VL
