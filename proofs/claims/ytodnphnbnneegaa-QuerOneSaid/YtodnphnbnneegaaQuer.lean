/- quer: contracts. -/
import Derived.Test.YtodnphnbnneegaaSeat
set_option linter.unusedVariables false
set_option linter.unusedSimpArgs false
set_option maxHeartbeats 4000000
namespace Go.Proofs.Ytodnphnbnneegaa.VL
open Go.RowKit Go.Proofs

def avI (n : Int) : AV := .lit (.int .u32 n)

theorem avMm_min (k : IntKind) (a b : Int) : avMm false [.lit (.int k a), .lit (.int k b)] = some (.lit (.int k (if b < a then b else a))) := by
  simp [avMm, aval.litOf, Builtin.min_, Builtin.min2, p0, Pure.pure, Bind.bind, Sem.bind]

/-- The place of the first that is so; -1: none. -/
def idxOf {α : Type} (p : α → Bool) (l : List α) : Int := match l.findIdx? p with
  | some i => (i : Nat)
  | none => -1

theorem idxOf_none {α : Type} {p : α → Bool} {l : List α} (h : ∀ (i : Nat) (x : α), l[i]? = some x → p x = false) : idxOf p l = -1 := by
  have : l.findIdx? p = none := by
    rw [List.findIdx?_eq_none_iff]
    intro x hx
    obtain ⟨i, hi, e⟩ := List.mem_iff_getElem.1 hx
    exact h i x (by rw [List.getElem?_eq_getElem hi, e])
  rw [idxOf, this]

theorem idxOf_some {α : Type} {p : α → Bool} {l : List α} {i : Nat} {x : α} (hx : l[i]? = some x) (hp : p x = true) (h : ∀ (j : Nat) (y : α), j < i → l[j]? = some y → p y = false) : idxOf p l = (i : Nat) := by
  have : l.findIdx? p = some i := by
    rw [List.findIdx?_eq_some_iff_getElem]
    obtain ⟨hi, e⟩ := List.getElem?_eq_some_iff.1 hx
    refine ⟨hi, by rw [e]; exact hp, fun j hj => ?_⟩
    rw [h j l[j] hj (List.getElem?_eq_getElem (by omega))]
    simp
  rw [idxOf, this]

theorem any_idx {α : Type} (p : α → Bool) (l : List α) : decide (0 ≤ idxOf p l) = l.any p := by
  cases h : l.findIdx? p with
  | none =>
    have e : idxOf p l = -1 := by rw [idxOf, h]
    rw [e]
    rw [List.findIdx?_eq_none_iff] at h
    have : l.any p = false := by
      rw [List.any_eq_false]
      intro x hx
      simp [h x hx]
    rw [this]
    rfl
  | some i =>
    have e : idxOf p l = (i : Nat) := by rw [idxOf, h]
    rw [e]
    rw [List.findIdx?_eq_some_iff_getElem] at h
    obtain ⟨hi, hp, _⟩ := h
    have : l.any p = true := List.any_eq_true.2 ⟨l[i], List.getElem_mem hi, hp⟩
    rw [this]
    simp

/-- slices.IndexFunc over addresses. -/
theorem C_IndexFuncA {f : FuncId} {fst caps : List AV} {asf : Int → List AV} {p : Int → Bool} (t : Tok) (l : List Int) (hl : l.length < 9223372036854775808)
    (hlow : ∀ n, mapO (lower (getC []) 8) (fst ++ [.lit (.int .u32 n)] ++ caps) = some (asf n)) (hAC : ∀ n, AC Try.prog f (asf n) (.lit (.bool (p n)))) :
    AC Try.prog f_slices_IndexFunc_api_Addr_api_Addr [.sl t 1 (l.map avI), .clo (.func f) fst caps] (.lit (.int .i64 (idxOf p l))) := by
  refine ac_slices_IndexFunc_api_Addr_api_Addr ?_ (Nat.le_add_left 2 17)
  simp only [go_sem, Nat.reduceAdd, Nat.reduceLT, Nat.reduceEqDiff, Nat.reduceBEq, Nat.reduceLeDiff, Nat.reduceSub, Int.reduceToNat, reduceCtorEq, ↓reduceIte, c_slices_IndexFunc_api_Addr_api_Addr]
  refine aw_loop (fun m E => ∃ k, k + m = l.length ∧ (∀ (j : Nat) (y : Int), j < k → l[j]? = some y → p y = false) ∧ E = mkE [(0, .sl t 1 (l.map avI)), (1, .clo (.func f) fst caps), (7, .lit (.int .i64 l.length)), (8, .lit (.int .i64 (k : Nat)))] []) l.length ?_ ?_
  · exact ⟨0, by omega, fun j y hj => absurd hj (Nat.not_lt_zero j), by simp only [go_sem, Nat.reduceAdd, Nat.reduceLT, Nat.reduceEqDiff, Nat.reduceBEq, Nat.reduceLeDiff, Nat.reduceSub, Int.reduceToNat, reduceCtorEq, ↓reduceIte, Int.ofNat_zero]⟩
  · rintro m _ ⟨k, hk, hall, rfl⟩
    simp only [go_sem, Nat.reduceAdd, Nat.reduceLT, Nat.reduceEqDiff, Nat.reduceBEq, Nat.reduceLeDiff, Nat.reduceSub, Int.reduceToNat, reduceCtorEq, ↓reduceIte]
    refine condX_of (fun h => ?_) (fun h => ?_)
    · have hkl : k < l.length := by simpa using h
      obtain ⟨x, hx⟩ : ∃ x, l[k]? = some x := ⟨l[k], List.getElem?_eq_getElem hkl⟩
      have hw := wrap_succ k (by omega)
      simp only [go_sem, Nat.reduceAdd, Nat.reduceLT, Nat.reduceEqDiff, Nat.reduceBEq, Nat.reduceLeDiff, Nat.reduceSub, Int.reduceToNat, reduceCtorEq, ↓reduceIte, h, hx, Int.toNat_natCast, Int.natCast_nonneg, avI, List.getElem?_map, hlow]
      refine callX_of (hAC x) ?_
      cases hp : p x
      · simp only [go_sem, Nat.reduceAdd, Nat.reduceLT, Nat.reduceEqDiff, Nat.reduceBEq, Nat.reduceLeDiff, Nat.reduceSub, Int.reduceToNat, reduceCtorEq, ↓reduceIte, hw]
        refine ⟨m - 1, by omega, k + 1, by omega, fun j y hj hy => ?_, rfl⟩
        by_cases hjk : j = k
        · subst hjk
          rw [hx] at hy
          injection hy with hy
          rw [← hy]
          exact hp
        · exact hall j y (by omega) hy
      · simp only [go_sem, Nat.reduceAdd, Nat.reduceLT, Nat.reduceEqDiff, Nat.reduceBEq, Nat.reduceLeDiff, Nat.reduceSub, Int.reduceToNat, reduceCtorEq, ↓reduceIte, idxOf_some hx hp hall]
    · have hkl : k = l.length := by have : ¬ k < l.length := by simpa using h
                                    omega
      have e : idxOf p l = -1 := idxOf_none fun i x hi => hall i x (by have := (List.getElem?_eq_some_iff.1 hi).1; omega) hi
      simp only [go_sem, Nat.reduceAdd, Nat.reduceLT, Nat.reduceEqDiff, Nat.reduceBEq, Nat.reduceLeDiff, Nat.reduceSub, Int.reduceToNat, reduceCtorEq, ↓reduceIte, h, e]

/-- slices.ContainsFunc over addresses. -/
theorem C_ContainsFuncA {f : FuncId} {fst caps : List AV} {asf : Int → List AV} {p : Int → Bool} (t : Tok) (l : List Int) (hl : l.length < 9223372036854775808)
    (ht : lowTok t = t) (hfst : mapO (lower (getC []) 7) fst = some fst) (hcaps : mapO (lower (getC []) 7) caps = some caps)
    (hlow : ∀ n, mapO (lower (getC []) 8) (fst ++ [.lit (.int .u32 n)] ++ caps) = some (asf n)) (hAC : ∀ n, AC Try.prog f (asf n) (.lit (.bool (p n)))) :
    AC Try.prog f_slices_ContainsFunc_api_Addr_api_Addr [.sl t 1 (l.map avI), .clo (.func f) fst caps] (.lit (.bool (l.any p))) := by
  refine ac_slices_ContainsFunc_api_Addr_api_Addr ?_ (Nat.le_add_left 2 7)
  simp only [go_sem, Nat.reduceAdd, Nat.reduceLT, Nat.reduceEqDiff, Nat.reduceBEq, Nat.reduceLeDiff, Nat.reduceSub, Int.reduceToNat, reduceCtorEq, ↓reduceIte, c_slices_ContainsFunc_api_Addr_api_Addr, ht, hfst, hcaps]
  refine callX_of (C_IndexFuncA t l hl hlow hAC) ?_
  simp only [go_sem, Nat.reduceAdd, Nat.reduceLT, Nat.reduceEqDiff, Nat.reduceBEq, Nat.reduceLeDiff, Nat.reduceSub, Int.reduceToNat, reduceCtorEq, ↓reduceIte, any_idx]

/-! ### quer.Step -/
theorem C_Step1 (x own : Int) : AC Try.prog f_quer_Step_1 [.lit (.int .u32 x), .bp [.lit (.int .u32 own)]] (.lit (.bool (decide (x < own)))) := by
  refine ac_quer_Step_1 ?_ (Nat.le_add_left 2 5)
  simp only [go_sem, Nat.reduceAdd, Nat.reduceLT, Nat.reduceEqDiff, Nat.reduceBEq, Nat.reduceLeDiff, Nat.reduceSub, Int.reduceToNat, reduceCtorEq, ↓reduceIte, c_quer_Step_1]

def avT (u : Int × Int) : AV := .agg [.lit (.int .i64 u.1), .lit (.int .i64 u.2)]

def stepQ (u : Int × Int) (own : Int) (l : List Int) : Int × Int :=
  if l.any (fun a => decide (a < own)) then (0, 3) else if 1 < u.2 then (0, IntKind.i64.wrap (u.2 - 1)) else (1, 0)

theorem C_Step (u : Int × Int) (own : Int) (t : Tok) (l : List Int) (hl : l.length < 9223372036854775808) (ht : lowTok t = t) : AC Try.prog f_quer_Step [avT u, avI own, .sl t 1 (l.map avI)] (avT (stepQ u own l)) := by
  refine ac_quer_Step ?_ (Nat.le_add_left 3 16)
  simp only [go_sem, Nat.reduceAdd, Nat.reduceLT, Nat.reduceEqDiff, Nat.reduceBEq, Nat.reduceLeDiff, Nat.reduceSub, Int.reduceToNat, reduceCtorEq, ↓reduceIte, c_quer_Step, avT, avI, ht]
  refine callX_of (C_ContainsFuncA (p := fun a => decide (a < own)) (asf := fun n => [.lit (.int .u32 n), .bp [.lit (.int .u32 own)]]) t l hl ht ?_ ?_ ?_ ?_) ?_
  · simp only [go_sem, Nat.reduceAdd, Nat.reduceLT, Nat.reduceEqDiff, Nat.reduceBEq, Nat.reduceLeDiff, Nat.reduceSub, Int.reduceToNat, reduceCtorEq, ↓reduceIte]
  · simp only [go_sem, Nat.reduceAdd, Nat.reduceLT, Nat.reduceEqDiff, Nat.reduceBEq, Nat.reduceLeDiff, Nat.reduceSub, Int.reduceToNat, reduceCtorEq, ↓reduceIte]
  · intro n
    simp only [go_sem, Nat.reduceAdd, Nat.reduceLT, Nat.reduceEqDiff, Nat.reduceBEq, Nat.reduceLeDiff, Nat.reduceSub, Int.reduceToNat, reduceCtorEq, ↓reduceIte]
  · exact fun n => C_Step1 n own
  cases ha : l.any (fun a => decide (a < own))
  · simp only [go_sem, Nat.reduceAdd, Nat.reduceLT, Nat.reduceEqDiff, Nat.reduceBEq, Nat.reduceLeDiff, Nat.reduceSub, Int.reduceToNat, reduceCtorEq, ↓reduceIte]
    refine condX_of (fun h => ?_) (fun h => ?_)
    · simp only [go_sem, Nat.reduceAdd, Nat.reduceLT, Nat.reduceEqDiff, Nat.reduceBEq, Nat.reduceLeDiff, Nat.reduceSub, Int.reduceToNat, reduceCtorEq, ↓reduceIte, h]
      have h' : 1 < u.2 := by simpa using h
      simp [stepQ, ha, h']
    · simp only [go_sem, Nat.reduceAdd, Nat.reduceLT, Nat.reduceEqDiff, Nat.reduceBEq, Nat.reduceLeDiff, Nat.reduceSub, Int.reduceToNat, reduceCtorEq, ↓reduceIte, h]
      have h' : ¬ 1 < u.2 := by simpa using h
      simp [stepQ, ha, h']
  · simp only [go_sem, Nat.reduceAdd, Nat.reduceLT, Nat.reduceEqDiff, Nat.reduceBEq, Nat.reduceLeDiff, Nat.reduceSub, Int.reduceToNat, reduceCtorEq, ↓reduceIte]
    simp [stepQ, ha]

theorem C_first13 : AC Try.prog f_rivuletlaw13_first [] (.lit (.bool true)) := by
  refine ac_rivuletlaw13_first ?_ (Nat.zero_le 12)
  simp only [go_sem, Nat.reduceAdd, Nat.reduceLT, Nat.reduceEqDiff, Nat.reduceBEq, Nat.reduceLeDiff, Nat.reduceSub, Int.reduceToNat, reduceCtorEq, ↓reduceIte, c_rivuletlaw13_first]
  refine callX_of ((C_Step (0, 0) 5 .none [] (by decide) rfl).nil [_, _] (by simp)) ?_
  simp only [go_sem, Nat.reduceAdd, Nat.reduceLT, Nat.reduceEqDiff, Nat.reduceBEq, Nat.reduceLeDiff, Nat.reduceSub, Int.reduceToNat, reduceCtorEq, ↓reduceIte, avT, stepQ, List.any_nil, Int.reduceLT, Int.reduceBEq]

end Go.Proofs.Ytodnphnbnneegaa.VL
