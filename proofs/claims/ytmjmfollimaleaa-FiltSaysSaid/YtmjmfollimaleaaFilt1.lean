/- filt, part 1: rows of addresses, members: contracts of what is looked up. -/
import Derived.Test.YtmjmfollimaleaaSort9
import Derived.Test.YtmjmfollimaleaaWorld
set_option linter.unusedVariables false
set_option linter.unusedSimpArgs false
set_option maxHeartbeats 4000000
namespace Go.Proofs.Ytmjmfollimaleaa.VL
open Go.RowKit Go.Proofs Go.Sort

/-- The place of the first that is so; -1: none. -/
def idxOf {α : Type} (p : α → Bool) (l : List α) : Int := match l.findIdx? p with
  | some i => (i : Nat)
  | none => -1

theorem idxOf_none {α : Type} {p : α → Bool} {l : List α} (h : ∀ (i : Nat) (x : α), l[i]? = some x → p x = false) : idxOf p l = -1 := by
  have : l.findIdx? p = none := by
    rw [List.findIdx?_eq_none_iff]
    intro x hx
    obtain ⟨i, hi, e⟩ := List.mem_iff_getElem.1 hx
    exact h i x (by rw [List.getElem?_eq_getElem hi, e])
  rw [idxOf, this]

theorem idxOf_some {α : Type} {p : α → Bool} {l : List α} {i : Nat} {x : α} (hx : l[i]? = some x) (hp : p x = true) (h : ∀ (j : Nat) (y : α), j < i → l[j]? = some y → p y = false) : idxOf p l = (i : Nat) := by
  have : l.findIdx? p = some i := by
    rw [List.findIdx?_eq_some_iff_getElem]
    obtain ⟨hi, e⟩ := List.getElem?_eq_some_iff.1 hx
    refine ⟨hi, by rw [e]; exact hp, fun j hj => ?_⟩
    rw [h j l[j] hj (List.getElem?_eq_getElem (by omega))]
    simp
  rw [idxOf, this]

theorem any_idx {α : Type} (p : α → Bool) (l : List α) : decide (0 ≤ idxOf p l) = l.any p := by
  cases h : l.findIdx? p with
  | none =>
    have e : idxOf p l = -1 := by rw [idxOf, h]
    rw [e]
    rw [List.findIdx?_eq_none_iff] at h
    have : l.any p = false := by
      rw [List.any_eq_false]
      intro x hx
      simp [h x hx]
    rw [this]
    rfl
  | some i =>
    have e : idxOf p l = (i : Nat) := by rw [idxOf, h]
    rw [e]
    rw [List.findIdx?_eq_some_iff_getElem] at h
    obtain ⟨hi, hp, _⟩ := h
    have : l.any p = true := List.any_eq_true.2 ⟨l[i], List.getElem_mem hi, hp⟩
    rw [this]
    simp

/-- A row of addresses; none: it is nil. -/
def asV : Option (List Int) → AV
  | none => .sl .nil 0 []
  | some l => .sl .none 1 (l.map aI)
def asL (s : Option (List Int)) : List Int := s.getD []
/-- A row in one form. -/
theorem asV_cases (s : Option (List Int)) : ∃ t e, asV s = .sl t e ((asL s).map aI) ∧ lowTok t = t ∧ goneB t = false ∧ (e = 1 ∨ asL s = []) ∧ (t = .none ∨ t = .nil ∧ asL s = []) := by
  cases s with
  | none => exact ⟨.nil, 0, rfl, rfl, rfl, .inr rfl, .inr ⟨rfl, rfl⟩⟩
  | some l => exact ⟨.none, 1, rfl, rfl, rfl, .inl rfl, .inl rfl⟩

theorem C_Index (t : Tok) (e : Nat) (l : List Int) (v : Int) (hf : frB t = false) (he : e = 1 ∨ l = []) (hl : l.length < 9223372036854775808) : AC Try.prog f_slices_Index_api_Addr_api_Addr [.sl t e (l.map aI), aI v] (.lit (.int .i64 (idxOf (fun x => v == x) l))) := by
  refine ac_slices_Index_api_Addr_api_Addr ?_ (Nat.le_add_left 2 17)
  simp only [go_sem, Nat.reduceAdd, Nat.reduceLT, Nat.reduceEqDiff, Nat.reduceBEq, Nat.reduceLeDiff, Nat.reduceSub, Int.reduceToNat, reduceCtorEq, ↓reduceIte, c_slices_Index_api_Addr_api_Addr]
  refine aw_loop (fun m E => ∃ k, k + m = l.length ∧ (∀ (j : Nat) (y : Int), j < k → l[j]? = some y → (v == y) = false) ∧ E = mkE [(0, .sl t e (l.map aI)), (1, aI v), (7, .lit (.int .i64 l.length)), (8, .lit (.int .i64 (k : Nat)))] []) l.length ?_ ?_
  · exact ⟨0, by omega, fun j y hj => absurd hj (Nat.not_lt_zero j), by simp only [go_sem, Nat.reduceAdd, Nat.reduceLT, Nat.reduceEqDiff, Nat.reduceBEq, Nat.reduceLeDiff, Nat.reduceSub, Int.reduceToNat, reduceCtorEq, ↓reduceIte, Int.ofNat_zero]⟩
  · rintro m _ ⟨k, hk, hall, rfl⟩
    simp only [go_sem, Nat.reduceAdd, Nat.reduceLT, Nat.reduceEqDiff, Nat.reduceBEq, Nat.reduceLeDiff, Nat.reduceSub, Int.reduceToNat, reduceCtorEq, ↓reduceIte]
    refine condX_of (fun h => ?_) (fun h => ?_)
    · have hkl : k < l.length := by simpa using h
      obtain rfl : e = 1 := he.resolve_right (fun h => by rw [h] at hkl; simp at hkl)
      obtain ⟨x, hx⟩ : ∃ x, l[k]? = some x := ⟨l[k], List.getElem?_eq_getElem hkl⟩
      have hw := wrap_succ k (by omega)
      simp only [go_sem, Nat.reduceAdd, Nat.reduceLT, Nat.reduceEqDiff, Nat.reduceBEq, Nat.reduceLeDiff, Nat.reduceSub, Int.reduceToNat, reduceCtorEq, ↓reduceIte, h, hx, Int.toNat_natCast, Int.natCast_nonneg, List.getElem?_map, avRow_some, hf]
      refine condX_of (fun hp => ?_) (fun hp => ?_)
      · simp only [go_sem, Nat.reduceAdd, Nat.reduceLT, Nat.reduceEqDiff, Nat.reduceBEq, Nat.reduceLeDiff, Nat.reduceSub, Int.reduceToNat, reduceCtorEq, ↓reduceIte, idxOf_some (p := fun x => v == x) hx hp hall]
      · simp only [go_sem, Nat.reduceAdd, Nat.reduceLT, Nat.reduceEqDiff, Nat.reduceBEq, Nat.reduceLeDiff, Nat.reduceSub, Int.reduceToNat, reduceCtorEq, ↓reduceIte, hw]
        refine ⟨m - 1, by omega, k + 1, by omega, fun j y hj hy => ?_, rfl⟩
        by_cases hjk : j = k
        · subst hjk
          rw [hx] at hy
          injection hy with hy
          rw [← hy]
          exact hp
        · exact hall j y (by omega) hy
    · have hkl : k = l.length := by have : ¬ k < l.length := by simpa using h
                                    omega
      have e : idxOf (fun x => v == x) l = -1 := idxOf_none fun i x hi => hall i x (by have := (List.getElem?_eq_some_iff.1 hi).1; omega) hi
      simp only [go_sem, Nat.reduceAdd, Nat.reduceLT, Nat.reduceEqDiff, Nat.reduceBEq, Nat.reduceLeDiff, Nat.reduceSub, Int.reduceToNat, reduceCtorEq, ↓reduceIte, h, e]

def has (l : List Int) (v : Int) : Bool := l.any fun x => v == x
theorem C_Contains (t : Tok) (e : Nat) (l : List Int) (v : Int) (ht : lowTok t = t) (hf : frB t = false) (he : e = 1 ∨ l = []) (hl : l.length < 9223372036854775808) : AC Try.prog f_slices_Contains_api_Addr_api_Addr [.sl t e (l.map aI), aI v] (.lit (.bool (has l v))) := by
  refine ac_slices_Contains_api_Addr_api_Addr ?_ (Nat.le_add_left 2 _)
  simp only [go_sem, Nat.reduceAdd, Nat.reduceLT, Nat.reduceEqDiff, Nat.reduceBEq, Nat.reduceLeDiff, Nat.reduceSub, Int.reduceToNat, reduceCtorEq, ↓reduceIte, c_slices_Contains_api_Addr_api_Addr, ht]
  refine callX_of (C_Index t e l v hf he hl) ?_
  simp only [go_sem, Nat.reduceAdd, Nat.reduceLT, Nat.reduceEqDiff, Nat.reduceBEq, Nat.reduceLeDiff, Nat.reduceSub, Int.reduceToNat, reduceCtorEq, ↓reduceIte, any_idx, has]

theorem C_Equal (t t' : Tok) (e e' : Nat) (l l' : List Int) (hf : frB t = false) (hf' : frB t' = false) (he : e = 1 ∨ l = []) (he' : e' = 1 ∨ l' = []) (hl : l.length < 9223372036854775808) : AC Try.prog f_slices_Equal_api_Addr_api_Addr [.sl t e (l.map aI), .sl t' e' (l'.map aI)] (.lit (.bool (decide (l = l')))) := by
  refine ac_slices_Equal_api_Addr_api_Addr ?_ (Nat.le_add_left 2 _)
  simp only [go_sem, Nat.reduceAdd, Nat.reduceLT, Nat.reduceEqDiff, Nat.reduceBEq, Nat.reduceLeDiff, Nat.reduceSub, Int.reduceToNat, reduceCtorEq, ↓reduceIte, c_slices_Equal_api_Addr_api_Addr]
  refine condX_of (fun h => ?_) (fun h => ?_)
  · have hne : l ≠ l' := by
      rintro rfl
      simp at h
    simp only [go_sem, Nat.reduceAdd, Nat.reduceLT, Nat.reduceEqDiff, Nat.reduceBEq, Nat.reduceLeDiff, Nat.reduceSub, Int.reduceToNat, reduceCtorEq, ↓reduceIte, decide_eq_false hne]
  · have hlen : l.length = l'.length := by
      have : (l.length : Int) = (l'.length : Int) := by simpa using h
      omega
    simp only [go_sem, Nat.reduceAdd, Nat.reduceLT, Nat.reduceEqDiff, Nat.reduceBEq, Nat.reduceLeDiff, Nat.reduceSub, Int.reduceToNat, reduceCtorEq, ↓reduceIte]
    refine aw_loop (fun m E => ∃ k, k + m = l.length ∧ (∀ (j : Nat), j < k → l[j]? = l'[j]?) ∧ E = mkE [(0, .sl t e (l.map aI)), (1, .sl t' e' (l'.map aI)), (12, .lit (.int .i64 l.length)), (13, .lit (.int .i64 (k : Nat)))] []) l.length ?_ ?_
    · exact ⟨0, by omega, fun j hj => absurd hj (Nat.not_lt_zero j), by simp only [go_sem, Nat.reduceAdd, Nat.reduceLT, Nat.reduceEqDiff, Nat.reduceBEq, Nat.reduceLeDiff, Nat.reduceSub, Int.reduceToNat, reduceCtorEq, ↓reduceIte, Int.ofNat_zero]⟩
    · rintro m _ ⟨k, hk, hall, rfl⟩
      simp only [go_sem, Nat.reduceAdd, Nat.reduceLT, Nat.reduceEqDiff, Nat.reduceBEq, Nat.reduceLeDiff, Nat.reduceSub, Int.reduceToNat, reduceCtorEq, ↓reduceIte]
      refine condX_of (fun h => ?_) (fun h => ?_)
      · have hkl : k < l.length := by simpa using h
        have hkl' : k < l'.length := by omega
        obtain rfl : e = 1 := he.resolve_right (fun h => by rw [h] at hkl; simp at hkl)
        obtain rfl : e' = 1 := he'.resolve_right (fun h => by rw [h] at hkl'; simp at hkl')
        have hx : l[k]? = some l[k] := List.getElem?_eq_getElem hkl
        have hx' : l'[k]? = some l'[k] := List.getElem?_eq_getElem hkl'
        have hw := wrap_succ k (by omega)
        have h' : decide ((k : Int) < (l'.length : Int)) = true := by simp; omega
        simp only [go_sem, Nat.reduceAdd, Nat.reduceLT, Nat.reduceEqDiff, Nat.reduceBEq, Nat.reduceLeDiff, Nat.reduceSub, Int.reduceToNat, reduceCtorEq, ↓reduceIte, h, h', of_decide_eq_true h, of_decide_eq_true h', hx, hx', Int.toNat_natCast, Int.natCast_nonneg, List.getElem?_map, avRow_some, hf, hf']
        refine condX_of (fun hp => ?_) (fun hp => ?_)
        · have hne : l ≠ l' := by
            rintro rfl
            simp at hp
          simp only [go_sem, Nat.reduceAdd, Nat.reduceLT, Nat.reduceEqDiff, Nat.reduceBEq, Nat.reduceLeDiff, Nat.reduceSub, Int.reduceToNat, reduceCtorEq, ↓reduceIte, decide_eq_false hne]
        · simp only [go_sem, Nat.reduceAdd, Nat.reduceLT, Nat.reduceEqDiff, Nat.reduceBEq, Nat.reduceLeDiff, Nat.reduceSub, Int.reduceToNat, reduceCtorEq, ↓reduceIte, hw]
          refine ⟨m - 1, by omega, k + 1, by omega, fun j hj => ?_, rfl⟩
          by_cases hjk : j = k
          · subst hjk
            have : l[j] = l'[j] := by simpa using hp
            rw [hx, hx', this]
          · exact hall j (by omega)
      · have hkl : k = l.length := by have : ¬ k < l.length := by simpa using h
                                      omega
        have e : l = l' := by
          apply List.ext_getElem?
          intro i
          by_cases hi : i < k
          · exact hall i hi
          · rw [List.getElem?_eq_none (by omega), List.getElem?_eq_none (by omega)]
        simp only [go_sem, Nat.reduceAdd, Nat.reduceLT, Nat.reduceEqDiff, Nat.reduceBEq, Nat.reduceLeDiff, Nat.reduceSub, Int.reduceToNat, reduceCtorEq, ↓reduceIte, h, decide_eq_true e]

end Go.Proofs.Ytmjmfollimaleaa.VL
