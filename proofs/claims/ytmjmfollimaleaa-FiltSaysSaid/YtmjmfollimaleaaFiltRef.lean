/- filt, the document's own answers: contracts of rivuletref, rivuletref8. -/
import Derived.Test.YtmjmfollimaleaaFiltLaw
set_option linter.unusedVariables false
set_option linter.unusedSimpArgs false
set_option maxHeartbeats 4000000
namespace Go.Proofs.Ytmjmfollimaleaa.VL
open Go.RowKit Go.Proofs Go.Sort

/-- A contract over arguments that may be told otherwise. -/
theorem AC_args {P : Program} {f : FuncId} {xs xs' : List AV} {r : AV} (h : AC P f xs r) (hx : ∀ E vs, RepL E xs' vs → RepL E xs vs) : AC P f xs' r :=
  ⟨h.res, h.enters, fun R cargs hR hh hg ha => h.calls R cargs hR hh hg (hx _ _ ha)⟩

theorem beq_sym (a x : Int) : (a == x) = (x == a) := by
  apply Bool.eq_iff_iff.2
  rw [beq_iff_eq, beq_iff_eq]
  exact ⟨fun h => h.symm, fun h => h.symm⟩

theorem C_Has (t : Tok) (e : Nat) (l : List Int) (a : Int) (hf : frB t = false) (he : e = 1 ∨ l = []) (hl : l.length < 9223372036854775808) : AC Try.prog f_rivuletref_Has [.sl t e (l.map aI), aI a] (.lit (.bool (has l a))) := by
  refine ac_rivuletref_Has ?_ (Nat.le_add_left 2 _)
  simp only [go_sem, Nat.reduceAdd, Nat.reduceLT, Nat.reduceEqDiff, Nat.reduceBEq, Nat.reduceLeDiff, Nat.reduceSub, Int.reduceToNat, reduceCtorEq, ↓reduceIte, c_rivuletref_Has]
  refine aw_loop (fun m E => ∃ k, k + m = l.length ∧ (∀ (j : Nat) (y : Int), j < k → l[j]? = some y → (a == y) = false) ∧ E = mkE [(0, .sl t e (l.map aI)), (1, aI a), (5, .lit (.int .i64 (k : Nat)))] []) l.length ?_ ?_
  · exact ⟨0, by omega, fun j y hj => absurd hj (Nat.not_lt_zero j), by simp only [go_sem, Nat.reduceAdd, Nat.reduceLT, Nat.reduceEqDiff, Nat.reduceBEq, Nat.reduceLeDiff, Nat.reduceSub, Int.reduceToNat, reduceCtorEq, ↓reduceIte, Int.ofNat_zero]⟩
  · rintro m _ ⟨k, hk, hall, rfl⟩
    simp only [go_sem, Nat.reduceAdd, Nat.reduceLT, Nat.reduceEqDiff, Nat.reduceBEq, Nat.reduceLeDiff, Nat.reduceSub, Int.reduceToNat, reduceCtorEq, ↓reduceIte]
    refine condX_of (fun h => ?_) (fun h => ?_)
    · have hkl : k < l.length := by simpa using h
      obtain rfl : e = 1 := he.resolve_right (fun h => by rw [h] at hkl; simp at hkl)
      obtain ⟨x, hx⟩ : ∃ x, l[k]? = some x := ⟨l[k], List.getElem?_eq_getElem hkl⟩
      have hw := wrap_succ k (by omega)
      simp only [go_sem, Nat.reduceAdd, Nat.reduceLT, Nat.reduceEqDiff, Nat.reduceBEq, Nat.reduceLeDiff, Nat.reduceSub, Int.reduceToNat, reduceCtorEq, ↓reduceIte, h, hx, Int.toNat_natCast, Int.natCast_nonneg, List.getElem?_map, avRow_some, hf]
      refine condX_of (fun hp => ?_) (fun hp => ?_)
      · have e : has l a = true := has_iff.2 (by have : x = a := by simpa using hp
                                                 rw [← this]; exact List.mem_of_getElem? hx)
        simp only [go_sem, Nat.reduceAdd, Nat.reduceLT, Nat.reduceEqDiff, Nat.reduceBEq, Nat.reduceLeDiff, Nat.reduceSub, Int.reduceToNat, reduceCtorEq, ↓reduceIte, e]
      · simp only [go_sem, Nat.reduceAdd, Nat.reduceLT, Nat.reduceEqDiff, Nat.reduceBEq, Nat.reduceLeDiff, Nat.reduceSub, Int.reduceToNat, reduceCtorEq, ↓reduceIte, hw]
        refine ⟨m - 1, by omega, k + 1, by omega, fun j y hj hy => ?_, rfl⟩
        by_cases hjk : j = k
        · subst hjk
          rw [hx] at hy
          injection hy with hy
          rw [← hy, beq_sym]
          exact hp
        · exact hall j y (by omega) hy
    · have hkl : k = l.length := by have : ¬ k < l.length := by simpa using h
                                    omega
      have e : has l a = false := by
        rw [has, List.any_eq_false]
        intro x hx
        obtain ⟨i, hi⟩ := List.getElem?_of_mem hx
        simp [hall i x (by have := (List.getElem?_eq_some_iff.1 hi).1; omega) hi]
      simp only [go_sem, Nat.reduceAdd, Nat.reduceLT, Nat.reduceEqDiff, Nat.reduceBEq, Nat.reduceLeDiff, Nat.reduceSub, Int.reduceToNat, reduceCtorEq, ↓reduceIte, h, e]

theorem C_Admits8 (m : Mem) (a : Int) (hl : m.s.length < 9223372036854775808) : AC Try.prog f_rivuletref8_Admits [avM m, aI a] (.lit (.bool (admits m a))) := by
  obtain ⟨t, e, es, ht, hg, he, htt⟩ := asV_cases m.src
  have hf : frB t = false := by rcases htt with rfl | ⟨rfl, _⟩ <;> rfl
  refine ac_rivuletref8_Admits ?_ (Nat.le_add_left 2 _)
  simp only [go_sem, Nat.reduceAdd, Nat.reduceLT, Nat.reduceEqDiff, Nat.reduceBEq, Nat.reduceLeDiff, Nat.reduceSub, Int.reduceToNat, reduceCtorEq, ↓reduceIte, c_rivuletref8_Admits, avM, es, ht]
  refine callX_of (C_Has t e (asL m.src) a hf he hl) ?_
  simp only [go_sem, Nat.reduceAdd, Nat.reduceLT, Nat.reduceEqDiff, Nat.reduceBEq, Nat.reduceLeDiff, Nat.reduceSub, Int.reduceToNat, reduceCtorEq, ↓reduceIte]
  rfl

theorem C_kept (l : List Mem) (a : Int) (hm : ∀ m ∈ l, m.s.length < 9223372036854775808) (hl : l.length < 9223372036854775808) : AC Try.prog f_rivuletref8_kept [.sl .none 4 (l.map avM), aI a] (.lit (.bool (!(l.any fun m => admits m a)))) := by
  refine ac_rivuletref8_kept ?_ (Nat.le_add_left 2 _)
  simp only [go_sem, Nat.reduceAdd, Nat.reduceLT, Nat.reduceEqDiff, Nat.reduceBEq, Nat.reduceLeDiff, Nat.reduceSub, Int.reduceToNat, reduceCtorEq, ↓reduceIte, c_rivuletref8_kept]
  refine aw_loop (fun m E => ∃ k, k + m = l.length ∧ (∀ (j : Nat) (y : Mem), j < k → l[j]? = some y → admits y a = false) ∧ E = mkE [(0, .sl .none 4 (l.map avM)), (1, aI a), (5, .lit (.int .i64 (k : Nat)))] []) l.length ?_ ?_
  · exact ⟨0, by omega, fun j y hj => absurd hj (Nat.not_lt_zero j), by simp only [go_sem, Nat.reduceAdd, Nat.reduceLT, Nat.reduceEqDiff, Nat.reduceBEq, Nat.reduceLeDiff, Nat.reduceSub, Int.reduceToNat, reduceCtorEq, ↓reduceIte, Int.ofNat_zero]⟩
  · rintro m _ ⟨k, hk, hall, rfl⟩
    simp only [go_sem, Nat.reduceAdd, Nat.reduceLT, Nat.reduceEqDiff, Nat.reduceBEq, Nat.reduceLeDiff, Nat.reduceSub, Int.reduceToNat, reduceCtorEq, ↓reduceIte]
    refine condX_of (fun h => ?_) (fun h => ?_)
    · have hkl : k < l.length := by simpa using h
      obtain ⟨x, hx⟩ : ∃ x, l[k]? = some x := ⟨l[k], List.getElem?_eq_getElem hkl⟩
      have hw := wrap_succ k (by omega)
      have hxm := List.mem_of_getElem? hx
      obtain ⟨t, e, es, ht, hg, he, htt⟩ := asV_cases x.src
      have hf : frB t = false := by rcases htt with rfl | ⟨rfl, _⟩ <;> rfl
      simp only [go_sem, Nat.reduceAdd, Nat.reduceLT, Nat.reduceEqDiff, Nat.reduceBEq, Nat.reduceLeDiff, Nat.reduceSub, Int.reduceToNat, reduceCtorEq, ↓reduceIte, h, hx, Int.toNat_natCast, Int.natCast_nonneg, List.getElem?_map, avM_row, es, ht]
      refine callX_of (C_Has t e (asL x.src) a hf he (hm x hxm)) ?_
      have hp : (has (asL x.src) a == x.only) = admits x a := rfl
      simp only [go_sem, Nat.reduceAdd, Nat.reduceLT, Nat.reduceEqDiff, Nat.reduceBEq, Nat.reduceLeDiff, Nat.reduceSub, Int.reduceToNat, reduceCtorEq, ↓reduceIte, hp, h, hx, Int.toNat_natCast, Int.natCast_nonneg, List.getElem?_map, avM_row, es]
      cases hpa : admits x a
      · simp only [go_sem, Nat.reduceAdd, Nat.reduceLT, Nat.reduceEqDiff, Nat.reduceBEq, Nat.reduceLeDiff, Nat.reduceSub, Int.reduceToNat, reduceCtorEq, ↓reduceIte, hw]
        refine ⟨m - 1, by omega, k + 1, by omega, fun j y hj hy => ?_, rfl⟩
        by_cases hjk : j = k
        · subst hjk
          rw [hx] at hy
          injection hy with hy
          rw [← hy]
          exact hpa
        · exact hall j y (by omega) hy
      · have e : (l.any fun m => admits m a) = true := List.any_eq_true.2 ⟨x, hxm, hpa⟩
        simp only [go_sem, Nat.reduceAdd, Nat.reduceLT, Nat.reduceEqDiff, Nat.reduceBEq, Nat.reduceLeDiff, Nat.reduceSub, Int.reduceToNat, reduceCtorEq, ↓reduceIte, e]
    · have hkl : k = l.length := by have : ¬ k < l.length := by simpa using h
                                    omega
      have e : (l.any fun m => admits m a) = false := by
        rw [List.any_eq_false]
        intro x hx
        obtain ⟨i, hi⟩ := List.getElem?_of_mem hx
        simp [hall i x (by have := (List.getElem?_eq_some_iff.1 hi).1; omega) hi]
      simp only [go_sem, Nat.reduceAdd, Nat.reduceLT, Nat.reduceEqDiff, Nat.reduceBEq, Nat.reduceLeDiff, Nat.reduceSub, Int.reduceToNat, reduceCtorEq, ↓reduceIte, h, e]

theorem C_SameAddrs (t t' : Tok) (e e' : Nat) (l l' : List Int) (hf : frB t = false) (hf' : frB t' = false) (he : e = 1 ∨ l = []) (he' : e' = 1 ∨ l' = []) (hl : l.length < 9223372036854775808) : AC Try.prog f_rivuletref_SameAddrs [.sl t e (l.map aI), .sl t' e' (l'.map aI)] (.lit (.bool (decide (l = l')))) := by
  refine ac_rivuletref_SameAddrs ?_ (Nat.le_add_left 2 _)
  simp only [go_sem, Nat.reduceAdd, Nat.reduceLT, Nat.reduceEqDiff, Nat.reduceBEq, Nat.reduceLeDiff, Nat.reduceSub, Int.reduceToNat, reduceCtorEq, ↓reduceIte, c_rivuletref_SameAddrs]
  refine condX_of (fun h => ?_) (fun h => ?_)
  · have hne : l ≠ l' := by
      rintro rfl
      simp at h
    simp only [go_sem, Nat.reduceAdd, Nat.reduceLT, Nat.reduceEqDiff, Nat.reduceBEq, Nat.reduceLeDiff, Nat.reduceSub, Int.reduceToNat, reduceCtorEq, ↓reduceIte, decide_eq_false hne]
  · have hlen : l.length = l'.length := by
      have : (l.length : Int) = (l'.length : Int) := by simpa using h
      omega
    simp only [go_sem, Nat.reduceAdd, Nat.reduceLT, Nat.reduceEqDiff, Nat.reduceBEq, Nat.reduceLeDiff, Nat.reduceSub, Int.reduceToNat, reduceCtorEq, ↓reduceIte]
    refine aw_loop (fun m E => ∃ k, k + m = l.length ∧ (∀ (j : Nat), j < k → l[j]? = l'[j]?) ∧ E = mkE [(0, .sl t e (l.map aI)), (1, .sl t' e' (l'.map aI)), (5, .lit (.int .i64 (k : Nat)))] []) l.length ?_ ?_
    · exact ⟨0, by omega, fun j hj => absurd hj (Nat.not_lt_zero j), by simp only [go_sem, Nat.reduceAdd, Nat.reduceLT, Nat.reduceEqDiff, Nat.reduceBEq, Nat.reduceLeDiff, Nat.reduceSub, Int.reduceToNat, reduceCtorEq, ↓reduceIte, Int.ofNat_zero]⟩
    · rintro m _ ⟨k, hk, hall, rfl⟩
      simp only [go_sem, Nat.reduceAdd, Nat.reduceLT, Nat.reduceEqDiff, Nat.reduceBEq, Nat.reduceLeDiff, Nat.reduceSub, Int.reduceToNat, reduceCtorEq, ↓reduceIte]
      refine condX_of (fun h => ?_) (fun h => ?_)
      · have hkl : k < l.length := by simpa using h
        have hkl' : k < l'.length := by omega
        obtain rfl : e = 1 := he.resolve_right (fun h => by rw [h] at hkl; simp at hkl)
        obtain rfl : e' = 1 := he'.resolve_right (fun h => by rw [h] at hkl'; simp at hkl')
        have hx : l[k]? = some l[k] := List.getElem?_eq_getElem hkl
        have hx' : l'[k]? = some l'[k] := List.getElem?_eq_getElem hkl'
        have hw := wrap_succ k (by omega)
        have h' : decide ((k : Int) < (l'.length : Int)) = true := by simp; omega
        simp only [go_sem, Nat.reduceAdd, Nat.reduceLT, Nat.reduceEqDiff, Nat.reduceBEq, Nat.reduceLeDiff, Nat.reduceSub, Int.reduceToNat, reduceCtorEq, ↓reduceIte, h, h', of_decide_eq_true h, of_decide_eq_true h', hx, hx', Int.toNat_natCast, Int.natCast_nonneg, List.getElem?_map, avRow_some, hf, hf']
        cases hp : (l[k] == l'[k]) with
        | false =>
          have hne : l ≠ l' := by
            rintro rfl
            simp at hp
          simp only [go_sem, Nat.reduceAdd, Nat.reduceLT, Nat.reduceEqDiff, Nat.reduceBEq, Nat.reduceLeDiff, Nat.reduceSub, Int.reduceToNat, reduceCtorEq, ↓reduceIte, decide_eq_false hne]
        | true =>
          simp only [go_sem, Nat.reduceAdd, Nat.reduceLT, Nat.reduceEqDiff, Nat.reduceBEq, Nat.reduceLeDiff, Nat.reduceSub, Int.reduceToNat, reduceCtorEq, ↓reduceIte, hw]
          refine ⟨m - 1, by omega, k + 1, by omega, fun j hj => ?_, rfl⟩
          by_cases hjk : j = k
          · subst hjk
            have : l[j] = l'[j] := by simpa using hp
            rw [hx, hx', this]
          · exact hall j (by omega)
      · have hkl : k = l.length := by have : ¬ k < l.length := by simpa using h
                                      omega
        have e : l = l' := by
          apply List.ext_getElem?
          intro i
          by_cases hi : i < k
          · exact hall i hi
          · rw [List.getElem?_eq_none (by omega), List.getElem?_eq_none (by omega)]
        simp only [go_sem, Nat.reduceAdd, Nat.reduceLT, Nat.reduceEqDiff, Nat.reduceBEq, Nat.reduceLeDiff, Nat.reduceSub, Int.reduceToNat, reduceCtorEq, ↓reduceIte, h, decide_eq_true e]

end Go.Proofs.Ytmjmfollimaleaa.VL
