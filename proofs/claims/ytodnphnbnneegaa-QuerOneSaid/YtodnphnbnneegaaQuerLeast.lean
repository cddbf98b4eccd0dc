/- rivuletlaw13.QuerLeast: the walk. -/
import Derived.Test.YtodnphnbnneegaaQuer
set_option linter.unusedVariables false
set_option linter.unusedSimpArgs false
set_option maxHeartbeats 4000000
namespace Go.Proofs.Ytodnphnbnneegaa.VL
open Go.RowKit Go.Proofs

/-- The least of the first k + 1. -/
def minTo (l : List Int) : Nat → Int
  | 0 => l.headD 0
  | k + 1 => match l[k + 1]? with
    | some x => if x < minTo l k then x else minTo l k
    | none => minTo l k

theorem minTo_le (l : List Int) : ∀ (k j : Nat) (x : Int), j ≤ k → l[j]? = some x → minTo l k ≤ x
  | 0, j, x, hj, hx => by
    obtain rfl : j = 0 := by omega
    cases l with
    | nil => simp at hx
    | cons y l => simp at hx; subst hx; simp [minTo]
  | k + 1, j, x, hj, hx => by
    simp only [minTo]
    by_cases hjk : j = k + 1
    · subst hjk
      rw [hx]
      simp only
      split <;> omega
    · have := minTo_le l k j x (by omega) hx
      split
      · split <;> omega
      · exact this

theorem minTo_mem (l : List Int) (h : 0 < l.length) : ∀ k, ∃ j : Nat, l[j]? = some (minTo l k)
  | 0 => ⟨0, by cases l with | nil => simp at h | cons y l => rfl⟩
  | k + 1 => by
    obtain ⟨j, hj⟩ := minTo_mem l h k
    simp only [minTo]
    split
    · rename_i x hx
      split
      · exact ⟨k + 1, hx⟩
      · exact ⟨j, hj⟩
    · exact ⟨j, hj⟩

def leastOf (l : List Int) : Int := minTo l (l.length - 1)

theorem C_Min (t : Tok) (l : List Int) (h0 : 0 < l.length) (hl : l.length < 9223372036854775808) : AC Try.prog f_slices_Min_api_Addr_api_Addr [.sl t 1 (l.map avI)] (avI (leastOf l)) := by
  refine ac_slices_Min_api_Addr_api_Addr ?_ (Nat.le_add_left 1 24)
  obtain ⟨y, hy⟩ : ∃ y, l[0]? = some y := ⟨l[0], List.getElem?_eq_getElem h0⟩
  have hd : l.headD 0 = y := by cases l with | nil => simp at h0 | cons z l => simpa using hy
  have h1 : decide ((l.length : Int) < 1) = false := by simp; omega
  simp only [go_sem, Nat.reduceAdd, Nat.reduceLT, Nat.reduceEqDiff, Nat.reduceBEq, Nat.reduceLeDiff, Nat.reduceSub, Int.reduceToNat, reduceCtorEq, ↓reduceIte, c_slices_Min_api_Addr_api_Addr, h1, Int.toNat_zero, hy, avI, Int.le_refl]
  refine aw_loop (fun m E => ∃ k, k + 1 + m = l.length ∧ E = mkE [(0, .sl t 1 (l.map avI)), (3, avI (minTo l k)), (4, .lit (.int .i64 ((k + 1 : Nat) : Int)))] []) (l.length - 1) ?_ ?_
  · exact ⟨0, by omega, by simp only [go_sem, Nat.reduceAdd, Nat.reduceLT, Nat.reduceEqDiff, Nat.reduceBEq, Nat.reduceLeDiff, Nat.reduceSub, Int.reduceToNat, reduceCtorEq, ↓reduceIte, minTo, hd, avI]; rfl⟩
  · rintro m _ ⟨k, hk, rfl⟩
    simp only [go_sem, Nat.reduceAdd, Nat.reduceLT, Nat.reduceEqDiff, Nat.reduceBEq, Nat.reduceLeDiff, Nat.reduceSub, Int.reduceToNat, reduceCtorEq, ↓reduceIte, avI]
    refine condX_of (fun h => ?_) (fun h => ?_)
    · have hkl : k + 1 < l.length := by have := of_decide_eq_true h
                                        omega
      obtain ⟨x, hx⟩ : ∃ x, l[k + 1]? = some x := ⟨l[k + 1], List.getElem?_eq_getElem hkl⟩
      have hw := wrap_succ (k + 1) (by omega)
      simp only [go_sem, Nat.reduceAdd, Nat.reduceLT, Nat.reduceEqDiff, Nat.reduceBEq, Nat.reduceLeDiff, Nat.reduceSub, Int.reduceToNat, reduceCtorEq, ↓reduceIte, hx, Int.toNat_natCast, Int.natCast_nonneg, avI, avMm_min, hw]
      exact ⟨m - 1, by omega, k + 1, by omega, by simp only [minTo, hx]⟩
    · have hkl : k = l.length - 1 := by have := of_decide_eq_false h
                                        omega
      simp only [go_sem, Nat.reduceAdd, Nat.reduceLT, Nat.reduceEqDiff, Nat.reduceBEq, Nat.reduceLeDiff, Nat.reduceSub, Int.reduceToNat, reduceCtorEq, ↓reduceIte]
      rw [leastOf, hkl]

theorem C_IndexA (t : Tok) (l : List Int) (v : Int) (hl : l.length < 9223372036854775808) : AC Try.prog f_slices_Index_api_Addr_api_Addr [.sl t 1 (l.map avI), avI v] (.lit (.int .i64 (idxOf (fun x => v == x) l))) := by
  refine ac_slices_Index_api_Addr_api_Addr ?_ (Nat.le_add_left 2 17)
  simp only [go_sem, Nat.reduceAdd, Nat.reduceLT, Nat.reduceEqDiff, Nat.reduceBEq, Nat.reduceLeDiff, Nat.reduceSub, Int.reduceToNat, reduceCtorEq, ↓reduceIte, c_slices_Index_api_Addr_api_Addr, avI]
  refine aw_loop (fun m E => ∃ k, k + m = l.length ∧ (∀ (j : Nat) (y : Int), j < k → l[j]? = some y → (v == y) = false) ∧ E = mkE [(0, .sl t 1 (l.map avI)), (1, avI v), (7, .lit (.int .i64 l.length)), (8, .lit (.int .i64 (k : Nat)))] []) l.length ?_ ?_
  · exact ⟨0, by omega, fun j y hj => absurd hj (Nat.not_lt_zero j), by simp only [go_sem, Nat.reduceAdd, Nat.reduceLT, Nat.reduceEqDiff, Nat.reduceBEq, Nat.reduceLeDiff, Nat.reduceSub, Int.reduceToNat, reduceCtorEq, ↓reduceIte, Int.ofNat_zero, avI]⟩
  · rintro m _ ⟨k, hk, hall, rfl⟩
    simp only [go_sem, Nat.reduceAdd, Nat.reduceLT, Nat.reduceEqDiff, Nat.reduceBEq, Nat.reduceLeDiff, Nat.reduceSub, Int.reduceToNat, reduceCtorEq, ↓reduceIte, avI]
    refine condX_of (fun h => ?_) (fun h => ?_)
    · have hkl : k < l.length := by simpa using h
      obtain ⟨x, hx⟩ : ∃ x, l[k]? = some x := ⟨l[k], List.getElem?_eq_getElem hkl⟩
      have hw := wrap_succ k (by omega)
      simp only [go_sem, Nat.reduceAdd, Nat.reduceLT, Nat.reduceEqDiff, Nat.reduceBEq, Nat.reduceLeDiff, Nat.reduceSub, Int.reduceToNat, reduceCtorEq, ↓reduceIte, h, hx, Int.toNat_natCast, Int.natCast_nonneg, avI, List.getElem?_map]
      refine condX_of (fun hp => ?_) (fun hp => ?_)
      · simp only [go_sem, Nat.reduceAdd, Nat.reduceLT, Nat.reduceEqDiff, Nat.reduceBEq, Nat.reduceLeDiff, Nat.reduceSub, Int.reduceToNat, reduceCtorEq, ↓reduceIte, idxOf_some (p := fun x => v == x) hx hp hall]
      · simp only [go_sem, Nat.reduceAdd, Nat.reduceLT, Nat.reduceEqDiff, Nat.reduceBEq, Nat.reduceLeDiff, Nat.reduceSub, Int.reduceToNat, reduceCtorEq, ↓reduceIte, hw]
        refine ⟨m - 1, by omega, k + 1, by omega, fun j y hj hy => ?_, rfl⟩
        by_cases hjk : j = k
        · subst hjk
          rw [hx] at hy
          injection hy with hy
          rw [← hy]
          exact hp
        · exact hall j y (by omega) hy
    · have hkl : k = l.length := by have : ¬ k < l.length := by simpa using h
                                    omega
      have e : idxOf (fun x => v == x) l = -1 := idxOf_none fun i x hi => hall i x (by have := (List.getElem?_eq_some_iff.1 hi).1; omega) hi
      simp only [go_sem, Nat.reduceAdd, Nat.reduceLT, Nat.reduceEqDiff, Nat.reduceBEq, Nat.reduceLeDiff, Nat.reduceSub, Int.reduceToNat, reduceCtorEq, ↓reduceIte, h, e]

/-- The place of the first least; what it is. -/
def leastAt (l : List Int) : Nat := (l.findIdx? fun x => leastOf l == x).getD 0

theorem leastAt_spec (l : List Int) (h : 0 < l.length) : leastAt l < l.length ∧ l[leastAt l]? = some (leastOf l) ∧ idxOf (fun x => leastOf l == x) l = (leastAt l : Nat) ∧
    (∀ (j : Nat) (x : Int), l[j]? = some x → leastOf l ≤ x) ∧ ∀ (j : Nat) (x : Int), j < leastAt l → l[j]? = some x → leastOf l < x := by
  have hle : ∀ (j : Nat) (x : Int), l[j]? = some x → leastOf l ≤ x := fun j x hx => minTo_le l (l.length - 1) j x (by have := (List.getElem?_eq_some_iff.1 hx).1; omega) hx
  obtain ⟨j, hj⟩ := minTo_mem l h (l.length - 1)
  cases hf : l.findIdx? fun x => leastOf l == x with
  | none =>
    exfalso
    rw [List.findIdx?_eq_none_iff] at hf
    have := hf _ (List.mem_of_getElem? hj)
    simp [leastOf] at this
  | some i =>
    have e : leastAt l = i := by rw [leastAt, hf]; rfl
    have e2 : idxOf (fun x => leastOf l == x) l = (i : Nat) := by rw [idxOf, hf]
    rw [List.findIdx?_eq_some_iff_getElem] at hf
    obtain ⟨hi, hp, hall⟩ := hf
    rw [e]
    refine ⟨hi, by rw [List.getElem?_eq_getElem hi]; congr 1; exact (by simpa using hp : leastOf l = l[i]).symm, e2, hle, fun j x hj hx => ?_⟩
    have h1 := hle j x hx
    have h2 := hall j hj
    obtain ⟨hjl, hjx⟩ := List.getElem?_eq_some_iff.1 hx
    rw [hjx] at h2
    have h3 : ¬ leastOf l = x := by simpa using h2
    omega

theorem C_Least (t : Tok) (l : List Int) (ht : lowTok t = t) (hl : l.length < 9223372036854775808) :
    AC Try.prog f_quer_Least [.sl t 1 (l.map avI)] (.tup [.lit (.int .i64 (if 0 < l.length then (leastAt l : Nat) else 0)), .lit (.bool (decide (0 < l.length)))]) := by
  refine ac_quer_Least ?_ (Nat.le_add_left 1 10)
  simp only [go_sem, Nat.reduceAdd, Nat.reduceLT, Nat.reduceEqDiff, Nat.reduceBEq, Nat.reduceLeDiff, Nat.reduceSub, Int.reduceToNat, reduceCtorEq, ↓reduceIte, c_quer_Least]
  refine condX_of (fun h => ?_) (fun h => ?_)
  · have h0 : ¬ 0 < l.length := by have : (l.length : Int) = 0 := by simpa using h
                                   omega
    simp only [go_sem, Nat.reduceAdd, Nat.reduceLT, Nat.reduceEqDiff, Nat.reduceBEq, Nat.reduceLeDiff, Nat.reduceSub, Int.reduceToNat, reduceCtorEq, ↓reduceIte, h0]
  · have h0 : 0 < l.length := by have : ¬ (l.length : Int) = 0 := by simpa using h
                                 omega
    obtain ⟨_, _, hidx, _, _⟩ := leastAt_spec l h0
    simp only [go_sem, Nat.reduceAdd, Nat.reduceLT, Nat.reduceEqDiff, Nat.reduceBEq, Nat.reduceLeDiff, Nat.reduceSub, Int.reduceToNat, reduceCtorEq, ↓reduceIte, ht]
    refine callX_of (C_Min t l h0 hl) ?_
    simp only [go_sem, Nat.reduceAdd, Nat.reduceLT, Nat.reduceEqDiff, Nat.reduceBEq, Nat.reduceLeDiff, Nat.reduceSub, Int.reduceToNat, reduceCtorEq, ↓reduceIte, avI, ht]
    refine callX_of (C_IndexA t l (leastOf l) hl) ?_
    simp only [go_sem, Nat.reduceAdd, Nat.reduceLT, Nat.reduceEqDiff, Nat.reduceBEq, Nat.reduceLeDiff, Nat.reduceSub, Int.reduceToNat, reduceCtorEq, ↓reduceIte, hidx, h0]

theorem leastOf_snoc (l : List Int) (a : Int) (h : 0 < l.length) : leastAt (l ++ [a]) = if a < leastOf l then l.length else leastAt l := by
  obtain ⟨s1, s2, _, s3, s4⟩ := leastAt_spec l h
  obtain ⟨t1, t2, _, t3, t4⟩ := leastAt_spec (l ++ [a]) (by simp)
  have tl : leastAt (l ++ [a]) ≤ l.length := by simp at t1; omega
  have ha : (l ++ [a])[l.length]? = some a := by simp
  have hold : ∀ (j : Nat), j < l.length → (l ++ [a])[j]? = l[j]? := fun j hj => List.getElem?_append_left hj
  split
  · rename_i hlt
    by_cases e : leastAt (l ++ [a]) = l.length
    · exact e
    · have h1 : leastAt (l ++ [a]) < l.length := by omega
      rw [hold _ h1] at t2
      have := s3 _ _ t2
      have := t3 _ _ ha
      omega
  · rename_i hge
    have h1 : leastAt (l ++ [a]) ≤ leastAt l := by
      rcases Nat.lt_or_ge (leastAt l) (leastAt (l ++ [a])) with h2 | h2
      · exfalso
        have h3 := t4 (leastAt l) (leastOf l) h2 (by rw [hold _ s1]; exact s2)
        have h4 : leastOf (l ++ [a]) = a ∨ ∃ j : Nat, l[j]? = some (leastOf (l ++ [a])) := by
          by_cases e : leastAt (l ++ [a]) = l.length
          · rw [e, ha] at t2
            injection t2 with t2
            exact .inl t2.symm
          · exact .inr ⟨leastAt (l ++ [a]), by rw [← hold _ (by omega)]; exact t2⟩
        rcases h4 with h4 | ⟨j, hj⟩
        · omega
        · have := s3 j _ hj
          omega
      · exact h2
    rcases Nat.lt_or_ge (leastAt (l ++ [a])) (leastAt l) with h2 | h2
    · exfalso
      have h3 : leastAt (l ++ [a]) < l.length := by omega
      rw [hold _ h3] at t2
      have h4 := s4 _ _ h2 t2
      have h5 := t3 (leastAt l) (leastOf l) (by rw [hold _ s1]; exact s2)
      omega
    · omega

theorem AC_QuerLeast (l : List Int) (a : Int) : AC Try.prog f_rivuletlaw13_QuerLeast [.sl .none 1 (l.map avI), avI a] (.lit (.bool true)) := by
  refine ac_rivuletlaw13_QuerLeast ?_ (Nat.le_add_left 2 106)
  simp only [go_sem, Nat.reduceAdd, Nat.reduceLT, Nat.reduceEqDiff, Nat.reduceBEq, Nat.reduceLeDiff, Nat.reduceSub, Int.reduceToNat, reduceCtorEq, ↓reduceIte, c_rivuletlaw13_QuerLeast, avI]
  refine callX_of C_first13 ?_
  simp only [go_sem, Nat.reduceAdd, Nat.reduceLT, Nat.reduceEqDiff, Nat.reduceBEq, Nat.reduceLeDiff, Nat.reduceSub, Int.reduceToNat, reduceCtorEq, ↓reduceIte]
  refine guardX_of' (fun h => ?_) (fun h => ?_)
  · simp only [go_sem, Nat.reduceAdd, Nat.reduceLT, Nat.reduceEqDiff, Nat.reduceBEq, Nat.reduceLeDiff, Nat.reduceSub, Int.reduceToNat, reduceCtorEq, ↓reduceIte, h]
  have h20 : l.length ≤ 20 := by have : ¬ (20 : Int) < l.length := by simpa using h
                                 omega
  simp only [go_sem, Nat.reduceAdd, Nat.reduceLT, Nat.reduceEqDiff, Nat.reduceBEq, Nat.reduceLeDiff, Nat.reduceSub, Int.reduceToNat, reduceCtorEq, ↓reduceIte, h]
  refine condX_of (fun h0 => ?_) (fun h0 => ?_)
  · simp only [go_sem, Nat.reduceAdd, Nat.reduceLT, Nat.reduceEqDiff, Nat.reduceBEq, Nat.reduceLeDiff, Nat.reduceSub, Int.reduceToNat, reduceCtorEq, ↓reduceIte]
  have hpos : 0 < l.length := by have : ¬ (l.length : Int) = 0 := by simpa using h0
                                 omega
  obtain ⟨s1, s2, _, s3, s4⟩ := leastAt_spec l hpos
  have d2 : decide (((leastAt l : Nat) : Int) < 0) = false := by simp
  have d3 : decide ((l.length : Int) ≤ ((leastAt l : Nat) : Int)) = false := by simp; omega
  simp only [go_sem, Nat.reduceAdd, Nat.reduceLT, Nat.reduceEqDiff, Nat.reduceBEq, Nat.reduceLeDiff, Nat.reduceSub, Int.reduceToNat, reduceCtorEq, ↓reduceIte, h]
  refine callX_of (C_Least .none l rfl (by omega)) ?_
  simp only [go_sem, Nat.reduceAdd, Nat.reduceLT, Nat.reduceEqDiff, Nat.reduceBEq, Nat.reduceLeDiff, Nat.reduceSub, Int.reduceToNat, reduceCtorEq, ↓reduceIte, hpos, d2, d3]
  refine aw_loop (fun m E => ∃ i, i + m = l.length ∧ E = mkE [(0, .sl .none 1 (l.map avI)), (1, avI a), (5, .lit (.bool true)), (6, .lit (.int .i64 (leastAt l : Nat))), (8, .lit (.int .i64 (i : Nat)))] []) l.length ?_ ?_
  · exact ⟨0, by omega, by simp only [go_sem, Nat.reduceAdd, Nat.reduceLT, Nat.reduceEqDiff, Nat.reduceBEq, Nat.reduceLeDiff, Nat.reduceSub, Int.reduceToNat, reduceCtorEq, ↓reduceIte, Int.ofNat_zero, avI]⟩
  · rintro m _ ⟨i, hi, rfl⟩
    simp only [go_sem, Nat.reduceAdd, Nat.reduceLT, Nat.reduceEqDiff, Nat.reduceBEq, Nat.reduceLeDiff, Nat.reduceSub, Int.reduceToNat, reduceCtorEq, ↓reduceIte, avI]
    refine condX_of (fun hc => ?_) (fun hc => ?_)
    · have hil : i < l.length := by simpa using hc
      obtain ⟨p, hp⟩ : ∃ p, l[i]? = some p := ⟨l[i], List.getElem?_eq_getElem hil⟩
      have e1 : decide (p < leastOf l) = false := by have := s3 i p hp; simp; omega
      have hw := wrap_succ i (by omega)
      simp only [go_sem, Nat.reduceAdd, Nat.reduceLT, Nat.reduceEqDiff, Nat.reduceBEq, Nat.reduceLeDiff, Nat.reduceSub, Int.reduceToNat, reduceCtorEq, ↓reduceIte, hc, hp, s2, e1, Int.toNat_natCast, Int.natCast_nonneg, avI, List.getElem?_map]
      refine guardX_of (fun hd => ?_) (fun hd => ?_)
      · have e2 : (p == leastOf l) = false := by
          have h5 : i < leastAt l := by simpa using hd
          have := s4 i p h5 hp
          simp; omega
        simp only [go_sem, Nat.reduceAdd, Nat.reduceLT, Nat.reduceEqDiff, Nat.reduceBEq, Nat.reduceLeDiff, Nat.reduceSub, Int.reduceToNat, reduceCtorEq, ↓reduceIte, hc, hp, s2, e1, e2, hd, hw, Int.toNat_natCast, Int.natCast_nonneg, avI, List.getElem?_map]
        exact ⟨m - 1, by omega, i + 1, by omega, rfl⟩
      · simp only [go_sem, Nat.reduceAdd, Nat.reduceLT, Nat.reduceEqDiff, Nat.reduceBEq, Nat.reduceLeDiff, Nat.reduceSub, Int.reduceToNat, reduceCtorEq, ↓reduceIte, hc, hp, s2, e1, hd, hw, Int.toNat_natCast, Int.natCast_nonneg, avI, List.getElem?_map]
        exact ⟨m - 1, by omega, i + 1, by omega, rfl⟩
    · have b1 : ∀ τ rows, okBs [] (.sl (.own τ) 1 rows) = true := fun _ _ => rfl
      have l1 : (l.length ≤ 4294967296) = True := by simp; omega
      have l2 : (l.length + 1 ≤ 4294967296) = True := by simp; omega
      have em : (l ++ [a]).map avI = l.map avI ++ [.lit (.int .u32 a)] := by simp [avI]
      have hC := C_Least .none (l ++ [a]) rfl (by simp; omega)
      rw [em, show (l ++ [a]).length = l.length + 1 by simp, leastOf_snoc l a hpos] at hC
      have hne : (((leastAt l : Nat) : Int) == (l.length : Int)) = false := by simp; omega
      simp only [go_sem, Nat.reduceAdd, Nat.reduceLT, Nat.reduceEqDiff, Nat.reduceBEq, Nat.reduceLeDiff, Nat.reduceSub, Int.reduceToNat, reduceCtorEq, ↓reduceIte, hc, avApp_own, b1, l1, l2, Nat.zero_add]
      refine callX_of hC ?_
      simp only [go_sem, Nat.reduceAdd, Nat.reduceLT, Nat.reduceEqDiff, Nat.reduceBEq, Nat.reduceLeDiff, Nat.reduceSub, Int.reduceToNat, reduceCtorEq, ↓reduceIte, Nat.zero_lt_succ, List.cons.injEq, and_true]
      refine callX_of ((C_Least .none [] rfl (by decide)).nil [] (by simp)) ?_
      rcases Bool.eq_false_or_eq_true (decide (a < leastOf l)) with h3 | h3
      · have h3' : a < leastOf l := by simpa using h3
        simp only [go_sem, Nat.reduceAdd, Nat.reduceLT, Nat.reduceEqDiff, Nat.reduceBEq, Nat.reduceLeDiff, Nat.reduceSub, Int.reduceToNat, reduceCtorEq, ↓reduceIte, h3, h3', s2, hne, Nat.lt_irrefl, Int.toNat_natCast, Int.natCast_nonneg, avI, List.getElem?_map]
      · have h3' : ¬ a < leastOf l := by simpa using h3
        simp only [go_sem, Nat.reduceAdd, Nat.reduceLT, Nat.reduceEqDiff, Nat.reduceBEq, Nat.reduceLeDiff, Nat.reduceSub, Int.reduceToNat, reduceCtorEq, ↓reduceIte, h3, h3', s2, hne, Nat.lt_irrefl, Int.toNat_natCast, Int.natCast_nonneg, avI, List.getElem?_map]
end Go.Proofs.Ytodnphnbnneegaa.VL
