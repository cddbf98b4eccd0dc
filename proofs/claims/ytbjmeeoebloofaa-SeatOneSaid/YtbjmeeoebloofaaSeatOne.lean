/- rivuletlaw12.SeatOne: the walk. -/
import Derived.Test.YtbjmeeoebloofaaSeat
set_option linter.unusedVariables false
set_option linter.unusedSimpArgs false
set_option maxHeartbeats 4000000
namespace Go.Proofs.Ytbjmeeoebloofaa.VL
open Go.RowKit Go.Proofs

theorem bestAt_prefix (l r : List (Int × Int)) : ∀ k, k ≤ l.length → bestAt (l ++ r) k = bestAt l k
  | 0, _ => rfl
  | k + 1, h => by
    have hb := bestAt_le l k
    simp only [bestAt, bestAt_prefix l r k (by omega)]
    rw [List.getElem?_append_left (by omega), List.getElem?_append_left (by omega)]

theorem bestAt_lt (l : List (Int × Int)) (h : 0 < l.length) : bestAt l l.length < l.length := by
  obtain ⟨k, hk⟩ : ∃ k, l.length = k + 1 := ⟨l.length - 1, by omega⟩
  have hb := bestAt_le l k
  rw [hk]
  simp only [bestAt]
  split
  · split <;> omega
  · omega

theorem bestAt_snoc (l : List (Int × Int)) (a q : Int × Int) (h : 0 < l.length) (hq : l[bestAt l l.length]? = some q) : bestAt (l ++ [a]) (l.length + 1) = if betterP a q then l.length else bestAt l l.length := by
  have hlt := bestAt_lt l h
  simp only [bestAt, bestAt_prefix l [a] l.length (Nat.le_refl _)]
  rw [List.getElem?_append_right (Nat.le_refl _), List.getElem?_append_left hlt, hq]
  simp

theorem AC_SeatOne (l : List (Int × Int)) (a : Int × Int) : AC Try.prog f_rivuletlaw12_SeatOne [.sl .none 2 (l.map avS), avS a] (.lit (.bool true)) := by
  refine ac_rivuletlaw12_SeatOne ?_ (Nat.le_add_left 2 130)
  simp only [go_sem, Nat.reduceAdd, Nat.reduceLT, Nat.reduceEqDiff, Nat.reduceBEq, Nat.reduceLeDiff, Nat.reduceSub, Int.reduceToNat, reduceCtorEq, ↓reduceIte, c_rivuletlaw12_SeatOne, avS, avSeat]
  refine callX_of C_first12 ?_
  simp only [go_sem, Nat.reduceAdd, Nat.reduceLT, Nat.reduceEqDiff, Nat.reduceBEq, Nat.reduceLeDiff, Nat.reduceSub, Int.reduceToNat, reduceCtorEq, ↓reduceIte]
  refine guardX_of' (fun h => ?_) (fun h => ?_)
  · simp only [go_sem, Nat.reduceAdd, Nat.reduceLT, Nat.reduceEqDiff, Nat.reduceBEq, Nat.reduceLeDiff, Nat.reduceSub, Int.reduceToNat, reduceCtorEq, ↓reduceIte, h]
  have h20 : l.length ≤ 20 := by have : ¬ (20 : Int) < l.length := by simpa using h
                                 omega
  simp only [go_sem, Nat.reduceAdd, Nat.reduceLT, Nat.reduceEqDiff, Nat.reduceBEq, Nat.reduceLeDiff, Nat.reduceSub, Int.reduceToNat, reduceCtorEq, ↓reduceIte, h]
  refine condX_of (fun h0 => ?_) (fun h0 => ?_)
  · simp only [go_sem, Nat.reduceAdd, Nat.reduceLT, Nat.reduceEqDiff, Nat.reduceBEq, Nat.reduceLeDiff, Nat.reduceSub, Int.reduceToNat, reduceCtorEq, ↓reduceIte]
  have hpos : 0 < l.length := by have : ¬ (l.length : Int) = 0 := by simpa using h0
                                 omega
  have hB := bestAt_lt l hpos
  obtain ⟨q, hq⟩ : ∃ q, l[bestAt l l.length]? = some q := ⟨l[bestAt l l.length], List.getElem?_eq_getElem hB⟩
  have d1 : decide (0 < l.length) = true := by simpa using hpos
  have d2 : decide (((bestAt l l.length : Nat) : Int) < 0) = false := by simp
  have d3 : decide ((l.length : Int) ≤ ((bestAt l l.length : Nat) : Int)) = false := by simp; omega
  simp only [go_sem, Nat.reduceAdd, Nat.reduceLT, Nat.reduceEqDiff, Nat.reduceBEq, Nat.reduceLeDiff, Nat.reduceSub, Int.reduceToNat, reduceCtorEq, ↓reduceIte, h]
  refine callX_of (C_Best .none l (by omega)) ?_
  simp only [go_sem, Nat.reduceAdd, Nat.reduceLT, Nat.reduceEqDiff, Nat.reduceBEq, Nat.reduceLeDiff, Nat.reduceSub, Int.reduceToNat, reduceCtorEq, ↓reduceIte, d1, d2, d3]
  refine aw_loop (fun m E => ∃ i, i + m = l.length ∧ E = mkE [(0, .sl .none 2 (l.map avS)), (3, .lp 3 0), (6, .lit (.int .i64 (bestAt l l.length : Nat))), (8, .lit (.int .i64 (i : Nat)))] [(3, [.lit (.int .i64 a.1), .lit (.int .u32 a.2)])]) l.length ?_ ?_
  · exact ⟨0, by omega, by simp only [go_sem, Nat.reduceAdd, Nat.reduceLT, Nat.reduceEqDiff, Nat.reduceBEq, Nat.reduceLeDiff, Nat.reduceSub, Int.reduceToNat, reduceCtorEq, ↓reduceIte, Int.ofNat_zero]⟩
  · rintro m _ ⟨i, hi, rfl⟩
    simp only [go_sem, Nat.reduceAdd, Nat.reduceLT, Nat.reduceEqDiff, Nat.reduceBEq, Nat.reduceLeDiff, Nat.reduceSub, Int.reduceToNat, reduceCtorEq, ↓reduceIte]
    refine condX_of (fun hc => ?_) (fun hc => ?_)
    · have hil : i < l.length := by simpa using hc
      obtain ⟨p, hp⟩ : ∃ p, l[i]? = some p := ⟨l[i], List.getElem?_eq_getElem hil⟩
      have e1 : better p.1 p.2 q.1 q.2 = false := bestAt_best l l.length (Nat.le_refl _) i p q hil hp hq
      have e2 : decide ((i : Int) < ((bestAt l l.length : Nat) : Int)) = true → better q.1 q.2 p.1 p.2 = true := fun hd => bestAt_first l l.length (Nat.le_refl _) i p q (by simpa using hd) hp hq
      have e3 : decide ((i : Int) < ((bestAt l l.length : Nat) : Int)) = true → (p.1 == q.1) = true → (p.2 == q.2) = false := by
        intro hd h1
        have h2 := e2 hd
        simp only [better, Bool.or_eq_true, decide_eq_true_eq, Bool.and_eq_true, beq_iff_eq, beq_eq_false_iff_ne, ne_eq] at h1 h2 ⊢
        omega
      have e4 := better_asym p a
      have e5 := better_asym a p
      simp only [betterP] at e4 e5
      have hw := wrap_succ i (by omega)
      cases hd : decide ((i : Int) < ((bestAt l l.length : Nat) : Int)) <;> cases h1 : p.1 == q.1 <;> cases h2 : p.2 == q.2 <;> simp only [hd, h1, h2, forall_const, Bool.true_eq_false, Bool.false_eq_true, false_implies] at e3
      all_goals cases h3 : better p.1 p.2 a.1 a.2 <;> simp only [h3, forall_const, Bool.true_eq_false, Bool.false_eq_true, false_implies] at e4
      all_goals
        simp only [go_sem, Nat.reduceAdd, Nat.reduceLT, Nat.reduceEqDiff, Nat.reduceBEq, Nat.reduceLeDiff, Nat.reduceSub, Int.reduceToNat, reduceCtorEq, ↓reduceIte, hc, hp, hq, Int.toNat_natCast, Int.natCast_nonneg, avS, avSeat, List.getElem?_map]
        repeat (refine callX_of (C_Better _ _ _ _) ?_; simp only [go_sem, Nat.reduceAdd, Nat.reduceLT, Nat.reduceEqDiff, Nat.reduceBEq, Nat.reduceLeDiff, Nat.reduceSub, Int.reduceToNat, reduceCtorEq, ↓reduceIte, e1, hd, h1, h2, h3, e4, hw, hp, hq, Int.toNat_natCast, Int.natCast_nonneg, avS, avSeat, List.getElem?_map])
        exact ⟨m - 1, by omega, i + 1, by omega, rfl⟩
    · have hil : i = l.length := by have : ¬ i < l.length := by simpa using hc
                                    omega
      have b1 : ∀ rows, okBs [106] (.sl (.own [102]) 2 rows) = true := fun _ => rfl
      have b2 : ∀ rows, okBs [102] (.sl (.own [104]) 2 rows) = true := fun _ => rfl
      have l1 : (l.length ≤ 4294967296) = True := by simp; omega
      have l2 : (l.length + 1 ≤ 4294967296) = True := by simp; omega
      have em : (l ++ [a]).map avS = l.map avS ++ [.agg [.lit (.int .i64 a.1), .lit (.int .u32 a.2)]] := by simp [avS, avSeat]
      have hC := C_Best .none (l ++ [a]) (by simp; omega)
      rw [em, show (l ++ [a]).length = l.length + 1 by simp, bestAt_snoc l a q hpos hq] at hC
      have irr := better_irr a
      simp only [betterP] at irr hC
      simp only [go_sem, Nat.reduceAdd, Nat.reduceLT, Nat.reduceEqDiff, Nat.reduceBEq, Nat.reduceLeDiff, Nat.reduceSub, Int.reduceToNat, reduceCtorEq, ↓reduceIte, hc, avApp_own, b1, b2, l1, l2, Nat.zero_add]
      refine callX_of hC ?_
      have hrow : (l.map avS)[bestAt l l.length]? = some (avS q) := by rw [List.getElem?_map, hq]; rfl
      have hne : (((bestAt l l.length : Nat) : Int) == (l.length : Int)) = false := by simp; omega
      rcases Bool.eq_false_or_eq_true (better a.1 a.2 q.1 q.2) with h3 | h3
      all_goals
        simp only [go_sem, Nat.reduceAdd, Nat.reduceLT, Nat.reduceEqDiff, Nat.reduceBEq, Nat.reduceLeDiff, Nat.reduceSub, Int.reduceToNat, reduceCtorEq, ↓reduceIte, h3, hq, hne, List.cons.injEq, and_true, Int.toNat_natCast, Int.natCast_nonneg, avS, avSeat, List.getElem?_map]
        refine callX_of (C_Better _ _ _ _) ?_
        simp only [go_sem, Nat.reduceAdd, Nat.reduceLT, Nat.reduceEqDiff, Nat.reduceBEq, Nat.reduceLeDiff, Nat.reduceSub, Int.reduceToNat, reduceCtorEq, ↓reduceIte, h3, hne]
        refine callX_of (C_Better _ _ _ _) ?_
        simp only [go_sem, Nat.reduceAdd, Nat.reduceLT, Nat.reduceEqDiff, Nat.reduceBEq, Nat.reduceLeDiff, Nat.reduceSub, Int.reduceToNat, reduceCtorEq, ↓reduceIte, h3, irr]
        refine callX_of (C_Number 1 2 (by decide) (by decide)) ?_
        simp only [go_sem, Nat.reduceAdd, Nat.reduceLT, Nat.reduceEqDiff, Nat.reduceBEq, Nat.reduceLeDiff, Nat.reduceSub, Int.reduceToNat, reduceCtorEq, ↓reduceIte, Int.reduceMod, Int.reduceBEq]
end Go.Proofs.Ytbjmeeoebloofaa.VL
