/- rivuletlaw13.QuerTakes: the walk. -/
import Derived.Test.YtbjmeeoebloofaaQuer
set_option linter.unusedVariables false
set_option linter.unusedSimpArgs false
set_option maxHeartbeats 4000000
namespace Go.Proofs.Ytbjmeeoebloofaa.VL
open Go.RowKit Go.Proofs

/-- One that hears nobody, behind k ticks. -/
def turnAt (k : Nat) : Int × Int := if k = 0 then (0, 3) else if k = 1 then (0, 2) else if k = 2 then (0, 1) else (1, 0)

theorem turn_step (k : Nat) (own : Int) : stepQ (turnAt k) own [] = turnAt (k + 1) := by
  unfold turnAt stepQ
  match k with
  | 0 => rfl
  | 1 => rfl
  | 2 => rfl
  | k + 3 => simp

theorem turn_asks (k : Nat) : ((turnAt (k + 1)).1 == 1) = decide ((3 : Int) ≤ ((k + 1 : Nat) : Int)) := by
  unfold turnAt
  match k with
  | 0 => rfl
  | 1 => rfl
  | k + 2 =>
    have e : decide ((3 : Int) ≤ ((k + 2 + 1 : Nat) : Int)) = true := by simp; omega
    rw [e]
    simp

theorem AC_QuerTakes (own other n : Int) : AC Try.prog f_rivuletlaw13_QuerTakes [avI own, avI other, .lit (.int .i64 n)] (.lit (.bool true)) := by
  refine ac_rivuletlaw13_QuerTakes ?_ (Nat.le_add_left 3 47)
  simp only [go_sem, Nat.reduceAdd, Nat.reduceLT, Nat.reduceEqDiff, Nat.reduceBEq, Nat.reduceLeDiff, Nat.reduceSub, Int.reduceToNat, reduceCtorEq, ↓reduceIte, c_rivuletlaw13_QuerTakes, avI]
  refine callX_of C_first13 ?_
  simp only [go_sem, Nat.reduceAdd, Nat.reduceLT, Nat.reduceEqDiff, Nat.reduceBEq, Nat.reduceLeDiff, Nat.reduceSub, Int.reduceToNat, reduceCtorEq, ↓reduceIte]
  refine callX_of (C_Number n 6 (by decide) (by decide)) ?_
  simp only [go_sem, Nat.reduceAdd, Nat.reduceLT, Nat.reduceEqDiff, Nat.reduceBEq, Nat.reduceLeDiff, Nat.reduceSub, Int.reduceToNat, reduceCtorEq, ↓reduceIte]
  refine callX_of (C_Step (0, 0) own .none [other] (show 1 < 9223372036854775808 by decide) rfl) ?_
  simp only [go_sem, Nat.reduceAdd, Nat.reduceLT, Nat.reduceEqDiff, Nat.reduceBEq, Nat.reduceLeDiff, Nat.reduceSub, Int.reduceToNat, reduceCtorEq, ↓reduceIte, avT]
  refine condX_of (fun h => ?_) (fun h => ?_)
  · have h1 : decide (other < own) = false := by
      have : own ≤ other := by simpa using h
      simp; omega
    simp only [go_sem, Nat.reduceAdd, Nat.reduceLT, Nat.reduceEqDiff, Nat.reduceBEq, Nat.reduceLeDiff, Nat.reduceSub, Int.reduceToNat, reduceCtorEq, ↓reduceIte, h, stepQ, List.any_cons, List.any_nil, h1, Int.reduceLT, Int.reduceBEq]
  have h1 : decide (other < own) = true := by
    have : ¬ own ≤ other := by simpa using h
    simp; omega
  simp only [go_sem, Nat.reduceAdd, Nat.reduceLT, Nat.reduceEqDiff, Nat.reduceBEq, Nat.reduceLeDiff, Nat.reduceSub, Int.reduceToNat, reduceCtorEq, ↓reduceIte, h, stepQ, List.any_cons, List.any_nil, h1, Int.reduceLT, Int.reduceBEq, Int.reduceBNe, bne_self_eq_false]
  have hn0 := Int.emod_nonneg n (show (6 : Int) ≠ 0 by decide)
  have hn6 := Int.emod_lt_of_pos n (show (0 : Int) < 6 by decide)
  refine aw_loop (fun m E => ∃ k : Nat, (k : Int) + m = n % 6 ∧ E = mkE [(0, .lit (.int .u32 own)), (1, .lit (.int .u32 other)), (2, .lit (.int .i64 (n % 6))), (8, .lp 8 0), (9, .lit (.int .i64 ((k + 1 : Nat) : Int)))] [(8, [.lit (.int .i64 (turnAt k).1), .lit (.int .i64 (turnAt k).2)])]) (n % 6).toNat ?_ ?_
  · exact ⟨0, by omega, by simp only [go_sem, Nat.reduceAdd, Nat.reduceLT, Nat.reduceEqDiff, Nat.reduceBEq, Nat.reduceLeDiff, Nat.reduceSub, Int.reduceToNat, reduceCtorEq, ↓reduceIte]; rfl⟩
  · rintro m _ ⟨k, hk, rfl⟩
    simp only [go_sem, Nat.reduceAdd, Nat.reduceLT, Nat.reduceEqDiff, Nat.reduceBEq, Nat.reduceLeDiff, Nat.reduceSub, Int.reduceToNat, reduceCtorEq, ↓reduceIte]
    refine condX_of (fun hc => ?_) (fun hc => ?_)
    · have hkn : ((k + 1 : Nat) : Int) ≤ n % 6 := by simpa using hc
      have hw := wrap_succ (k + 1) (by omega)
      have ha := turn_asks k
      simp only [go_sem, Nat.reduceAdd, Nat.reduceLT, Nat.reduceEqDiff, Nat.reduceBEq, Nat.reduceLeDiff, Nat.reduceSub, Int.reduceToNat, reduceCtorEq, ↓reduceIte]
      refine callX_of ((C_Step (turnAt k) own .none [] (by decide) rfl).nil [_, _] (by simp)) ?_
      rw [turn_step]
      simp only [go_sem, Nat.reduceAdd, Nat.reduceLT, Nat.reduceEqDiff, Nat.reduceBEq, Nat.reduceLeDiff, Nat.reduceSub, Int.reduceToNat, reduceCtorEq, ↓reduceIte, avT, ha, hw]
      cases decide ((3 : Int) ≤ ((k + 1 : Nat) : Int)) <;> first | exact ⟨m - 1, by omega, k + 1, by omega, rfl⟩ | (simp only [go_sem, Nat.reduceAdd, Nat.reduceLT, Nat.reduceEqDiff, Nat.reduceBEq, Nat.reduceLeDiff, Nat.reduceSub, Int.reduceToNat, reduceCtorEq, ↓reduceIte, hw]; exact ⟨m - 1, by omega, k + 1, by omega, rfl⟩)
    · simp only [go_sem, Nat.reduceAdd, Nat.reduceLT, Nat.reduceEqDiff, Nat.reduceBEq, Nat.reduceLeDiff, Nat.reduceSub, Int.reduceToNat, reduceCtorEq, ↓reduceIte]
      refine callX_of (C_Step (turnAt k) own .none [other] (show 1 < 9223372036854775808 by decide) rfl) ?_
      simp only [go_sem, Nat.reduceAdd, Nat.reduceLT, Nat.reduceEqDiff, Nat.reduceBEq, Nat.reduceLeDiff, Nat.reduceSub, Int.reduceToNat, reduceCtorEq, ↓reduceIte, avT, stepQ, List.any_cons, List.any_nil, h1, Int.reduceBEq]
end Go.Proofs.Ytbjmeeoebloofaa.VL
