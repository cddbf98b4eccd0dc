import Derived.Test.YtlaklpeghjanjaaSeat
set_option linter.unusedVariables false
set_option linter.unusedSimpArgs false
set_option maxHeartbeats 4000000
namespace Go.Proofs.Ytlaklpeghjanjaa.VL
open Go.RowKit Go.Proofs

def cells3 (a b c : Int × Int) : List (Nat × List AV) := [(3, [.lit (.int .i64 a.1), .lit (.int .u32 a.2)]), (4, [.lit (.int .i64 b.1), .lit (.int .u32 b.2)]), (5, [.lit (.int .i64 c.1), .lit (.int .u32 c.2)])]

theorem AC_SeatOrder (a b c : Int × Int) : AC Try.prog f_rivuletlaw12_SeatOrder [avS a, avS b, avS c] (.lit (.bool true)) := by
  refine ac_rivuletlaw12_SeatOrder ?_ (Nat.le_add_left 3 120)
  have hlt : bestAt [a, b, c] 3 < 3 := by
    have := bestAt_le [a, b, c] 3
    have e : bestAt [a, b, c] 3 ≠ 3 := by
      have h2 := bestAt_le [a, b, c] 2
      simp only [bestAt] at h2 ⊢
      split
      · split <;> omega
      · omega
    omega
  obtain ⟨q, hq⟩ : ∃ q, [a, b, c][bestAt [a, b, c] 3]? = some q := ⟨[a, b, c][bestAt [a, b, c] 3], List.getElem?_eq_getElem hlt⟩
  have hbest := fun i p hi hp => bestAt_best [a, b, c] 3 (Nat.le_refl 3) i p q hi hp hq
  have e1 : better a.1 a.2 q.1 q.2 = false := hbest 0 a (by decide) rfl
  have e2 : better b.1 b.2 q.1 q.2 = false := hbest 1 b (by decide) rfl
  have e3 : better c.1 c.2 q.1 q.2 = false := hbest 2 c (by decide) rfl
  have hrow : ([a, b, c].map avS)[bestAt [a, b, c] 3]? = some (avS q) := by rw [List.getElem?_map, hq]; rfl
  simp only [List.map_cons, List.map_nil, avS, avSeat] at hrow
  have hge : decide ((0 : Int) ≤ ((bestAt [a, b, c] 3 : Nat) : Int)) = true := by simp
  have hl3 : decide (((bestAt [a, b, c] 3 : Nat) : Int) < 3) = true := by simp; omega
  have tot := better_total a b
  have asy := better_asym a b
  have tra := better_trans a b c
  simp only [betterP] at tot asy tra
  unfold c_rivuletlaw12_SeatOrder
  refine aw_mid (fun E => E = mkE [(3, .lp 3 0), (4, .lp 4 0), (5, .lp 5 0)] (cells3 a b c)) ?_ ?_
  · simp only [go_sem, Nat.reduceAdd, Nat.reduceLT, Nat.reduceEqDiff, Nat.reduceBEq, Nat.reduceLeDiff, Nat.reduceSub, Int.reduceToNat, reduceCtorEq, ↓reduceIte, avS, avSeat, cells3]
  rintro _ rfl
  refine aw_mid (fun E => E = mkE [(3, .lp 3 0), (4, .lp 4 0), (5, .lp 5 0), (7, .lit (.bool true))] (cells3 a b c)) ?_ ?_
  · simp only [go_sem, Nat.reduceAdd, Nat.reduceLT, Nat.reduceEqDiff, Nat.reduceBEq, Nat.reduceLeDiff, Nat.reduceSub, Int.reduceToNat, reduceCtorEq, ↓reduceIte, cells3]
    refine callX_of C_first12 ?_
    simp only [go_sem, Nat.reduceAdd, Nat.reduceLT, Nat.reduceEqDiff, Nat.reduceBEq, Nat.reduceLeDiff, Nat.reduceSub, Int.reduceToNat, reduceCtorEq, ↓reduceIte]
  rintro _ rfl
  refine aw_mid (fun E => E = mkE [(3, .lp 3 0), (4, .lp 4 0), (5, .lp 5 0), (7, .lit (.bool true)), (15, .lit (.bool false))] (cells3 a b c)) ?_ ?_
  · simp only [go_sem, Nat.reduceAdd, Nat.reduceLT, Nat.reduceEqDiff, Nat.reduceBEq, Nat.reduceLeDiff, Nat.reduceSub, Int.reduceToNat, reduceCtorEq, ↓reduceIte, cells3]
  rintro _ rfl
  refine aw_mid (fun E => E = mkE [(3, .lp 3 0), (4, .lp 4 0), (5, .lp 5 0), (7, .lit (.bool true)), (8, .lit (.bool (a.1 == b.1 && a.2 == b.2))), (15, .lit (.bool false))] (cells3 a b c)) ?_ ?_
  · simp only [go_sem, Nat.reduceAdd, Nat.reduceLT, Nat.reduceEqDiff, Nat.reduceBEq, Nat.reduceLeDiff, Nat.reduceSub, Int.reduceToNat, reduceCtorEq, ↓reduceIte, cells3]
    refine guardX_of (fun h1 => ?_) (fun h1 => ?_) <;> simp only [go_sem, Nat.reduceAdd, Nat.reduceLT, Nat.reduceEqDiff, Nat.reduceBEq, Nat.reduceLeDiff, Nat.reduceSub, Int.reduceToNat, reduceCtorEq, ↓reduceIte, h1]
  rintro _ rfl
  refine aw_mid (fun E => E = mkE [(3, .lp 3 0), (4, .lp 4 0), (5, .lp 5 0), (7, .lit (.bool true)), (15, .lit (.bool false)), (63, .lit (.bool false))] (cells3 a b c)) ?_ ?_
  · have tot' : (a.1 == b.1 && a.2 == b.2) = !(better a.1 a.2 b.1 b.2 || better b.1 b.2 a.1 a.2) := by rw [tot, Bool.not_not]
    rw [tot']
    cases hab : better a.1 a.2 b.1 b.2 <;> cases hba : better b.1 b.2 a.1 a.2 <;> simp only [hab, hba, Bool.true_eq_false, Bool.false_eq_true, forall_const, false_implies] at asy tra
    all_goals cases hbc : better b.1 b.2 c.1 c.2 <;> cases hac : better a.1 a.2 c.1 c.2 <;> try simp only [hbc, hac, Bool.true_eq_false, Bool.false_eq_true, forall_const, false_implies] at tra
    all_goals
      simp only [go_sem, Nat.reduceAdd, Nat.reduceLT, Nat.reduceEqDiff, Nat.reduceBEq, Nat.reduceLeDiff, Nat.reduceSub, Int.reduceToNat, reduceCtorEq, ↓reduceIte, cells3]
      repeat (refine callX_of (C_Better _ _ _ _) ?_; simp only [go_sem, Nat.reduceAdd, Nat.reduceLT, Nat.reduceEqDiff, Nat.reduceBEq, Nat.reduceLeDiff, Nat.reduceSub, Int.reduceToNat, reduceCtorEq, ↓reduceIte, hab, hba, hbc, hac])
  rintro _ rfl
  simp only [go_sem, Nat.reduceAdd, Nat.reduceLT, Nat.reduceEqDiff, Nat.reduceBEq, Nat.reduceLeDiff, Nat.reduceSub, Int.reduceToNat, reduceCtorEq, ↓reduceIte, cells3]
  refine callX_of (C_Best .none [a, b, c] (show 3 < 9223372036854775808 by decide)) ?_
  simp only [go_sem, Nat.reduceAdd, Nat.reduceLT, Nat.reduceEqDiff, Nat.reduceBEq, Nat.reduceLeDiff, Nat.reduceSub, Int.reduceToNat, reduceCtorEq, ↓reduceIte, hge, hl3, hrow, Int.toNat_natCast, Int.natCast_nonneg, Nat.zero_lt_succ]
  repeat (refine callX_of (C_Better _ _ _ _) ?_; simp only [go_sem, Nat.reduceAdd, Nat.reduceLT, Nat.reduceEqDiff, Nat.reduceBEq, Nat.reduceLeDiff, Nat.reduceSub, Int.reduceToNat, reduceCtorEq, ↓reduceIte, e1, e2, e3, hge, hl3, hrow, Int.toNat_natCast, Int.natCast_nonneg])
  refine callX_of (C_Number 1 2 (by decide) (by decide)) ?_
  simp only [go_sem, Nat.reduceAdd, Nat.reduceLT, Nat.reduceEqDiff, Nat.reduceBEq, Nat.reduceLeDiff, Nat.reduceSub, Int.reduceToNat, reduceCtorEq, ↓reduceIte, Int.reduceMod, Int.reduceBEq]
end Go.Proofs.Ytlaklpeghjanjaa.VL
