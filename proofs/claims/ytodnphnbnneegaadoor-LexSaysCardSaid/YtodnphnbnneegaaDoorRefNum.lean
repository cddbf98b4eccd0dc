/- rivuletref1.Number: the walk. -/
import Derived.Test.YtodnphnbnneegaaDoorAddr2
import Derived.Test.YtodnphnbnneegaaDoorWorld
set_option linter.unusedVariables false
set_option linter.unusedSimpArgs false
set_option maxHeartbeats 4000000
namespace Go.Proofs.YtodnphnbnneegaaDoor.VL
open Go.RowKit Go.Proofs

/-- rivuletref1.Number: its loop. -/
def rNumGo : Nat → List UInt8 → Int
  | n, [] => (n : Nat)
  | n, b :: r => if b.toNat < 48 then -1 else if 57 < b.toNat then -1 else rNumGo (10 * n + (b.toNat - 48)) r
def rNum (l : List UInt8) (digits : Nat) : Int :=
  if l.length < 1 then -1 else if digits < l.length then -1 else if l[0]? = some 48 ∧ 1 < l.length then -1 else rNumGo 0 l

theorem C_rNumber (s : ByteArray) (digits : Nat) (hd : digits ≤ 9) : AC Tryd.prog f_rivuletref1_Number [avStr s, .lit (.int .i64 (digits : Nat))] (.lit (.int .i64 (rNum s.data.toList digits))) := by
  refine ac_rivuletref1_Number ?_ (Nat.le_add_left 2 _)
  have hsz : s.size = s.data.toList.length := Lib.size_eq s
  simp only [go_sem, Nat.reduceAdd, Nat.reduceLT, Nat.reduceEqDiff, Nat.reduceBEq, Nat.reduceLeDiff, Nat.reduceSub, Int.reduceToNat, reduceCtorEq, ↓reduceIte, c_rivuletref1_Number, avStr]
  unfold rNum
  by_cases h1 : s.data.toList.length < 1
  · have e1 : ((s.size : Int) < 1) = True := eq_true (by omega)
    simp only [go_sem, Nat.reduceAdd, Nat.reduceLT, Nat.reduceEqDiff, Nat.reduceBEq, Nat.reduceLeDiff, Nat.reduceSub, Int.reduceToNat, reduceCtorEq, ↓reduceIte, e1, decide_true, if_pos h1]
  have e1 : ((s.size : Int) < 1) = False := eq_false (by omega)
  rw [if_neg h1]
  by_cases h2 : digits < s.data.toList.length
  · have e2 : ((digits : Int) < (s.size : Int)) = True := eq_true (by omega)
    simp only [go_sem, Nat.reduceAdd, Nat.reduceLT, Nat.reduceEqDiff, Nat.reduceBEq, Nat.reduceLeDiff, Nat.reduceSub, Int.reduceToNat, reduceCtorEq, ↓reduceIte, e1, e2, decide_true, decide_false, if_pos h2]
  have e2 : ((digits : Int) < (s.size : Int)) = False := eq_false (by omega)
  rw [if_neg h2]
  obtain ⟨b0, hb0⟩ : ∃ b, s.data.toList[0]? = some b := ⟨s.data.toList[0], List.getElem?_eq_getElem (by omega)⟩
  have i0 := avIxs_l s .i64 0 b0 hb0
  rw [show ((0 : Nat) : Int) = 0 from rfl] at i0
  have hz : (((b0.toNat : Nat) : Int) == 48) = decide (b0 = 48) := by
    rw [Bool.eq_iff_iff, beq_iff_eq, decide_eq_true_eq]
    constructor
    · intro h
      exact UInt8.toNat_inj.1 (by show b0.toNat = 48; omega)
    · rintro rfl
      rfl
  have go : ∀ (hno : ¬ (s.data.toList[0]? = some 48 ∧ 1 < s.data.toList.length)), (∃ t : Bool, (decide (b0 = 48)) = t ∧ (t = true → ((1 : Int) < (s.size : Int)) = False)) := by
    intro hno
    refine ⟨_, rfl, fun h => eq_false fun h' => hno ⟨?_, by omega⟩⟩
    rw [hb0, of_decide_eq_true h]
  by_cases h3 : s.data.toList[0]? = some 48 ∧ 1 < s.data.toList.length
  · have e3 : decide (b0 = 48) = true := by
      rw [hb0] at h3
      simpa using h3.1
    have e4 : ((1 : Int) < (s.size : Int)) = True := eq_true (by omega)
    simp only [go_sem, Nat.reduceAdd, Nat.reduceLT, Nat.reduceEqDiff, Nat.reduceBEq, Nat.reduceLeDiff, Nat.reduceSub, Int.reduceToNat, reduceCtorEq, ↓reduceIte, e1, e2, decide_true, decide_false, i0, hz, e3, e4, if_pos h3]
  rw [if_neg h3]
  obtain ⟨t, ht, ht2⟩ := go h3
  have hpow : ∀ k, k ≤ s.data.toList.length → 10 ^ k ≤ 10 ^ 9 := fun k hk => Nat.pow_le_pow_right (by decide) (by omega)
  cases t
  · simp only [go_sem, Nat.reduceAdd, Nat.reduceLT, Nat.reduceEqDiff, Nat.reduceBEq, Nat.reduceLeDiff, Nat.reduceSub, Int.reduceToNat, reduceCtorEq, ↓reduceIte, e1, e2, decide_true, decide_false, i0, hz, ht]
    refine aw_loop (fun m E => ∃ (k n : Nat), k + m = s.data.toList.length ∧ n < 10 ^ k ∧ rNumGo 0 s.data.toList = rNumGo n (s.data.toList.drop k) ∧ E = mkE [(0, .lit (.string s)), (5, .lit (.int .i64 (n : Nat))), (6, .lit (.int .i64 (k : Nat)))] []) s.data.toList.length ?_ ?_
    · exact ⟨0, 0, by omega, by decide, rfl, by simp only [go_sem, Nat.reduceAdd, Nat.reduceLT, Nat.reduceEqDiff, Nat.reduceBEq, Nat.reduceLeDiff, Nat.reduceSub, Int.reduceToNat, reduceCtorEq, ↓reduceIte]; rfl⟩
    · rintro m _ ⟨k, n, hk, hn, hr, rfl⟩
      have h9 := hpow k (by omega)
      have hn9 : n < 1000000000 := Nat.lt_of_lt_of_le hn h9
      by_cases hkl : k < s.data.toList.length
      · obtain ⟨b, hb⟩ : ∃ b, s.data.toList[k]? = some b := ⟨s.data.toList[k], List.getElem?_eq_getElem hkl⟩
        have ib := avIxs_l s .i64 k b hb
        have f1 : ((k : Int) < (s.size : Int)) = True := eq_true (by omega)
        have hdrop : s.data.toList.drop k = b :: s.data.toList.drop (k + 1) := by
          rw [List.drop_eq_getElem_cons hkl]
          congr 1
          exact (List.getElem?_eq_some_iff.1 hb).2
        rw [hdrop, rNumGo] at hr
        by_cases hb1 : b.toNat < 48
        · have f2 : (((b.toNat : Nat) : Int) < 48) = True := eq_true (by omega)
          rw [if_pos hb1] at hr
          simp only [go_sem, Nat.reduceAdd, Nat.reduceLT, Nat.reduceEqDiff, Nat.reduceBEq, Nat.reduceLeDiff, Nat.reduceSub, Int.reduceToNat, reduceCtorEq, ↓reduceIte, f1, ib, f2, decide_true, hr]
        have f2 : (((b.toNat : Nat) : Int) < 48) = False := eq_false (by omega)
        rw [if_neg hb1] at hr
        by_cases hb2 : 57 < b.toNat
        · have f3 : ((57 : Int) < ((b.toNat : Nat) : Int)) = True := eq_true (by omega)
          rw [if_pos hb2] at hr
          simp only [go_sem, Nat.reduceAdd, Nat.reduceLT, Nat.reduceEqDiff, Nat.reduceBEq, Nat.reduceLeDiff, Nat.reduceSub, Int.reduceToNat, reduceCtorEq, ↓reduceIte, f1, ib, f2, f3, decide_true, decide_false, hr]
        have f3 : ((57 : Int) < ((b.toNat : Nat) : Int)) = False := eq_false (by omega)
        rw [if_neg hb2] at hr
        have w1 : IntKind.u8.wrap (((b.toNat : Nat) : Int) - 48) = ((b.toNat - 48 : Nat) : Int) := by rw [IntKind.wrap_u8]; omega
        have w2 : IntKind.i64.wrap ((b.toNat - 48 : Nat) : Int) = ((b.toNat - 48 : Nat) : Int) := wrap_nat _ (by omega)
        have w3 : IntKind.i64.wrap (10 * (n : Int)) = ((10 * n : Nat) : Int) := by rw [IntKind.wrap_i64]; omega
        have w4 : IntKind.i64.wrap (((10 * n : Nat) : Int) + ((b.toNat - 48 : Nat) : Int)) = ((10 * n + (b.toNat - 48) : Nat) : Int) := by rw [IntKind.wrap_i64]; omega
        have w5 := wrap_succ k (by omega)
        simp only [go_sem, Nat.reduceAdd, Nat.reduceLT, Nat.reduceEqDiff, Nat.reduceBEq, Nat.reduceLeDiff, Nat.reduceSub, Int.reduceToNat, reduceCtorEq, ↓reduceIte, f1, ib, f2, f3, decide_true, decide_false, w1, w2, w3, w4, w5]
        refine ⟨m - 1, by omega, k + 1, 10 * n + (b.toNat - 48), by omega, ?_, hr, rfl⟩
        rw [Nat.pow_succ]
        omega
      · have f1 : ((k : Int) < (s.size : Int)) = False := eq_false (by omega)
        rw [List.drop_eq_nil_of_le (by omega), rNumGo] at hr
        simp only [go_sem, Nat.reduceAdd, Nat.reduceLT, Nat.reduceEqDiff, Nat.reduceBEq, Nat.reduceLeDiff, Nat.reduceSub, Int.reduceToNat, reduceCtorEq, ↓reduceIte, f1, decide_false, hr]
  · simp only [go_sem, Nat.reduceAdd, Nat.reduceLT, Nat.reduceEqDiff, Nat.reduceBEq, Nat.reduceLeDiff, Nat.reduceSub, Int.reduceToNat, reduceCtorEq, ↓reduceIte, e1, e2, decide_true, decide_false, i0, hz, ht, ht2 rfl]
    refine aw_loop (fun m E => ∃ (k n : Nat), k + m = s.data.toList.length ∧ n < 10 ^ k ∧ rNumGo 0 s.data.toList = rNumGo n (s.data.toList.drop k) ∧ E = mkE [(0, .lit (.string s)), (5, .lit (.int .i64 (n : Nat))), (6, .lit (.int .i64 (k : Nat)))] []) s.data.toList.length ?_ ?_
    · exact ⟨0, 0, by omega, by decide, rfl, by simp only [go_sem, Nat.reduceAdd, Nat.reduceLT, Nat.reduceEqDiff, Nat.reduceBEq, Nat.reduceLeDiff, Nat.reduceSub, Int.reduceToNat, reduceCtorEq, ↓reduceIte]; rfl⟩
    · rintro m _ ⟨k, n, hk, hn, hr, rfl⟩
      have h9 := hpow k (by omega)
      have hn9 : n < 1000000000 := Nat.lt_of_lt_of_le hn h9
      by_cases hkl : k < s.data.toList.length
      · obtain ⟨b, hb⟩ : ∃ b, s.data.toList[k]? = some b := ⟨s.data.toList[k], List.getElem?_eq_getElem hkl⟩
        have ib := avIxs_l s .i64 k b hb
        have f1 : ((k : Int) < (s.size : Int)) = True := eq_true (by omega)
        have hdrop : s.data.toList.drop k = b :: s.data.toList.drop (k + 1) := by
          rw [List.drop_eq_getElem_cons hkl]
          congr 1
          exact (List.getElem?_eq_some_iff.1 hb).2
        rw [hdrop, rNumGo] at hr
        by_cases hb1 : b.toNat < 48
        · have f2 : (((b.toNat : Nat) : Int) < 48) = True := eq_true (by omega)
          rw [if_pos hb1] at hr
          simp only [go_sem, Nat.reduceAdd, Nat.reduceLT, Nat.reduceEqDiff, Nat.reduceBEq, Nat.reduceLeDiff, Nat.reduceSub, Int.reduceToNat, reduceCtorEq, ↓reduceIte, f1, ib, f2, decide_true, hr]
        have f2 : (((b.toNat : Nat) : Int) < 48) = False := eq_false (by omega)
        rw [if_neg hb1] at hr
        by_cases hb2 : 57 < b.toNat
        · have f3 : ((57 : Int) < ((b.toNat : Nat) : Int)) = True := eq_true (by omega)
          rw [if_pos hb2] at hr
          simp only [go_sem, Nat.reduceAdd, Nat.reduceLT, Nat.reduceEqDiff, Nat.reduceBEq, Nat.reduceLeDiff, Nat.reduceSub, Int.reduceToNat, reduceCtorEq, ↓reduceIte, f1, ib, f2, f3, decide_true, decide_false, hr]
        have f3 : ((57 : Int) < ((b.toNat : Nat) : Int)) = False := eq_false (by omega)
        rw [if_neg hb2] at hr
        have w1 : IntKind.u8.wrap (((b.toNat : Nat) : Int) - 48) = ((b.toNat - 48 : Nat) : Int) := by rw [IntKind.wrap_u8]; omega
        have w2 : IntKind.i64.wrap ((b.toNat - 48 : Nat) : Int) = ((b.toNat - 48 : Nat) : Int) := wrap_nat _ (by omega)
        have w3 : IntKind.i64.wrap (10 * (n : Int)) = ((10 * n : Nat) : Int) := by rw [IntKind.wrap_i64]; omega
        have w4 : IntKind.i64.wrap (((10 * n : Nat) : Int) + ((b.toNat - 48 : Nat) : Int)) = ((10 * n + (b.toNat - 48) : Nat) : Int) := by rw [IntKind.wrap_i64]; omega
        have w5 := wrap_succ k (by omega)
        simp only [go_sem, Nat.reduceAdd, Nat.reduceLT, Nat.reduceEqDiff, Nat.reduceBEq, Nat.reduceLeDiff, Nat.reduceSub, Int.reduceToNat, reduceCtorEq, ↓reduceIte, f1, ib, f2, f3, decide_true, decide_false, w1, w2, w3, w4, w5]
        refine ⟨m - 1, by omega, k + 1, 10 * n + (b.toNat - 48), by omega, ?_, hr, rfl⟩
        rw [Nat.pow_succ]
        omega
      · have f1 : ((k : Int) < (s.size : Int)) = False := eq_false (by omega)
        rw [List.drop_eq_nil_of_le (by omega), rNumGo] at hr
        simp only [go_sem, Nat.reduceAdd, Nat.reduceLT, Nat.reduceEqDiff, Nat.reduceBEq, Nat.reduceLeDiff, Nat.reduceSub, Int.reduceToNat, reduceCtorEq, ↓reduceIte, f1, decide_false, hr]

end Go.Proofs.YtodnphnbnneegaaDoor.VL
