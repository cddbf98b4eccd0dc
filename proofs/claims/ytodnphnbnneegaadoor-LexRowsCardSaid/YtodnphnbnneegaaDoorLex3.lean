/- chapter 5's first example; rivuletref.SameTexts: contracts. -/
import Derived.Test.YtodnphnbnneegaaDoorLex2
set_option linter.unusedVariables false
set_option linter.unusedSimpArgs false
set_option maxHeartbeats 4000000
namespace Go.Proofs.YtodnphnbnneegaaDoor.VL
open Go.RowKit Go.Proofs

theorem str_eq (p q : ByteArray) : (p.toList == q.toList) = decide (p = q) := by
  rw [Bool.eq_iff_iff, beq_iff_eq, decide_eq_true_eq, ByteArray.toList_eq, ByteArray.toList_eq]
  constructor
  · intro h
    rw [← toB_data p, h, toB_data]
  · rintro rfl
    rfl

def isTexts (x : AV) (a : List ByteArray) : Prop := x = .sl .none 1 (a.map avStr) ∨ (a = [] ∧ x = .sl .nil 0 [])

theorem C_SameTexts (x y : AV) (a b : List ByteArray) (hx : isTexts x a) (hy : isTexts y b) (hla : a.length < 9223372036854775807) : AC Tryd.prog f_rivuletref_SameTexts [x, y] (.lit (.bool (decide (a = b)))) := by
  refine ac_rivuletref_SameTexts ?_ (Nat.le_add_left 2 _)
  by_cases hl : a.length = b.length
  · by_cases ha : a = []
    · subst ha
      have hb : b = [] := by
        cases b with
        | nil => rfl
        | cons => simp at hl
      subst hb
      have ex : ∃ t e, x = .sl t e [] := by rcases hx with rfl | ⟨_, rfl⟩ <;> exact ⟨_, _, rfl⟩
      have ey : ∃ t e, y = .sl t e [] := by rcases hy with rfl | ⟨_, rfl⟩ <;> exact ⟨_, _, rfl⟩
      obtain ⟨t, e, rfl⟩ := ex
      obtain ⟨t', e', rfl⟩ := ey
      simp only [go_sem, Nat.reduceAdd, Nat.reduceLT, Nat.reduceEqDiff, Nat.reduceBEq, Nat.reduceLeDiff, Nat.reduceSub, Int.reduceToNat, reduceCtorEq, ↓reduceIte, c_rivuletref_SameTexts, List.length_nil, c0, bne_self_eq_false]
      refine aw_loop (fun m E => E = mkE [(0, .sl t e []), (1, .sl t' e' []), (5, .lit (.int .i64 0))] []) 1 ?_ ?_
      · simp only [go_sem, Nat.reduceAdd, Nat.reduceLT, Nat.reduceEqDiff, Nat.reduceBEq, Nat.reduceLeDiff, Nat.reduceSub, Int.reduceToNat, reduceCtorEq, ↓reduceIte]
      · rintro m _ rfl
        simp only [go_sem, Nat.reduceAdd, Nat.reduceLT, Nat.reduceEqDiff, Nat.reduceBEq, Nat.reduceLeDiff, Nat.reduceSub, Int.reduceToNat, reduceCtorEq, ↓reduceIte, List.length_nil, c0, Int.lt_irrefl, decide_false]
    · have hb : b ≠ [] := fun e => by rw [e] at hl; simp at hl; exact ha hl
      rcases hx with rfl | ⟨h, _⟩
      case inr => exact absurd h ha
      rcases hy with rfl | ⟨h, _⟩
      case inr => exact absurd h hb
      have e1 : ((a.length : Int) != (b.length : Int)) = false := by rw [hl]; simp
      simp only [go_sem, Nat.reduceAdd, Nat.reduceLT, Nat.reduceEqDiff, Nat.reduceBEq, Nat.reduceLeDiff, Nat.reduceSub, Int.reduceToNat, reduceCtorEq, ↓reduceIte, c_rivuletref_SameTexts, List.length_map, e1]
      refine aw_loop (fun m E => ∃ k : Nat, k + m = a.length ∧ a.take k = b.take k ∧ E = mkE [(0, .sl .none 1 (a.map avStr)), (1, .sl .none 1 (b.map avStr)), (5, .lit (.int .i64 (k : Nat)))] []) a.length ?_ ?_
      · exact ⟨0, by omega, rfl, by simp only [go_sem, Nat.reduceAdd, Nat.reduceLT, Nat.reduceEqDiff, Nat.reduceBEq, Nat.reduceLeDiff, Nat.reduceSub, Int.reduceToNat, reduceCtorEq, ↓reduceIte]; rfl⟩
      · rintro m _ ⟨k, hk, ht, rfl⟩
        by_cases hkl : k < a.length
        · have f1 : ((k : Int) < (a.length : Int)) = True := eq_true (by omega)
          have f2 : (0 ≤ (k : Int)) = True := eq_true (by omega)
          obtain ⟨p, hp⟩ : ∃ p, a[k]? = some p := ⟨a[k], List.getElem?_eq_getElem hkl⟩
          obtain ⟨q, hq⟩ : ∃ q, b[k]? = some q := ⟨b[k]'(by omega), List.getElem?_eq_getElem (by omega)⟩
          have gp : (a.map avStr)[k]? = some (avStr p) := by rw [List.getElem?_map, hp]; rfl
          have gq : (b.map avStr)[k]? = some (avStr q) := by rw [List.getElem?_map, hq]; rfl
          have w1 := wrap_succ k (by omega)
          by_cases h : p = q
          · have e2 : decide (p = q) = true := by simpa using h
            simp only [go_sem, Nat.reduceAdd, Nat.reduceLT, Nat.reduceEqDiff, Nat.reduceBEq, Nat.reduceLeDiff, Nat.reduceSub, Int.reduceToNat, reduceCtorEq, ↓reduceIte, List.length_map, f1, f2, gp, gq, decide_true, Int.toNat_natCast, avStr, str_eq, e2, w1]
            refine ⟨m - 1, by omega, k + 1, by omega, ?_, rfl⟩
            rw [List.take_add_one, List.take_add_one, hp, hq, ht, h]
          · have e2 : decide (p = q) = false := by simpa using h
            have e3 : decide (a = b) = false := by
              simp only [decide_eq_false_iff_not]
              rintro rfl
              rw [hp] at hq
              exact h (Option.some.inj hq)
            simp only [go_sem, Nat.reduceAdd, Nat.reduceLT, Nat.reduceEqDiff, Nat.reduceBEq, Nat.reduceLeDiff, Nat.reduceSub, Int.reduceToNat, reduceCtorEq, ↓reduceIte, List.length_map, f1, f2, gp, gq, decide_true, Int.toNat_natCast, avStr, str_eq, e2, e3]
        · have f1 : ((k : Int) < (a.length : Int)) = False := eq_false (by omega)
          rw [List.take_of_length_le (by omega), List.take_of_length_le (by omega)] at ht
          have e3 : decide (a = b) = true := by simpa using ht
          simp only [go_sem, Nat.reduceAdd, Nat.reduceLT, Nat.reduceEqDiff, Nat.reduceBEq, Nat.reduceLeDiff, Nat.reduceSub, Int.reduceToNat, reduceCtorEq, ↓reduceIte, List.length_map, f1, decide_false, e3]
  · have hne : decide (a = b) = false := by
      simp only [decide_eq_false_iff_not]
      rintro rfl
      exact hl rfl
    have e1 : ((a.length : Int) != (b.length : Int)) = true := by simp only [bne_iff_ne, ne_eq]; omega
    have ex : ∃ t e rows, x = .sl t e rows ∧ rows.length = a.length := by rcases hx with rfl | ⟨rfl, rfl⟩ <;> exact ⟨_, _, _, rfl, by simp⟩
    have ey : ∃ t e rows, y = .sl t e rows ∧ rows.length = b.length := by rcases hy with rfl | ⟨rfl, rfl⟩ <;> exact ⟨_, _, _, rfl, by simp⟩
    obtain ⟨t, e, rows, rfl, h1⟩ := ex
    obtain ⟨t', e', rows', rfl, h2⟩ := ey
    simp only [go_sem, Nat.reduceAdd, Nat.reduceLT, Nat.reduceEqDiff, Nat.reduceBEq, Nat.reduceLeDiff, Nat.reduceSub, Int.reduceToNat, reduceCtorEq, ↓reduceIte, c_rivuletref_SameTexts, h1, h2, e1, hne]

theorem first5 : linesV ⟨#[97, 32, 98, 32, 35, 32, 99]⟩ = [(1, [⟨#[97]⟩, ⟨#[98]⟩])] := by decide +kernel

theorem C_first5 : AC Tryd.prog f_rivuletlaw5_first [] (.lit (.bool true)) := by
  refine ac_rivuletlaw5_first ?_ (Nat.zero_le _)
  have hL := C_Lines ⟨#[97, 32, 98, 32, 35, 32, 99]⟩ (by decide)
  rw [first5] at hL
  have hS := C_SameTexts (.sl .none 1 ([⟨#[97]⟩, ⟨#[98]⟩].map avStr)) (.sl .none 1 ([⟨#[97]⟩, ⟨#[98]⟩].map avStr)) [⟨#[97]⟩, ⟨#[98]⟩] [⟨#[97]⟩, ⟨#[98]⟩] (.inl rfl) (.inl rfl) (by decide)
  rw [decide_eq_true rfl] at hS
  simp only [outAV, List.map_cons, List.map_nil, avLine, avStr] at hL hS
  simp only [go_sem, Nat.reduceAdd, Nat.reduceLT, Nat.reduceEqDiff, Nat.reduceBEq, Nat.reduceLeDiff, Nat.reduceSub, Int.reduceToNat, reduceCtorEq, ↓reduceIte, c_rivuletlaw5_first]
  refine callX_of hL ?_
  simp only [go_sem, Nat.reduceAdd, Nat.reduceLT, Nat.reduceEqDiff, Nat.reduceBEq, Nat.reduceLeDiff, Nat.reduceSub, Int.reduceToNat, reduceCtorEq, ↓reduceIte, List.length_cons, List.length_nil, c1, Nat.reduceAdd, beq_self_eq_true, List.getElem?_cons_zero, c0, Int.le_refl]
  refine callX_of hS ?_
  simp only [go_sem, Nat.reduceAdd, Nat.reduceLT, Nat.reduceEqDiff, Nat.reduceBEq, Nat.reduceLeDiff, Nat.reduceSub, Int.reduceToNat, reduceCtorEq, ↓reduceIte, List.length_cons, List.length_nil, c1, Nat.reduceAdd, beq_self_eq_true, List.getElem?_cons_zero, c0, Int.le_refl]

end Go.Proofs.YtodnphnbnneegaaDoor.VL
